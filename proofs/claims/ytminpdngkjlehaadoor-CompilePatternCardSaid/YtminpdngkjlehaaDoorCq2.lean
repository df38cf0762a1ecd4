/-
  Part 2 of the texts behind the statements of this seat: walks and laws Kp, Kq, Kr, Rd, Rf, Ka, Kb, Kc, Kd, Ke. Conditions: as each states.
-/
import Derived.Test.YtminpdngkjlehaaDoorCq1
import Derived.Deep.LoopGhost
import Derived.Laws.Concat
import Derived.Laws.IdiomStrings
import Derived.Lib.BufferRead
import Derived.StringKeys
set_option linter.unusedSimpArgs false
set_option linter.unusedVariables false
set_option maxRecDepth 100000
set_option maxHeartbeats 80000000
open Array renaming getElem?_eq_some_iff→xk
open Bool renaming and_eq_true→zf,false_eq_true→kQ,or_eq_true→qK
open Go.Proofs.Tryd renaming prog→z6
open List renaming Perm→yd,append_assoc→y7,append_eq_nil_iff→wQ,append_nil→xH,cons→je,cons_append→z7,drop_eq_getElem_cons→wR,drop_of_length_le→xg,drop_succ_cons→wO,drop_zero→y8,eq_nil_of_length_eq_zero→qI,ext_getElem→QO,ext_getElem?→yF,foldl_append→jf,foldl_cons→zQ,foldl_nil→zY,getD_eq_getElem?_getD→ze,getElem?_append_left→zv,getElem?_cons_succ→qD,getElem?_eq_none→zu,getElem?_eq_none_iff→yh,getElem?_eq_some_iff→zy,getElem?_map→zq,getElem?_mapIdx→yr,getElem?_range→xP,getElem?_replicate→yT,getElem?_set→jg,getElem?_take→wZ,getElem?_take_of_lt→kB,getElem_mem→yt,idxOf_append→yU,idxOf_lt_length_of_mem→yY,length_append→zN,length_cons→yZ,length_drop→vW,length_map→zE,length_range→Qk,length_set→yi,length_take→yD,map_append→qQ,map_cons→qU,map_inj_left→Ql,map_map→Y4,map_nil→k6,map_singleton→QI,mem_append→zt,mem_append_left→q6,mem_cons→zG,mem_cons_of_mem→qv,mem_cons_self→zS,mem_eraseIdx_iff_getElem?→QP,mem_iff_getElem→qG,mem_iff_getElem?→yj,mem_map→zC,mem_of_getElem?→zc,mem_range→zo,mem_singleton→zV,nil_append→z8,nodup_append→jr,nodup_iff_pairwise_ne→kS,nodup_range→jo,pairwise_cons→zK,pairwise_map→vd,range→zl,replicate→zI,replicate_succ→QQ,set_cons_zero→zj,take_add_one→xZ,take_append→QR,take_append_of_le_length→jF,take_length→vX,take_of_length_le→zM,take_zero→jG
open Nat renaming eq_zero_or_pos→qR,le_mul_of_pos_right→Zp,le_refl→zp,le_trans→qs,lt_of_lt_of_le→qO,lt_or_ge→zD,lt_trichotomy→yG,min_eq_left→wi,mul_le_mul_right→kV,mul_one→kW,mul_succ→YZ,strongRecOn→k7,succ_mul→Z7,testBit_and→qj,testBit_or→qH,zero_add→qA,zero_le→zH
open Option renaming getD_some→qV,map_some→xj,some→yz
namespace Go.Proofs.YtminpdngkjlehaaDoor
section
set_option linter.unusedSectionVars false
structure Mch where
 cls:List Nat
 nxt:List (List Nat)
 acc:List Bool
 start:Nat
def Mch.ent (m:Mch) (q c:Nat):Nat:=(m.nxt.getD q []).getD c 0
def Mch.cl (m:Mch) (b:Nat):Nat:=m.cls.getD b 0
def Mch.step (m:Mch) (q b:Nat):Nat:=m.ent q (m.cl b)
def Mch.run (m:Mch) (q:Nat) (t:List Nat):Nat:=t.foldl m.step q
def Mch.ac (m:Mch) (q:Nat):Bool:=m.acc.getD q false
def Mch.lang (m:Mch) (t:List Nat):Bool:=m.ac (m.run m.start t)
def Lts (t:List Nat):Prop:=∀ b∈t,b<256
structure Mch.Ok (m:Mch) (n k:Nat):Prop where
 cls:m.cls.length=256
 nxt:m.nxt.length=n
 acc:m.acc.length=n
 start:m.start<n
 row:∀ r∈m.nxt,r.length=k
 ent:∀ r∈m.nxt,∀ q∈r,q<n
 cl:∀ c∈m.cls,c<k
def Eqv (m m':Mch) (p p':Nat):Prop:=∀ t,Lts t->m.ac (m.run p t)=m'.ac (m'.run p' t)
structure Mch.Canon (m:Mch) (n k:Nat):Prop where
 ok:m.Ok n k
 start:m.start=0
 found:∀ q,0<q->q<n->∃ p c,p<q∧c<k∧m.ent p c=q∧(∀ p' c',p'<p->c'<k->m.ent p' c'<q)∧∀ c',c'<c->m.ent p c'<q
 apart:∀ p q,p<n->q<n->Eqv m m p q->p=q
 first:∀ c,c<k->∃ b,b<256∧m.cl b=c∧∀ b',b'<b->m.cl b'<c
 cols:∀ c d,c<k->d<k->(∀ q,q<n->m.ent q c=m.ent q d)->c=d
section
variable {m m':Mch} {n k n' k':Nat}
theorem Mch.Ok.clt (h:m.Ok n k) {b:Nat} (hb:b<256):m.cl b<k:=by
 unfold Mch.cl;rw [ze,zg (by rw [h.cls];exact hb)];exact h.cl _ (yt _)
theorem Mch.Ok.entlt (h:m.Ok n k) {q c:Nat} (hq:q<n) (hc:c<k):m.ent q c<n:=by
 unfold Mch.ent;have h1:m.nxt[q]?=some (m.nxt[q]'(by rw [h.nxt];exact hq)):=zg _;rw [ze (l:=m.nxt),h1];have hm:=zc h1;generalize m.nxt[q]'(by rw [h.nxt];exact hq)=r at hm ⊢;have hl:=h.row r hm;simp only [qV];rw [ze,zg (by omega)];exact h.ent r hm _ (yt _)
theorem Mch.Ok.steplt (h:m.Ok n k) {q b:Nat} (hq:q<n) (hb:b<256):m.step q b<n:=h.entlt hq (h.clt hb)
theorem Mch.Ok.runlt (h:m.Ok n k):∀ (t:List Nat) {q:Nat},q<n->Lts t->m.run q t<n
 |[],_,hq,_=>hq
 |b::t,_,hq,ht=>h.runlt t (h.steplt hq (ht b (by simp))) fun c hc=>ht c (by simp [hc])
theorem Mch.run_append (m:Mch) (q:Nat) (s t:List Nat):m.run q (s++t)=m.run (m.run q s) t:=by unfold Mch.run;rw [jf]
theorem Lts.append {s t:List Nat} (h:Lts s) (k:Lts t):Lts (s++t):=fun b hb=>(zt.1 hb).elim (h b) (k b)
theorem Eqv.step {p p' b:Nat} (h:Eqv m m' p p') (hb:b<256):Eqv m m' (m.step p b) (m'.step p' b):=fun t ht=>h (b::t) fun c hc=>by
 rcases zG.1 hc with rfl|hc
 ·exact hb
 ·exact ht c hc
theorem Eqv.run {p p':Nat} (h:Eqv m m' p p') {s:List Nat} (hs:Lts s):Eqv m m' (m.run p s) (m'.run p' s):=fun t ht=>by
 rw [← m.run_append,← m'.run_append];exact h _ (hs.append ht)
theorem Eqv.symm {p p':Nat} (h:Eqv m m' p p'):Eqv m' m p' p:=fun t ht=>(h t ht).symm
theorem Eqv.trans {m2:Mch} {p q r:Nat} (h:Eqv m m' p q) (k:Eqv m' m2 q r):Eqv m m2 p r:=fun t ht=>(h t ht).trans (k t ht)
theorem Eqv.refl (p:Nat):Eqv m m p p:=fun _ _=>rfl
theorem Mch.Canon.reach (h:m.Canon n k):∀ q,q<n->∃ t,Lts t∧m.run m.start t=q:=by
 intro q;induction q using k7 with
 |_ q ih =>
  intro hq;rcases qR q with rfl|h0
  ·exact ⟨[],fun b hb=>by simp at hb,h.start⟩
  ·obtain ⟨p,c,hp,hc,he,_⟩:=h.found q h0 hq;obtain ⟨t,ht,hr⟩:=ih p hp (by omega);obtain ⟨b,hb,hcb,_⟩:=h.first c hc
   refine ⟨t++[b],ht.append fun x hx=>by simp at hx;omega,?_⟩;rw [m.run_append,hr];show m.step p b=q
   unfold Mch.step;rw [hcb,he]
theorem Mch.Canon.partner (h:m.Canon n k) (h':m'.Canon n' k') (he:Eqv m m' m.start m'.start) {q:Nat} (hq:q<n):∃ q',q'<n'∧Eqv m m' q q':=by
 obtain ⟨t,ht,hr⟩:=h.reach q hq;exact ⟨m'.run m'.start t,h'.ok.runlt t h'.ok.start ht,by rw [← hr];exact he.run ht⟩
theorem Mch.Canon.le (h:m.Canon n k) (h':m'.Canon n' k') (he:Eqv m m' m.start m'.start):n<=n':=by
 -- an injection of the states below n into those below n'
 have hf:∃ f:Nat->Nat,∀ q,q<n->f q<n'∧Eqv m m' q (f q) :=
  ⟨fun q=>if hq:q<n then Classical.choose (h.partner h' he hq) else 0,fun q hq=>by
   simp only [hq,dif_pos];exact Classical.choose_spec (h.partner h' he hq)⟩
 obtain ⟨f,hf⟩:=hf;have hinj:∀ p q,p<n->q<n->f p=f q->p=q:=fun p q hp hq e=>h.apart p q hp hq (by
  have h1:=(hf p hp).2;have h2:=(hf q hq).2;rw [e] at h1;exact h1.trans h2.symm)
 have hnd:((zl n).map f).Nodup:=by
  rw [kS,vd];refine List.Pairwise.imp_of_mem ?_ (jo (n:=n));intro a b ha hb hab e;exact hab (hinj a b (zo.1 ha) (zo.1 hb) e)
 have hsub:∀ x∈(zl n).map f,x∈zl n':=fun x hx=>by
  obtain ⟨q,hq,rfl⟩:=zC.1 hx;exact zo.2 (hf q (zo.1 hq)).1
 have:=hnd.length_le_of_subset hsub;simpa using this
theorem Mch.Canon.same_cl (h:m.Canon n k) (h':m'.Canon n' k') (he:Eqv m m' m.start m'.start) {b d:Nat} (hb:b<256) (hd:d<256) (hc:m.cl b=m.cl d):m'.cl b=m'.cl d:=by
 refine h'.cols _ _ (h'.ok.clt hb) (h'.ok.clt hd) fun q hq=>?_
 obtain ⟨p,hp,hpq⟩:=h'.partner h he.symm hq;have h1:=hpq.step hb;have h2:=hpq.step hd;have e:m.step p b=m.step p d:=(by unfold Mch.step;rw [hc]);rw [e] at h1;exact h'.apart _ _ (h'.ok.steplt hq hb) (h'.ok.steplt hq hd) (h1.trans h2.symm)
theorem Wx (h:m.Canon n k) (h':m'.Canon n' k') (he:Eqv m m' m.start m'.start):∀ b,b<256->m.cl b=m'.cl b:=by
 intro b;induction b using k7 with
 |_ b ih =>
  intro hb
  -- is the class met before?
  by_cases hm:∃ d,d<b∧m.cl d=m.cl b
  ·obtain ⟨d,hd,e⟩:=hm;rw [← e,ih d hd (by omega)];exact h.same_cl h' he (by omega) hb e
  ·have hm':¬ ∃ d,d<b∧m'.cl d=m'.cl b:=fun ⟨d,hd,e⟩=>hm ⟨d,hd,h'.same_cl h he.symm (by omega) hb e⟩
   have key:∀ {x:Mch} {i j:Nat},x.Canon i j->(¬ ∃ d,d<b∧x.cl d=x.cl b)->(∀ d,d<b->x.cl d<x.cl b)∧∀ c,c<x.cl b->∃ d,d<b∧x.cl d=c:=by
    intro x i j hx hn;have hxb:=hx.ok.clt hb;obtain ⟨f,hf,hfc,hf2⟩:=hx.first (x.cl b) hxb
    have hfb:f=b:=by
     rcases yG f b with g|g|g
     ·exact absurd ⟨f,g,hfc⟩ hn
     ·exact g
     ·have:=hf2 b g;omega
    subst hfb;refine ⟨hf2,fun c hc=>?_⟩;obtain ⟨g,hg,hgc,hg2⟩:=hx.first c (by omega)
    refine ⟨g,?_,hgc⟩;rcases yG g f with q|q|q
    ·exact q
    ·subst q;omega
    ·have:=hg2 f q;omega
   have k1:=key h hm;have k2:=key h' hm';rcases yG (m.cl b) (m'.cl b) with g|g|g
   ·obtain ⟨d,hd,e⟩:=k2.2 _ g;have:=k1.1 d hd;rw [ih d hd (by omega)] at this;omega
   ·exact g
   ·obtain ⟨d,hd,e⟩:=k1.2 _ g;have:=k2.1 d hd;rw [← ih d hd (by omega)] at this;omega
theorem k_le (h:m.Canon n k) (h':m'.Canon n' k') (he:Eqv m m' m.start m'.start):k<=k':=by
 rcases zD k' k with g|g
 ·obtain ⟨b,hb,e,_⟩:=h.first k' g
  rw [Wx h h' he b hb] at e;have:=h'.ok.clt hb;omega
 ·exact g
theorem num_eq (h:m.Canon n k) (h':m'.Canon n k) (he:Eqv m m' m.start m'.start):∀ q,q<n->Eqv m m' q q:=by
 intro q;induction q using k7 with
 |_ q ih =>
  intro hq;rcases qR q with rfl|h0
  ·have:=he;rw [h.start,h'.start] at this;exact this
  -- entries of early states are Zr as far as they are below q
  have low:∀ p c,p<q->c<k->m.ent p c<q->m'.ent p c=m.ent p c:=fun p c hp hc hl=>by
   obtain ⟨b,hb,hcb,_⟩:=h.first c hc
   have h1:=(ih p hp (by omega)).step hb;have e1:m.step p b=m.ent p c:=(by unfold Mch.step;rw [hcb]);have e2:m'.step p b=m'.ent p c:=(by unfold Mch.step;rw [← Wx h h' he b hb,hcb]);rw [e1,e2] at h1;have h2:=ih _ hl (by omega);exact h'.apart _ _ (h'.ok.entlt (by omega) hc) (by omega) (h1.symm.trans h2)
  have low':∀ p c,p<q->c<k->m'.ent p c<q->m.ent p c=m'.ent p c:=fun p c hp hc hl=>by
   obtain ⟨b,hb,hcb,_⟩:=h.first c hc
   have h1:=(ih p hp (by omega)).step hb;have e1:m.step p b=m.ent p c:=(by unfold Mch.step;rw [hcb]);have e2:m'.step p b=m'.ent p c:=(by unfold Mch.step;rw [← Wx h h' he b hb,hcb]);rw [e1,e2] at h1;have h2:=ih _ hl (by omega);exact h.apart _ _ (h.ok.entlt (by omega) hc) (by omega) (h1.trans h2.symm)
  obtain ⟨p,c,hp,hc,e,hA,hB⟩:=h.found q h0 hq;obtain ⟨p',c',hp',hc',e',hA',hB'⟩:=h'.found q h0 hq
  -- the first places are Zr
  have hpp:p=p'∧c=c':=by
   rcases yG p p' with g|g|g
   ·have:=hA' p c g hc;have:=low' p c hp hc this;omega
   ·subst g;refine ⟨rfl,?_⟩;rcases yG c c' with g|g|g
    ·have:=hB' c g;have:=low' p c hp hc this;omega
    ·exact g
    ·have:=hB c' g;have:=low p c' hp hc' this;omega
   ·have:=hA p' c' g hc';have:=low p' c' hp' hc' this;omega
  obtain ⟨rfl,rfl⟩:=hpp;obtain ⟨b,hb,hcb,_⟩:=h.first c hc
  have h1:=(ih p hp (by omega)).step hb;have e1:m.step p b=q:=(by unfold Mch.step;rw [hcb,e]);have e2:m'.step p b=q:=(by unfold Mch.step;rw [← Wx h h' he b hb,hcb,e']);rw [e1,e2] at h1;exact h1
theorem WQ {l l':List Nat} {n:Nat} (h:l.length=n) (h':l'.length=n) (e:∀ i,i<n->l.getD i 0=l'.getD i 0):l=l':=by
 apply QO (by omega);intro i h1 h2;have:=e i (by omega);simp only [ze,zg h1,zg h2,qV] at this;exact this
theorem Qp (h:m.Canon n k) (h':m'.Canon n' k') (he:∀ t,Lts t->m.lang t=m'.lang t):m=m':=by
 have he:Eqv m m' m.start m'.start:=he;obtain rfl:n=n':=Nat.le_antisymm (h.le h' he) (h'.le h he.symm);obtain rfl:k=k':=Nat.le_antisymm (k_le h h' he) (k_le h' h he.symm);have hnum:=num_eq h h' he;have hcl:=Wx h h' he;have hent:∀ q c,q<n->c<k->m.ent q c=m'.ent q c:=fun q c hq hc=>by
  obtain ⟨b,hb,hcb,_⟩:=h.first c hc
  have h1:=(hnum q hq).step hb;have e1:m.step q b=m.ent q c:=(by unfold Mch.step;rw [hcb]);have e2:m'.step q b=m'.ent q c:=(by unfold Mch.step;rw [← hcl b hb,hcb]);rw [e1,e2] at h1;have h2:=hnum _ (h.ok.entlt hq hc);exact h'.apart _ _ (h.ok.entlt hq hc) (h'.ok.entlt hq hc) (h2.symm.trans h1)
 have hs:m.start=m'.start:=h.start.trans h'.start.symm;obtain ⟨cls,nxt,acc,start⟩:=m;obtain ⟨cls',nxt',acc',start'⟩:=m';have hc:cls=cls':=WQ h.ok.cls h'.ok.cls hcl;have hn:nxt=nxt':=by
  have l1:nxt.length=n:=h.ok.nxt;have l2:nxt'.length=n:=h'.ok.nxt;apply QO (by omega);intro q h1 h2;apply WQ (h.ok.row _ (yt _)) (h'.ok.row _ (yt _));intro c hc;have:=hent q c (by omega) hc;unfold Mch.ent at this;simp only [ze (l:=nxt),ze (l:=nxt'),zg h1,zg h2,qV] at this;exact this
 have ha:acc=acc':=by
  have l1:acc.length=n:=h.ok.acc;have l2:acc'.length=n:=h'.ok.acc;apply QO (by omega);intro q h1 h2;have:=hnum q (by omega) [] (fun b hb=>by simp at hb);simp only [Mch.run,zY,Mch.ac,ze,zg h1,zg h2,qV] at this;exact this
 simp only at hs;rw [hc,hn,ha,hs]
end
def ins (l:List Nat) (q:Nat):List Nat:=if q∈l then l else l++[q]
def bfs (succ:Nat->List Nat):Nat->Nat->List Nat->List Nat
 |0,_,l=>l
 |f+1,i,l=>match l[i]? with
  |none=>l
  |some s=>bfs succ f (i+1) ((succ s).foldl ins l)
def FoundAt (succ:Nat->List Nat) (l:List Nat) (j:Nat):Prop :=
 ∃ p c s x,p<j∧l[p]?=some s∧l[j]?=some x∧(succ s)[c]?=some x∧(∀ p' s',p'<p->l[p']?=some s'->∀ y∈succ s',y∈l.take j)∧∀ y∈(succ s).take c,y∈l.take j
structure Bf (succ:Nat->List Nat) (s0:Nat) (i k:Nat) (l:List Nat):Prop where
 nd:l.Nodup
 head:l[0]?=some s0
 done:∀ p s,p<i->l[p]?=some s->∀ y∈succ s,y∈l
 part:∀ s,l[i]?=some s->∀ y∈(succ s).take k,y∈l
 found:∀ j,0<j->j<l.length->FoundAt succ l j
section
variable {succ:Nat->List Nat} {s0 i k:Nat} {l:List Nat}
theorem FoundAt.grow {j:Nat} (h:FoundAt succ l j) (hj:j<l.length) (x:Nat):FoundAt succ (l++[x]) j:=by
 obtain ⟨p,c,s,y,h1,h2,h3,h4,h5,h6⟩:=h;have ht:(l++[x]).take j=l.take j:=jF (by omega);refine ⟨p,c,s,y,h1,?_,?_,h4,?_,?_⟩
 ·rw [zv (by omega)];exact h2
 ·rw [zv (by omega)];exact h3
 ·intro p' s' hp hs;rw [zv (by omega)] at hs;rw [ht];exact h5 p' s' hp hs
 ·rw [ht];exact h6
theorem Bf.one {s x:Nat} (h:Bf succ s0 i k l) (hs:l[i]?=some s) (hx:(succ s)[k]?=some x):Bf succ s0 i (k+1) (ins l x)∧(ins l x)[i]?=some s:=by
 have hil:i<l.length:=by
  rcases zD i l.length with g|g
  ·exact g
  ·rw [zu g] at hs;cases hs
 have htk:(succ s).take (k+1)=(succ s).take k++[x]:=(by rw [xZ,hx];rfl);unfold ins;by_cases hm:x∈l
 ·rw [if_pos hm];refine ⟨⟨h.nd,h.head,h.done,fun s' hs' y hy=>?_,h.found⟩,hs⟩;rw [hs] at hs';injection hs' with hs'
  subst hs';rw [htk] at hy;rcases zt.1 hy with hy|hy
  ·exact h.part s hs y hy
  ·simp at hy;subst hy;exact hm
 ·rw [if_neg hm];have hs2:(l++[x])[i]?=some s:=(by rw [zv hil];exact hs);refine ⟨⟨?_,?_,fun p s' hp hs' y hy=>?_,fun s' hs' y hy=>?_,fun j h0 hj=>?_⟩,hs2⟩
  ·rw [jr];exact ⟨h.nd,by simp,fun a ha b hb=>by simp at hb;subst hb;intro e;subst e;exact hm ha⟩
  ·rw [zv (by omega)];exact h.head
  ·rw [zv (by omega)] at hs';exact zt.2 (.inl (h.done p s' hp hs' y hy))
  ·rw [hs2] at hs';injection hs' with hs'
   subst hs';rw [htk] at hy;rcases zt.1 hy with hy|hy
   ·exact zt.2 (.inl (h.part s hs y hy))
   ·exact zt.2 (.inr hy)
  ·rcases zD j l.length with g|g
   ·exact (h.found j h0 g).grow g x
   ·have:j=l.length:=by simp at hj;omega
    subst this;have ht:(l++[x]).take l.length=l:=(by simp);refine ⟨i,k,s,x,hil,hs2,by simp,hx,fun p' s' hp hs' y hy=>?_,fun y hy=>?_⟩
    ·rw [ht];rw [zv (by omega)] at hs';exact h.done p' s' hp hs' y hy
    ·rw [ht];exact h.part s hs y hy
theorem Bf.row {s:Nat}:∀ (m:Nat) {k:Nat} {l:List Nat},m+k=(succ s).length->Bf succ s0 i k l->l[i]?=some s->Bf succ s0 i (succ s).length (((succ s).drop k).foldl ins l)∧(((succ s).drop k).foldl ins l)[i]?=some s
 |0,k,l,hm,h,hs=>by
  have hk:k=(succ s).length:=(by omega);subst hk;rw [List.drop_length];exact ⟨h,hs⟩
 |m+1,k,l,hm,h,hs=>by
  have hk:k<(succ s).length:=(by omega);have hx:(succ s)[k]?=some ((succ s)[k]):=zg hk;obtain ⟨h1,h2⟩:=h.one hs hx;rw [wR hk,zQ];exact Bf.row m (by omega) h1 h2
theorem Bf.next {s:Nat} (h:Bf succ s0 i 0 l) (hs:l[i]?=some s):Bf succ s0 (i+1) 0 ((succ s).foldl ins l):=by
 obtain ⟨h1,h2⟩:=Bf.row (succ s).length rfl h hs;rw [y8] at h1 h2;refine ⟨h1.nd,h1.head,fun p s' hp hs' y hy=>?_,fun s' _ y hy=>by simp at hy,h1.found⟩;rcases zD p i with g|g
 ·exact h1.done p s' g hs' y hy
 ·have:p=i:=by omega
  subst this;rw [h2] at hs';injection hs' with hs'
  subst hs';exact h1.part s h2 y (by rw [vX];exact hy)
theorem Zz {n:Nat}:∀ {r l:List Nat},(∀ q∈l,q<n)->(∀ q∈r,q<n)->∀ q∈r.foldl ins l,q<n
 |[],_,h,_=>h
 |x::r,l,h,hr=>by
  rw [zQ];refine Zz (fun q hq=>?_) fun q hq=>hr q (by simp [hq])
  unfold ins at hq;split at hq
  ·exact h q hq
  ·rcases zt.1 hq with hq|hq
   ·exact h q hq
   ·simp at hq;subst hq;exact hr q (by simp)
theorem ka:∀ (r l:List Nat),l.length<=(r.foldl ins l).length
 |[],_=>zp _
 |x::r,l=>by
  rw [zQ];refine qs ?_ (ka r _);unfold ins;split
  ·exact zp _
  ·simp
theorem xU {n:Nat} (h:l.Nodup) (hl:∀ q∈l,q<n):l.length<=n:=by
 have:=h.length_le_of_subset (l₂:=zl n) fun q hq=>zo.2 (hl q hq)
 simpa using this
theorem Yf {n:Nat} (hn:∀ s,s<n->∀ q∈succ s,q<n):∀ (f:Nat) {i:Nat} {l:List Nat},n<=f+i->Bf succ s0 i 0 l->(∀ q∈l,q<n)->Bf succ s0 (bfs succ f i l).length 0 (bfs succ f i l)∧∀ q∈bfs succ f i l,q<n
 |0,i,l,hf,h,hl=>by
  have:=xU h.nd hl;refine ⟨⟨h.nd,h.head,fun p s hp hs=>h.done p s (by unfold bfs at hp;omega) hs,fun s hs y hy=>by simp at hy,h.found⟩,hl⟩
 |f+1,i,l,hf,h,hl=>by
  unfold bfs;cases hs:l[i]? with
  |none =>
   have hi:l.length<=i:=yh.1 hs;exact ⟨⟨h.nd,h.head,fun p s hp hs=>h.done p s (by have:p<l.length:=hp;omega) hs,fun s hs y hy=>by simp at hy,h.found⟩,hl⟩
  |some s =>
   simp only;exact Yf hn f (by omega) (h.next hs) (Zz hl fun q hq=>hn s (hl s (zc hs)) q hq)
theorem Xe:Bf succ s0 0 0 [s0]:=⟨by simp,rfl,fun p s hp=>by omega,fun s _ y hy=>by simp at hy,fun j h0 hj=>by simp at hj;omega⟩
end
def news {κ:Type} [DecidableEq κ] (f:Nat->κ):List Nat->List Nat->List Nat
 |acc,[]=>acc
 |acc,x::l=>news f (if f x∈acc.map f then acc else acc++[x]) l
def xO {κ:Type} [DecidableEq κ] (f:Nat->κ) (fs:List Nat) (x:Nat):Nat:=(fs.map f).idxOf (f x)
section
variable {κ:Type} [DecidableEq κ] {f:Nat->κ}
structure NewsOf (f:Nat->κ) (l fs:List Nat):Prop where
 sub:∀ x∈fs,x∈l
 all:∀ x∈l,f x∈fs.map f
 nd:(fs.map f).Nodup
 /-- an element of the result is the first of its key;those before it have smaller numbers -/
 first:∀ j x,fs[j]?=some x->∃ a b,l=a++x::b∧∀ y∈a,f y∈(fs.take j).map f
theorem KS:∀ (l:List Nat) {acc done:List Nat},NewsOf f done acc->NewsOf f (done++l) (news f acc l)
 |[],acc,done,h=>by rw [xH];exact h
 |x::l,acc,done,h=>by
  have e:done++x::l=done++[x]++l:=(by simp);rw [e,news];refine KS l ?_;by_cases hx:f x∈acc.map f
  ·rw [if_pos hx];refine ⟨fun y hy=>zt.2 (.inl (h.sub y hy)),fun y hy=>?_,h.nd,fun j y hy=>?_⟩
   ·rcases zt.1 hy with hy|hy
    ·exact h.all y hy
    ·simp at hy;subst hy;exact hx
   ·obtain ⟨a,b,e,h2⟩:=h.first j y hy
    exact ⟨a,b++[x],by rw [e];simp,h2⟩
  ·rw [if_neg hx];refine ⟨fun y hy=>?_,fun y hy=>?_,?_,fun j y hy=>?_⟩
   ·rcases zt.1 hy with hy|hy
    ·exact zt.2 (.inl (h.sub y hy))
    ·exact zt.2 (.inr hy)
   ·rw [qQ];rcases zt.1 hy with hy|hy
    ·exact zt.2 (.inl (h.all y hy))
    ·simp at hy;subst hy;exact zt.2 (.inr (by simp))
   ·rw [qQ,jr];exact ⟨h.nd,by simp,fun a ha b hb=>by simp at hb;subst hb;intro e;subst e;exact hx ha⟩
   ·rcases zD j acc.length with g|g
    ·rw [zv g] at hy;obtain ⟨a,b,e,h2⟩:=h.first j y hy
     refine ⟨a,b++[x],by rw [e];simp,fun z hz=>?_⟩;rw [jF (by omega)];exact h2 z hz
    ·have hj:j=acc.length:=by
      rcases zD j (acc.length+1) with g2|g2
      ·omega
      ·rw [zu (by simp;omega)] at hy;cases hy
     subst hj;simp at hy;subst hy;refine ⟨done,[],by simp,fun z hz=>?_⟩;have:(acc++[x]).take acc.length=acc:=by simp
     rw [this];exact h.all z hz
theorem JU:NewsOf f [] []:=⟨fun x hx=>by simp at hx,fun x hx=>by simp at hx,by simp,fun j x hx=>by simp at hx⟩
theorem xo (l:List Nat):NewsOf f l (news f [] l):=by
 have:=KS l (JU (f:=f));simpa using this
theorem NewsOf.num_lt {l fs:List Nat} (h:NewsOf f l fs) {x:Nat} (hx:x∈l):xO f fs x<fs.length:=by
 have:=yY (h.all x hx);simpa [xO] using this
theorem j9 {α:Type} [DecidableEq α]:∀ {l:List α} {a:α},a∈l->l[l.idxOf a]?=some a
 |[],a,h=>by simp at h
 |b::l,a,h=>by
  by_cases e:b=a
  ·subst e;simp
  ·have:a∈l:=by
    rcases zG.1 h with h|h
    ·exact absurd h.symm e
    ·exact h
   have hne:(b==a)=false:=(by simpa using e);rw [List.idxOf_cons,hne];simpa using j9 this
theorem Za {α:Type} [DecidableEq α] {l:List α} (hn:l.Nodup) {j:Nat} {a:α} (h:l[j]?=some a):l.idxOf a=j:=by
 have hm:=zc h;have h1:=j9 hm;have hj:j<l.length:=by
  rcases zD j l.length with g|g
  ·exact g
  ·rw [zu g] at h;cases h
 have hi:=yY hm;rw [zg hj] at h;rw [zg hi] at h1;injection h with h
 injection h1 with h1
 exact (List.getElem_inj hn).1 (h1.trans h.symm)
theorem NewsOf.num_get {l fs:List Nat} (h:NewsOf f l fs) {x:Nat} (hx:x∈l):∃ y,fs[xO f fs x]?=some y∧f y=f x:=by
 have:=j9 (h.all x hx);rw [zq] at this;obtain ⟨y,h1,h2⟩:=Option.map_eq_some_iff.1 this;exact ⟨y,h1,h2⟩
theorem NewsOf.num_eq {l fs:List Nat} (h:NewsOf f l fs) {x y:Nat} (hx:x∈l) (hy:y∈l):xO f fs x=xO f fs y↔f x=f y:=by
 constructor
 ·intro e;obtain ⟨a,h1,h2⟩:=h.num_get hx;obtain ⟨b,h3,h4⟩:=h.num_get hy;rw [e,h3] at h1;injection h1 with h1
  rw [← h2,← h4,h1]
 ·intro e;unfold xO;rw [e]
theorem NewsOf.num_first {l fs:List Nat} (h:NewsOf f l fs) {j x:Nat} (hx:fs[j]?=some x):xO f fs x=j:=by
 unfold xO;exact Za h.nd (by rw [zq,hx];rfl)
end
def Mch.occ (m:Mch):List Nat:=m.cls.foldl ins []
def Mch.succs (m:Mch) (cs:List Nat) (q:Nat):List Nat:=cs.map fun c=>m.ent q c
def Mch.reachL (m:Mch):List Nat:=bfs (m.succs m.occ) m.nxt.length 0 [m.start]
def yb (m:Mch) (cs:List Nat) (bl:Nat->Nat) (q:Nat):List Nat:=bl q::(m.succs cs q).map bl
def yg (m:Mch) (cs st:List Nat) (bl:Nat->Nat):List Nat:=news (yb m cs bl) [] st
def jn (m:Mch) (cs st:List Nat) (bl:Nat->Nat) (q:Nat):Nat:=if q∈st then xO (yb m cs bl) (yg m cs st bl) q else 0
def QE (m:Mch) (cs st:List Nat):Nat->Nat->(Nat->Nat)->(Nat->Nat)×List Nat
 |0,_,bl=>(bl,[])
 |f+1,before,bl=>if (yg m cs st bl).length=before then (jn m cs st bl,yg m cs st bl) else QE m cs st f (yg m cs st bl).length (jn m cs st bl)
def bl0 (m:Mch) (st:List Nat) (q:Nat):Nat:=if q∈st∧m.ac q=true then 1 else 0
def Mch.refine (m:Mch):(Nat->Nat)×List Nat:=QE m m.occ m.reachL (m.nxt.length+1) 0 (bl0 m m.reachL)
def yx (m:Mch) (bl:Nat->Nat) (F:List Nat) (x:Nat):List Nat:=F.map fun q=>bl (m.ent q (m.cl x))
def wv (m:Mch) (bl:Nat->Nat) (F:List Nat):List Nat:=news (yx m bl F) [] (zl 256)
def xD (m:Mch) (bl:Nat->Nat) (F:List Nat) (b:Nat):List Nat:=(wv m bl F).map fun x=>bl (m.ent (F.getD b 0) (m.cl x))
def yw (m:Mch) (bl:Nat->Nat) (F:List Nat):List Nat:=bfs (xD m bl F) F.length 0 [bl m.start]
def J6 (m:Mch) (bl:Nat->Nat) (F:List Nat):Mch :=
 ⟨(zl 256).map (xO (yx m bl F) (wv m bl F)),(yw m bl F).map fun b=>(xD m bl F b).map fun d=>(yw m bl F).idxOf d,(yw m bl F).map fun b=>m.ac (F.getD b 0),0⟩
def Mch.mini (m:Mch):Mch:=J6 m m.refine.1 m.refine.2
section
variable {m:Mch} {n k:Nat}
theorem mem_ins {l:List Nat} {q x:Nat}:x∈ins l q↔x∈l∨x=q:=by
 unfold ins;split
 ·rename_i h;exact ⟨.inl,fun g=>g.elim id fun e=>by subst e;exact h⟩
 ·simp
theorem qk:∀ (r l:List Nat) (x:Nat),x∈r.foldl ins l↔x∈l∨x∈r
 |[],l,x=>by simp
 |q::r,l,x=>by
  rw [zQ,qk r,mem_ins,zG];exact ⟨fun h=>by rcases h with (h|h)|h <;> simp [h],fun h=>by rcases h with h|h|h <;> simp [h]⟩
theorem occ_cl (h:m.Ok n k) {b:Nat} (hb:b<256):m.cl b∈m.occ:=by
 unfold Mch.occ;rw [qk];right
 unfold Mch.cl;rw [ze,zg (by rw [h.cls];exact hb)];exact yt _
theorem Yz (h:m.Ok n k) {c:Nat} (hc:c∈m.occ):∃ b,b<256∧m.cl b=c:=by
 unfold Mch.occ at hc;rw [qk] at hc;rcases hc with hc|hc
 ·simp at hc
 ·obtain ⟨b,hb,e⟩:=qG.1 hc;refine ⟨b,by have:=h.cls;omega,?_⟩;unfold Mch.cl;rw [ze,zg hb];exact e
structure Sts (m:Mch) (n:Nat) (st:List Nat):Prop where
 nd:st.Nodup
 lt:∀ q∈st,q<n
 start:m.start∈st
 step:∀ q∈st,∀ b,b<256->m.step q b∈st
 reach:∀ q∈st,∃ t,Lts t∧m.run m.start t=q
theorem vR (h:m.Ok n k):Sts m n m.reachL:=by
 have hsucc:∀ s,s<n->∀ q∈m.succs m.occ s,q<n:=fun s hs q hq=>by
  obtain ⟨c,hc,rfl⟩:=zC.1 hq;obtain ⟨b,hb,rfl⟩:=Yz h hc;exact h.steplt hs hb
 obtain ⟨hB,hlt⟩:=Yf (s0:=m.start) (n:=n) hsucc m.nxt.length (i:=0) (l:=[m.start]) (by rw [h.nxt];omega) Xe (by simpa using h.start);have hstep:∀ q∈m.reachL,∀ b,b<256->m.step q b∈m.reachL:=fun q hq b hb=>by
  obtain ⟨i,hi,e⟩:=qG.1 hq;refine hB.done i q hi ((zg hi).trans (congrArg some e)) _ ?_;exact zC.2 ⟨m.cl b,occ_cl h hb,rfl⟩
 refine ⟨hB.nd,hlt,zc hB.head,hstep,?_⟩;have key:∀ (i q:Nat),m.reachL[i]?=some q->∃ t,Lts t∧m.run m.start t=q:=by
  intro i;induction i using k7 with
  |_ i ih =>
   intro q hq;rcases qR i with rfl|h0
   ·have e:=hB.head;have hq':(bfs (m.succs m.occ) m.nxt.length 0 [m.start])[0]?=some q:=hq;rw [e] at hq';injection hq' with hq'
    exact ⟨[],fun b hb=>by simp at hb,hq'⟩
   ·have hi:i<m.reachL.length:=by
     rcases zD i m.reachL.length with g|g
     ·exact g
     ·rw [zu g] at hq;cases hq
    obtain ⟨p,c,s,x,hp,hs,hx,hc,_,_⟩:=hB.found i h0 hi;have hx':m.reachL[i]?=some x:=hx;rw [hq] at hx';injection hx' with hx'
    subst hx';obtain ⟨t,ht,hr⟩:=ih p hp s hs;obtain ⟨c',hc',e⟩:=zC.1 (zc hc);obtain ⟨b,hb,rfl⟩:=Yz h hc';refine ⟨t++[b],ht.append fun z hz=>by simp at hz;omega,?_⟩;rw [m.run_append,hr];exact e
 intro q hq;obtain ⟨i,hi,e⟩:=qG.1 hq;exact key i q ((zg hi).trans (congrArg some e))
theorem keyB_eq {bl:Nat->Nat} {cs:List Nat} {p q:Nat}:yb m cs bl p=yb m cs bl q↔bl p=bl q∧∀ c∈cs,bl (m.ent p c)=bl (m.ent q c):=by
 unfold yb Mch.succs;rw [je.injEq,Y4,Y4,Ql];rfl
structure Rf (m:Mch) (st:List Nat) (bl:Nat->Nat):Prop where
 co:∀ p∈st,∀ q∈st,Eqv m m p q->bl p=bl q
 ac:∀ p∈st,∀ q∈st,bl p=bl q->m.ac p=m.ac q
theorem ZN {st cs:List Nat} {bl:Nat->Nat} {p q:Nat} (hp:p∈st) (hq:q∈st):jn m cs st bl p=jn m cs st bl q↔yb m cs bl p=yb m cs bl q:=by
 unfold jn;rw [if_pos hp,if_pos hq];exact (xo st).num_eq hp hq
theorem Rf.next {st:List Nat} {bl:Nat->Nat} (hm:m.Ok n k) (hs:Sts m n st) (h:Rf m st bl):Rf m st (jn m m.occ st bl):=by
 refine ⟨fun p hp q hq he=>?_,fun p hp q hq e=>?_⟩
 ·rw [ZN hp hq,keyB_eq];refine ⟨h.co p hp q hq he,fun c hc=>?_⟩;obtain ⟨b,hb,rfl⟩:=Yz hm hc;exact h.co _ (hs.step p hp b hb) _ (hs.step q hq b hb) (he.step hb)
 ·rw [ZN hp hq,keyB_eq] at e;exact h.ac p hp q hq e.1
structure Vc (st:List Nat) (bl:Nat->Nat) (F:List Nat):Prop where
 lt:∀ q∈st,bl q<F.length
 get:∀ q∈st,∃ y,F[bl q]?=some y∧bl y=bl q
 sub:∀ q∈F,q∈st
 num:∀ j x,F[j]?=some x->bl x=j
theorem Zg {cs st:List Nat} {bl:Nat->Nat}:Vc st (jn m cs st bl) (yg m cs st bl):=by
 have h:=xo (f:=yb m cs bl) st;refine ⟨fun q hq=>?_,fun q hq=>?_,h.sub,fun j x hx=>?_⟩
 ·unfold jn;rw [if_pos hq];exact h.num_lt hq
 ·obtain ⟨y,h1,h2⟩:=h.num_get hq;have hy:y∈st:=h.sub y (zc h1);refine ⟨y,?_,(ZN hy hq).2 h2⟩;unfold jn;rw [if_pos hq];exact h1
 ·have hx':x∈st:=h.sub x (zc hx);unfold jn;rw [if_pos hx'];exact h.num_first hx
theorem JM {L:List Nat} {N:Nat} (hl:L.length<=N) (h:∀ v,v<N->v∈L) {i j a:Nat} (hi:L[i]?=some a) (hj:L[j]?=some a):i=j:=by
 rcases yG i j with g|g|g
 ·exfalso;have hjl:j<L.length:=by
   rcases zD j L.length with g|g
   ·exact g
   ·rw [zu g] at hj;cases hj
  have hs:∀ v∈zl N,v∈L.eraseIdx j:=fun v hv=>by
   obtain ⟨x,hx,e⟩:=qG.1 (h v (zo.1 hv));rw [QP];by_cases hxj:x=j
   ·refine ⟨i,by omega,?_⟩;subst hxj;rw [zg hx] at hj;rw [hi,← e];exact hj.symm
   ·exact ⟨x,hxj,by rw [zg hx];exact congrArg some e⟩
  have:=(jo (n:=N)).length_le_of_subset hs;rw [Qk,List.length_eraseIdx,if_pos hjl] at this;omega
 ·exact g
 ·exfalso;have hil:i<L.length:=by
   rcases zD i L.length with g|g
   ·exact g
   ·rw [zu g] at hi;cases hi
  have hs:∀ v∈zl N,v∈L.eraseIdx i:=fun v hv=>by
   obtain ⟨x,hx,e⟩:=qG.1 (h v (zo.1 hv));rw [QP];by_cases hxj:x=i
   ·refine ⟨j,by omega,?_⟩;subst hxj;rw [zg hx] at hi;rw [hj,← e];exact hi.symm
   ·exact ⟨x,hxj,by rw [zg hx];exact congrArg some e⟩
  have:=(jo (n:=N)).length_le_of_subset hs;rw [Qk,List.length_eraseIdx,if_pos hil] at this;omega
theorem YG {cs st F:List Nat} {bl:Nat->Nat} (h:Vc st bl F):∀ v,v<F.length->v∈(yg m cs st bl).map bl:=fun v hv=>by
 have hN:=xo (f:=yb m cs bl) st;have hx:F[v]?=some F[v]:=zg hv;have hxs:=h.sub _ (zc hx);obtain ⟨y,h1,h2⟩:=hN.num_get hxs;have hb:=(keyB_eq.1 h2).1;rw [h.num v _ hx] at hb;exact zC.2 ⟨y,zc h1,hb⟩
theorem r_stable {cs st F:List Nat} {bl:Nat->Nat} (h:Vc st bl F) (hl:(yg m cs st bl).length=F.length):∀ p∈st,∀ q∈st,bl p=bl q->yb m cs bl p=yb m cs bl q:=fun p hp q hq e=>by
 have hN:=xo (f:=yb m cs bl) st;obtain ⟨y,h1,h2⟩:=hN.num_get hp;obtain ⟨z,h3,h4⟩:=hN.num_get hq;have e1:=(keyB_eq.1 h2).1;have e2:=(keyB_eq.1 h4).1;have hall:=YG (m:=m) (cs:=cs) h;have key:=JM (L:=(yg m cs st bl).map bl) (N:=F.length) (by simp;omega) hall (i:=xO (yb m cs bl) (news (yb m cs bl) [] st) p) (j:=xO (yb m cs bl) (news (yb m cs bl) [] st) q) (a:=bl y)
  (by rw [zq];unfold yg;rw [h1];rfl) (by rw [zq];unfold yg;rw [h3];simp;omega)
 rw [key,h3] at h1;injection h1 with h1
 rw [← h2,← h4,h1]
structure Blk (m:Mch) (st:List Nat) (bl:Nat->Nat) (F:List Nat):Prop where
 nums:Vc st bl F
 eqv:∀ p∈st,∀ q∈st,bl p=bl q↔Eqv m m p q
theorem rf_len {cs st:List Nat} {bl:Nat->Nat} (hs:Sts m n st):(yg m cs st bl).length<=n:=by
 have hN:=xo (f:=yb m cs bl) st;have hnd:(yg m cs st bl).Nodup:=(vd.1 hN.nd).imp fun h e=>h (by rw [e])
 exact xU hnd fun q hq=>hs.lt q (hN.sub q hq)
theorem Jc (hm:m.Ok n k) {st:List Nat} (hs:Sts m n st):∀ (f:Nat) {before:Nat} {bl:Nat->Nat} {F:List Nat},n<f+before->Rf m st bl->(before=0∨(before=F.length∧Vc st bl F))->Blk m st (QE m m.occ st f before bl).1 (QE m m.occ st f before bl).2
 |0,before,bl,F,hf,h,hF=>by
  exfalso;rcases hF with rfl|⟨rfl,hF⟩
  ·omega
  ·have h1:∀ q∈F,q<n:=fun q hq=>hs.lt q (hF.sub q hq)
   have hnd:F.Nodup:=by
    rw [kS,List.pairwise_iff_getElem];intro i j hi hj hij e;have a1:=hF.num i _ (zg hi);have a2:=hF.num j _ (zg hj);rw [e] at a1;omega
   have:=xU hnd h1;omega
 |f+1,before,bl,F,hf,h,hF=>by
  rw [QE];have hne:0<(yg m m.occ st bl).length:=by
   have:=(Zg (m:=m) (cs:=m.occ) (st:=st) (bl:=bl)).lt _ hs.start;omega
  have hnx:=h.next hm hs
  have hnn:=Zg (m:=m) (cs:=m.occ) (st:=st) (bl:=bl);by_cases he:(yg m m.occ st bl).length=before
  ·rw [if_pos he];simp only;rcases hF with rfl|⟨rfl,hF⟩
   ·omega
   ·have hst:=r_stable (m:=m) (cs:=m.occ) hF he;refine ⟨hnn,fun p hp q hq=>⟨fun e=>?_,hnx.co p hp q hq⟩⟩
    -- blocks are stable: run any text
    rw [ZN hp hq] at e;have run:∀ (t:List Nat),Lts t->∀ p∈st,∀ q∈st,yb m m.occ bl p=yb m m.occ bl q->m.ac (m.run p t)=m.ac (m.run q t):=by
     intro t;induction t with
     |nil=>intro _ p hp q hq e;exact h.ac p hp q hq (keyB_eq.1 e).1
     |cons b t ih =>
      intro ht p hp q hq e;have hb:=ht b (by simp);exact ih (fun c hc=>ht c (by simp [hc])) _ (hs.step p hp b hb) _ (hs.step q hq b hb) (hst _ (hs.step p hp b hb) _ (hs.step q hq b hb) ((keyB_eq.1 e).2 _ (occ_cl hm hb)))
    exact fun t ht=>run t ht p hp q hq e
  ·rw [if_neg he];have hge:before<=(yg m m.occ st bl).length:=by
    rcases hF with rfl|⟨rfl,hF⟩
    ·omega
    ·have hall:=YG (m:=m) (cs:=m.occ) hF;have:=(jo (n:=F.length)).length_le_of_subset fun v hv=>hall v (zo.1 hv)
     simpa using this
   exact Jc hm hs f (F:=yg m m.occ st bl) (by omega) hnx (.inr ⟨rfl,hnn⟩)
theorem XF (hm:m.Ok n k):Blk m m.reachL m.refine.1 m.refine.2:=by
 have hs:=vR hm;refine Jc hm hs _ (F:=[]) (by rw [hm.nxt];omega) ⟨fun p hp q hq he=>?_,fun p hp q hq e=>?_⟩ (.inl rfl)
 ·have:=he [] (fun b hb=>by simp at hb);simp only [Mch.run,zY] at this;unfold bl0;simp [hp,hq,this]
 ·unfold bl0 at e;simp only [hp,hq,true_and] at e;cases h1:m.ac p <;> cases h2:m.ac q <;> simp [h1,h2] at e ⊢
end
theorem WV {l:List Nat} (hn:l.Nodup) {j d:Nat} (h:d∈l.take j):l.idxOf d<j:=by
 obtain ⟨i,hi,e⟩:=qG.1 h;have h1:(l.take j)[i]?=some d:=(zg hi).trans (congrArg some e);rw [yD] at hi;rw [kB (by omega)] at h1;rw [Za hn h1];omega
theorem Vt {κ:Type} [DecidableEq κ] {l:List κ} (hn:l.Nodup) {j:Nat} {d:κ} (h:d∈l.take j):l.idxOf d<j:=by
 obtain ⟨i,hi,e⟩:=qG.1 h;have h1:(l.take j)[i]?=some d:=(zg hi).trans (congrArg some e);rw [yD] at hi;rw [kB (by omega)] at h1;rw [Za hn h1];omega
theorem idx_inj {l:List Nat} {a b:Nat} (ha:a∈l) (hb:b∈l) (e:l.idxOf a=l.idxOf b):a=b:=by
 have h1:=j9 ha;have h2:=j9 hb;rw [e,h2] at h1;injection h1 with h1
 exact h1.symm
theorem zP {α:Type} {l:List α} {i:Nat} {a:α} (h:l[i]?=some a):i<l.length:=by
 rcases zD i l.length with g|g
 ·exact g
 ·rw [zu g] at h;cases h
section
variable {m:Mch} {n k:Nat} {st F:List Nat} {bl:Nat->Nat}
theorem lets_of:NewsOf (yx m bl F) (zl 256) (wv m bl F):=xo _
theorem col_at (hs:Sts m n st) (B:Blk m st bl F) {q b:Nat} (hq:q∈st) (hb:b<256):(xD m bl F (bl q))[xO (yx m bl F) (wv m bl F) b]?=some (bl (m.step q b)):=by
 obtain ⟨g,h1,h2⟩:=(lets_of (m:=m) (bl:=bl) (F:=F)).num_get (zo.2 hb);obtain ⟨y,h3,h4⟩:=B.nums.get q hq;have hy:=B.nums.sub y (zc h3);unfold xD;rw [zq,h1];have e1:F.getD (bl q) 0=y:=(by rw [ze,h3];rfl);simp only [xj,e1];unfold yx at h2;rw [Ql.1 h2 y (zc h3)];exact congrArg some ((B.eqv _ (hs.step y hy b hb) _ (hs.step q hq b hb)).2 (((B.eqv y hy q hq).1 h4).step hb))
structure BOrd (m:Mch) (bl:Nat->Nat) (F L:List Nat):Prop where
 nd:L.Nodup
 lt:∀ b∈L,b<F.length
 head:L[0]?=some (bl m.start)
 done:∀ b∈L,∀ d∈xD m bl F b,d∈L
 found:∀ j,0<j->j<L.length->FoundAt (xD m bl F) L j
theorem Xf (hs:Sts m n st) (B:Blk m st bl F):BOrd m bl F (yw m bl F):=by
 have hsucc:∀ s,s<F.length->∀ d∈xD m bl F s,d<F.length:=fun s hs' d hd=>by
  obtain ⟨x,hx,rfl⟩:=zC.1 hd;have hx2:=zo.1 (lets_of.sub x hx);have hg:F.getD s 0=F[s]:=(by rw [ze,zg hs'];rfl);rw [hg];exact B.nums.lt _ (hs.step _ (B.nums.sub _ (yt _)) x hx2)
 obtain ⟨hB,hlt⟩:=Yf (s0:=bl m.start) (n:=F.length) hsucc F.length (i:=0) (l:=[bl m.start]) (by omega) Xe (by simpa using B.nums.lt _ hs.start);refine ⟨hB.nd,hlt,hB.head,fun b hb d hd=>?_,hB.found⟩;obtain ⟨i,hi,e⟩:=qG.1 hb;exact hB.done i b hi ((zg hi).trans (congrArg some e)) d hd
theorem ord_all (hs:Sts m n st) (B:Blk m st bl F) {L:List Nat} (O:BOrd m bl F L):∀ q∈st,bl q∈L:=by
 have run:∀ (t:List Nat),Lts t->∀ p∈st,bl p∈L->bl (m.run p t)∈L:=by
  intro t;induction t with
  |nil=>intro _ p _ h;exact h
  |cons b t ih =>
   intro ht p hp h;have hb:=ht b (by simp);exact ih (fun c hc=>ht c (by simp [hc])) _ (hs.step p hp b hb) (O.done _ h _ (zc (col_at hs B hp hb)))
 intro q hq;obtain ⟨t,ht,e⟩:=hs.reach q hq;rw [← e];exact run t ht _ hs.start (zc O.head)
theorem KV (hs:Sts m n st) (B:Blk m st bl F):(J6 m bl F).Canon (yw m bl F).length (wv m bl F).length∧∀ t,Lts t->(J6 m bl F).lang t=m.lang t:=by
 have O:=Xf hs B;have hall:=ord_all hs B O;have hG:=lets_of (m:=m) (bl:=bl) (F:=F);obtain ⟨L,hL⟩:∃ L,yw m bl F=L:=⟨_,rfl⟩
 obtain ⟨G,hGG⟩:∃ G,wv m bl F=G:=⟨_,rfl⟩
 obtain ⟨R,hR⟩:∃ R,J6 m bl F=R:=⟨_,rfl⟩
 have hR2:=hR;unfold J6 at hR2;rw [hL,hGG] at hR2;rw [hL] at O hall;rw [hGG] at hG;rw [hL,hGG,hR];have hlen:∀ b,(xD m bl F b).length=G.length:=fun b=>by unfold xD;rw [hGG];simp
 have hcl:∀ b,b<256->R.cl b=xO (yx m bl F) G b:=fun b hb=>by
  rw [← hR2];unfold Mch.cl;rw [ze,zq,xP hb];rfl
 have hent:∀ i c b d,L[i]?=some b->(xD m bl F b)[c]?=some d->R.ent i c=L.idxOf d:=fun i c b d h1 h2=>by
  rw [← hR2];unfold Mch.ent;simp only [ze,zq,h1,xj,qV,h2]
 have hac:∀ i b,L[i]?=some b->R.ac i=m.ac (F.getD b 0):=fun i b h1=>by
  rw [← hR2];unfold Mch.ac;simp only [ze,zq,h1,xj,qV]
 have hget:∀ q∈st,L[L.idxOf (bl q)]?=some (bl q):=fun q hq=>j9 (hall q hq)
 have hstep:∀ q∈st,∀ b,b<256->R.step (L.idxOf (bl q)) b=L.idxOf (bl (m.step q b)):=fun q hq b hb=>by
  unfold Mch.step;rw [hcl b hb];have:=col_at hs B hq hb;rw [hGG] at this;exact hent _ _ _ _ (hget q hq) this
 have haq:∀ q∈st,R.ac (L.idxOf (bl q))=m.ac q:=fun q hq=>by
  obtain ⟨y,h3,h4⟩:=B.nums.get q hq;have hy:=B.nums.sub y (zc h3);rw [hac _ _ (hget q hq),ze,h3];have:=(B.eqv y hy q hq).1 h4 [] (fun b hb=>by simp at hb);simpa [Mch.run] using this
 have heqv:∀ (t:List Nat),Lts t->∀ q∈st,R.ac (R.run (L.idxOf (bl q)) t)=m.ac (m.run q t):=by
  intro t;induction t with
  |nil=>intro _ q hq;exact haq q hq
  |cons b t ih =>
   intro ht q hq;have hb:=ht b (by simp);have:=ih (fun c hc=>ht c (by simp [hc])) _ (hs.step q hq b hb);rw [← hstep q hq b hb] at this;exact this
 have hst0:R.start=0:=(by rw [← hR2]);have h0:L.idxOf (bl m.start)=0:=Za O.nd O.head;have hpos:0<L.length:=zP O.head;have hmem:∀ i,i<L.length->∃ y,y∈st∧L[i]?=some (bl y)∧L.idxOf (bl y)=i:=fun i hi=>by
  have h1:L[i]?=some L[i]:=zg hi;have hlt:=O.lt _ (yt hi);have hF:F[L[i]]?=some F[L[i]]:=zg hlt;have hb:=B.nums.num _ _ hF;refine ⟨F[L[i]],B.nums.sub _ (yt _),by rw [hb];exact h1,by rw [hb];exact Za O.nd h1⟩
 have hok:R.Ok L.length G.length:=by
  rw [← hR2];refine ⟨by simp,by simp,by simp,hpos,fun r hr=>?_,fun r hr q hq=>?_,fun c hc=>?_⟩
  ·obtain ⟨b,hb,rfl⟩:=zC.1 hr;rw [zE,hlen]
  ·obtain ⟨b,hb,rfl⟩:=zC.1 hr;obtain ⟨d,hd,rfl⟩:=zC.1 hq;exact yY (O.done b hb d hd)
  ·obtain ⟨b,hb,rfl⟩:=zC.1 hc;exact hG.num_lt hb
 have hER:∀ q∈st,Eqv R m (L.idxOf (bl q)) q:=fun q hq t ht=>heqv t ht q hq
 refine ⟨⟨hok,hst0,fun j hj0 hj=>?_,fun i j hi hj he=>?_,fun c hc=>?_,fun c d hc hd he=>?_⟩,fun t ht=>?_⟩
 ·obtain ⟨p,c,s,x,hp,hs',hx,hcx,h5,h6⟩:=O.found j hj0 hj;have hck:c<G.length:=(by have:=zP hcx;rw [hlen] at this;exact this);refine ⟨p,c,hp,hck,?_,fun p' c' hp' hc'=>?_,fun c' hc'=>?_⟩
  ·rw [hent p c s x hs' hcx];exact Za O.nd hx
  ·have h1:L[p']?=some L[p']:=zg (by omega);have h2:(xD m bl F L[p'])[c']?=some ((xD m bl F L[p'])[c']'(by rw [hlen];exact hc')):=zg _;rw [hent p' c' _ _ h1 h2];exact WV O.nd (h5 p' _ hp' h1 _ (zc h2))
  ·have h2:(xD m bl F s)[c']?=some ((xD m bl F s)[c']'(by rw [hlen];omega)):=zg _;rw [hent p c' _ _ hs' h2];refine WV O.nd (h6 _ ?_);refine zc (i:=c') ?_;rw [kB hc'];exact h2
 ·obtain ⟨y,hy,h1,h2⟩:=hmem i hi;obtain ⟨z,hz,h3,h4⟩:=hmem j hj;have e1:=hER y hy;have e2:=hER z hz;rw [h2] at e1;rw [h4] at e2;have:=(B.eqv y hy z hz).2 (e1.symm.trans (he.trans e2));rw [← h2,← h4,this]
 ·have hx:G[c]?=some G[c]:=zg hc;obtain ⟨a,b,e,hA⟩:=hG.first c _ hx
  have hx2:=zo.1 (hG.sub _ (zc hx));have hal:a.length=G[c]:=by
   have h1:(zl 256)[a.length]?=some G[c]:=(by rw [e];simp);have h2:=zP h1;rw [Qk] at h2;rw [xP h2] at h1;injection h1
  refine ⟨G[c],hx2,by rw [hcl _ hx2];exact hG.num_first hx,fun b' hb'=>?_⟩;rw [hcl b' (by omega)];have hm:b'∈a:=by
   have h1:(zl 256)[b']?=some b':=xP (by omega);rw [e,zv (by omega)] at h1;exact zc h1
  unfold xO;refine Vt hG.nd ?_;rw [← List.map_take];exact hA b' hm
 ·have hx:G[c]?=some G[c]:=zg hc;have hy:G[d]?=some G[d]:=zg hd;rw [← hG.num_first hx,← hG.num_first hy];have key:yx m bl F G[c]=yx m bl F G[d]:=by
   unfold yx;rw [Ql];intro y hyF;obtain ⟨β,hβ,eβ⟩:=qG.1 hyF;have hF:F[β]?=some y:=(zg hβ).trans (congrArg some eβ);have hyst:=B.nums.sub y hyF;have hbl:=B.nums.num β y hF;have hi:=hget y hyst;have h1:∀ c (hc:c<G.length),(xD m bl F (bl y))[c]?=some (bl (m.ent y (m.cl G[c]))):=fun c hc=>by
    have e1:F.getD (bl y) 0=y:=(by rw [ze,hbl,hF];rfl);unfold xD;rw [hGG,e1,zq,zg hc];rfl
   have h2:=he _ (zP hi);rw [hent _ c _ _ hi (h1 c hc),hent _ d _ _ hi (h1 d hd)] at h2;exact idx_inj (O.done _ (hall y hyst) _ (zc (h1 c hc))) (O.done _ (hall y hyst) _ (zc (h1 d hd))) h2
  unfold xO;rw [key]
 ·have:=heqv t ht m.start hs.start;rw [h0] at this;unfold Mch.lang;rw [hst0];exact this
end
end
section
set_option linter.unusedSectionVars false
inductive Re
 |emp
 |set (S:List Nat)
 |seq (l:List Re)
 |alt (l:List Re)
 |rep (lo:Nat) (hi:Option Nat) (r:Re)
def JK (S:List Nat) (b:Nat):Bool:=(S.getD (b/64) 0).testBit (b%64)
def X0 (L:List Nat->Prop):Nat->List Nat->Prop
 |0,w=>w=[]
 |k+1,w=>∃ a b,w=a++b∧L a∧X0 L k b
mutual
def Re.L:Re->List Nat->Prop
 |.emp,w=>w=[]
 |.set S,w=>∃ b,w=[b]∧JK S b=true
 |.seq l,w=>Re.SeqL l w
 |.alt l,w=>Re.AltL l w
 |.rep lo hi r,w=>∃ k,lo<=k∧(∀ h,hi=some h->k<=h)∧X0 r.L k w
def Re.SeqL:List Re->List Nat->Prop
 |[],w=>w=[]
 |r::l,w=>∃ a b,w=a++b∧r.L a∧Re.SeqL l b
def Re.AltL:List Re->List Nat->Prop
 |[],_=>False
 |r::l,w=>r.L w∨Re.AltL l w
end
structure Chart where
 sets:List (List Nat)
 fol:List Nat
structure Pt where
 nul:Bool
 fst:Nat
 lst:Nat
def xM (fol:List Nat) (frm to:Nat):List Nat:=fol.mapIdx fun i f=>if frm.testBit i then f ||| to else f
def Chart.link (c:Chart) (frm to:Nat):Chart:=⟨c.sets,xM c.fol frm to⟩
def qJ (a b:Pt):Pt:=⟨a.nul&&b.nul,if a.nul then a.fst ||| b.fst else a.fst,if b.nul then b.lst ||| a.lst else b.lst⟩
def wS (a b:Pt):Pt:=⟨a.nul || b.nul,a.fst ||| b.fst,a.lst ||| b.lst⟩
def qd (f:Chart->Pt×Chart):Nat->Chart->List Pt×Chart
 |0,c=>([],c)
 |n+1,c=>let (p,c1):=f c;let (l,c2):=qd f n c1;(p::l,c2)
def yN (lo:Nat) (loop:Bool):Nat->List Pt->Chart->Pt×Chart
 |_,[],c=>(⟨true,0,0⟩,c)
 |i,p::l,c =>
  let (q,c1):=yN lo loop (i+1) l c
  let c2:=if loop&&l.isEmpty then c1.link p.lst p.fst else c1
  let r:=qJ p q
  (⟨r.nul || decide (lo<=i),r.fst,r.lst⟩,c2.link p.lst q.fst)
mutual
def Re.write:Re->Chart->Pt×Chart
 |.emp,c=>(⟨true,0,0⟩,c)
 |.set S,c=>(⟨false,1 <<< c.sets.length,1 <<< c.sets.length⟩,⟨c.sets++[S],c.fol++[0]⟩)
 |.seq l,c=>Re.writeSeq l ⟨true,0,0⟩ c
 |.alt l,c=>Re.writeAlt l ⟨false,0,0⟩ c
 |.rep lo hi r,c =>
  let (l,c1):=qd r.write (match hi with|some h=>h|none=>max lo 1) c
  yN lo hi.isNone 0 l c1
def Re.writeSeq:List Re->Pt->Chart->Pt×Chart
 |[],a,c=>(a,c)
 |r::l,a,c=>let (p,c1):=r.write c;Re.writeSeq l (qJ a p) (c1.link a.lst p.fst)
def Re.writeAlt:List Re->Pt->Chart->Pt×Chart
 |[],a,c=>(a,c)
 |r::l,a,c=>let (p,c1):=r.write c;Re.writeAlt l (wS a p) c1
end
def CatL (A B:List Nat->Prop) (w:List Nat):Prop:=∃ a b,w=a++b∧A a∧B b
def Chart.st (c:Chart) (q x:Nat):Prop:=JK (c.sets.getD q []) x=true
def Chart.go (c:Chart) (p q:Nat):Prop:=(c.fol.getD p 0).testBit q=true
def Tr9 (c:Chart) (a b lst:Nat):List Nat->Nat->Prop
 |[],p=>lst.testBit p=true
 |x::w,p=>∃ q,a<=q∧q<b∧c.go p q∧c.st q x∧Tr9 c a b lst w q
def Ac9 (c:Chart) (a b:Nat) (t:Pt):List Nat->Prop
 |[]=>t.nul=true
 |x::w=>∃ q,a<=q∧q<b∧t.fst.testBit q=true∧c.st q x∧Tr9 c a b t.lst w q
structure Piece (c:Chart) (a b:Nat) (t:Pt) (L:List Nat->Prop):Prop where
 le:a<=b
 hi:b<=c.sets.length
 fst:∀ q,t.fst.testBit q=true->a<=q∧q<b
 lst:∀ q,t.lst.testBit q=true->a<=q∧q<b
 shut:∀ p q,a<=p->p<b->c.go p q->a<=q∧q<b
 acc:∀ w,Ac9 c a b t w↔L w
section
variable {c c':Chart} {a b m e:Nat} {s t:Pt} {K L:List Nat->Prop}
theorem Piece.congr (h:Piece c a b t L) (e:∀ w,L w↔K w):Piece c a b t K:=⟨h.le,h.hi,h.fst,h.lst,h.shut,fun w=>(h.acc w).trans (e w)⟩
theorem Piece.nul (h:Piece c a b t L):t.nul=true↔L []:=h.acc []
theorem ZR (hs:∀ q,a<=q->q<b->c'.sets.getD q []=c.sets.getD q []) (hf:∀ p,a<=p->p<b->c'.fol.getD p 0=c.fol.getD p 0) {l:Nat}:∀ (w:List Nat) (p:Nat),a<=p->p<b->(Tr9 c' a b l w p↔Tr9 c a b l w p)
 |[],_,_,_=>Iff.rfl
 |x::w,p,h1,h2=>by
  unfold Tr9 Chart.go Chart.st;rw [hf p h1 h2];constructor
  ·rintro ⟨q,k1,k2,k3,k4,k5⟩;exact ⟨q,k1,k2,k3,by rw [← hs q k1 k2];exact k4,(ZR hs hf w q k1 k2).1 k5⟩
  ·rintro ⟨q,k1,k2,k3,k4,k5⟩;exact ⟨q,k1,k2,k3,by rw [hs q k1 k2];exact k4,(ZR hs hf w q k1 k2).2 k5⟩
theorem Piece.frame (h:Piece c a b t L) (hl:b<=c'.sets.length) (hs:∀ q,a<=q->q<b->c'.sets.getD q []=c.sets.getD q []) (hf:∀ p,a<=p->p<b->c'.fol.getD p 0=c.fol.getD p 0):Piece c' a b t L:=by
 refine ⟨h.le,hl,h.fst,h.lst,fun p q h1 h2 h3=>h.shut p q h1 h2 (by unfold Chart.go at h3 ⊢;rw [← hf p h1 h2];exact h3),fun w=>?_⟩;rw [← h.acc w];cases w with
 |nil=>exact Iff.rfl
 |cons x w =>
  unfold Ac9 Chart.st;constructor
  ·rintro ⟨q,k1,k2,k3,k4,k5⟩;exact ⟨q,k1,k2,k3,by rw [← hs q k1 k2];exact k4,(ZR hs hf w q k1 k2).1 k5⟩
  ·rintro ⟨q,k1,k2,k3,k4,k5⟩;exact ⟨q,k1,k2,k3,by rw [hs q k1 k2];exact k4,(ZR hs hf w q k1 k2).2 k5⟩
theorem wL {f t p q:Nat} (hp:p<c.fol.length):(c.link f t).go p q↔c.go p q∨(f.testBit p=true∧t.testBit q=true):=by
 unfold Chart.go Chart.link xM;simp only [ze,yr,zg hp,xj,qV];cases h:f.testBit p
 ·simp
 ·simp [qH]
theorem ZC {f t:Nat}:(c.link f t).fol.length=c.fol.length:=by simp [Chart.link,xM]
theorem vp {f t p:Nat} (h:f.testBit p=false):(c.link f t).fol.getD p 0=c.fol.getD p 0:=by
 unfold Chart.link xM;simp only [ze,yr];cases c.fol[p]? with
 |none=>rfl
 |some v=>simp [h]
theorem ptSeq_fst {q:Nat}:(qJ s t).fst.testBit q=true↔s.fst.testBit q=true∨(s.nul=true∧t.fst.testBit q=true):=by
 unfold qJ;cases s.nul <;> simp [qH]
theorem ptSeq_lst {q:Nat}:(qJ s t).lst.testBit q=true↔t.lst.testBit q=true∨(t.nul=true∧s.lst.testBit q=true):=by
 unfold qJ;cases t.nul <;> simp [qH]
theorem Piece.eps (h:a<=c.sets.length):Piece c a a ⟨true,0,0⟩ (fun w=>w=[]) :=
 ⟨zp _,h,fun q hq=>by simp at hq,fun q hq=>by simp at hq,fun p q h1 h2=>by omega,fun w=>by
  cases w with
  |nil=>simp [Ac9]
  |cons x w=>simp [Ac9]⟩
theorem Piece.none (h:a<=c.sets.length):Piece c a a ⟨false,0,0⟩ (fun _=>False) :=
 ⟨zp _,h,fun q hq=>by simp at hq,fun q hq=>by simp at hq,fun p q h1 h2=>by omega,fun w=>by
  cases w with
  |nil=>simp [Ac9]
  |cons x w=>simp [Ac9]⟩
theorem Piece.alt (h:Piece c a m s K) (k:Piece c m e t L):Piece c a e (wS s t) (fun w=>K w∨L w):=by
 have trA:∀ (w:List Nat) (p:Nat),a<=p->p<m->(Tr9 c a e (wS s t).lst w p↔Tr9 c a m s.lst w p):=by
  intro w;induction w with
  |nil =>
   intro p h1 h2;unfold Tr9 wS;simp only [qH,qK];exact ⟨fun g=>g.elim id fun g=>by have:=k.lst p g;omega,.inl⟩
  |cons x w ih =>
   intro p h1 h2;unfold Tr9;constructor
   ·rintro ⟨q,k1,k2,k3,k4,k5⟩;have:=h.shut p q h1 h2 k3;exact ⟨q,this.1,this.2,k3,k4,(ih q this.1 this.2).1 k5⟩
   ·rintro ⟨q,k1,k2,k3,k4,k5⟩;exact ⟨q,k1,by have:=k.le;omega,k3,k4,(ih q k1 k2).2 k5⟩
 have trB:∀ (w:List Nat) (p:Nat),m<=p->p<e->(Tr9 c a e (wS s t).lst w p↔Tr9 c m e t.lst w p):=by
  intro w;induction w with
  |nil =>
   intro p h1 h2;unfold Tr9 wS;simp only [qH,qK];exact ⟨fun g=>g.elim (fun g=>by have:=h.lst p g;omega) id,.inr⟩
  |cons x w ih =>
   intro p h1 h2;unfold Tr9;constructor
   ·rintro ⟨q,k1,k2,k3,k4,k5⟩;have:=k.shut p q h1 h2 k3;exact ⟨q,this.1,this.2,k3,k4,(ih q this.1 this.2).1 k5⟩
   ·rintro ⟨q,k1,k2,k3,k4,k5⟩;exact ⟨q,by have:=h.le;omega,k2,k3,k4,(ih q k1 k2).2 k5⟩
 have hle:=h.le;have kle:=k.le;refine ⟨by omega,k.hi,fun q hq=>?_,fun q hq=>?_,fun p q h1 h2 h3=>?_,fun w=>?_⟩
 ·simp only [wS,qH,qK] at hq;rcases hq with hq|hq
  ·have:=h.fst q hq;omega
  ·have:=k.fst q hq;omega
 ·simp only [wS,qH,qK] at hq;rcases hq with hq|hq
  ·have:=h.lst q hq;omega
  ·have:=k.lst q hq;omega
 ·rcases zD p m with g|g
  ·have:=h.shut p q h1 g h3;omega
  ·have:=k.shut p q g h2 h3;omega
 ·rw [← h.acc,← k.acc];cases w with
  |nil=>simp [Ac9,wS]
  |cons x w =>
   unfold Ac9;simp only;constructor
   ·rintro ⟨q,k1,k2,k3,k4,k5⟩;have k3':s.fst.testBit q=true∨t.fst.testBit q=true:=(by simpa [wS,qH] using k3);rcases k3' with g|g
    ·have:=h.fst q g;exact .inl ⟨q,this.1,this.2,g,k4,(trA w q this.1 this.2).1 k5⟩
    ·have:=k.fst q g;exact .inr ⟨q,this.1,this.2,g,k4,(trB w q this.1 this.2).1 k5⟩
   ·rintro (⟨q,k1,k2,k3,k4,k5⟩|⟨q,k1,k2,k3,k4,k5⟩)
    ·exact ⟨q,k1,by omega,by simp [wS,qH,k3],k4,(trA w q k1 k2).2 k5⟩
    ·exact ⟨q,by omega,k2,by simp [wS,qH,k3],k4,(trB w q k1 k2).2 k5⟩
theorem Piece.opt (h:Piece c a b t L):Piece c a b ⟨true,t.fst,t.lst⟩ (fun w=>w=[]∨L w):=by
 refine ⟨h.le,h.hi,h.fst,h.lst,h.shut,fun w=>?_⟩;cases w with
 |nil=>simp [Ac9]
 |cons x w =>
  rw [← h.acc];simp [Ac9]
theorem Piece.seq (hf:c.fol.length=c.sets.length) (h:Piece c a m s K) (k:Piece c m e t L):Piece (c.link s.lst t.fst) a e (qJ s t) (CatL K L):=by
 have hle:=h.le;have kle:=k.le;have khi:=k.hi;have hst:∀ q x,(c.link s.lst t.fst).st q x↔c.st q x:=fun q x=>Iff.rfl
 -- behind the second piece
 have trB:∀ (w:List Nat) (p:Nat),m<=p->p<e->(Tr9 (c.link s.lst t.fst) a e (qJ s t).lst w p↔Tr9 c m e t.lst w p):=by
  intro w;induction w with
  |nil =>
   intro p h1 h2;unfold Tr9;rw [ptSeq_lst];exact ⟨fun g=>g.elim id fun g=>by have:=h.lst p g.2;omega,.inl⟩
  |cons x w ih =>
   intro p h1 h2;unfold Tr9;constructor
   ·rintro ⟨q,k1,k2,k3,k4,k5⟩;rcases (wL (by omega)).1 k3 with g|g
    ·have:=k.shut p q h1 h2 g;exact ⟨q,this.1,this.2,g,k4,(ih q this.1 this.2).1 k5⟩
    ·have:=h.lst p g.1;omega
   ·rintro ⟨q,k1,k2,k3,k4,k5⟩;exact ⟨q,by omega,k2,(wL (by omega)).2 (.inl k3),k4,(ih q k1 k2).2 k5⟩
 -- behind the first piece
 have trA:∀ (w:List Nat) (p:Nat),a<=p->p<m->(Tr9 (c.link s.lst t.fst) a e (qJ s t).lst w p↔∃ u v,w=u++v∧Tr9 c a m s.lst u p∧Ac9 c m e t v):=by
  intro w;induction w with
  |nil =>
   intro p h1 h2;unfold Tr9;rw [ptSeq_lst];constructor
   ·rintro (g|⟨g1,g2⟩)
    ·have:=k.lst p g;omega
    ·exact ⟨[],[],rfl,g2,g1⟩
   ·rintro ⟨u,v,e1,e2,e3⟩;obtain ⟨rfl,rfl⟩:=wQ.1 e1.symm;exact .inr ⟨e3,e2⟩
  |cons x w ih =>
   intro p h1 h2;constructor
   ·intro g;unfold Tr9 at g;obtain ⟨q,k1,k2,k3,k4,k5⟩:=g;rcases (wL (by omega)).1 k3 with g|g
    ·have:=h.shut p q h1 h2 g;obtain ⟨u,v,e1,e2,e3⟩:=(ih q this.1 this.2).1 k5;exact ⟨x::u,v,by rw [e1];rfl,⟨q,this.1,this.2,g,k4,e2⟩,e3⟩
    ·have:=k.fst q g.2;exact ⟨[],x::w,rfl,g.1,⟨q,this.1,this.2,g.2,k4,(trB w q this.1 this.2).1 k5⟩⟩
   ·rintro ⟨u,v,e1,e2,e3⟩;unfold Tr9;cases u with
    |nil =>
     simp only [z8] at e1;subst e1;obtain ⟨q,k1,k2,k3,k4,k5⟩:=e3;exact ⟨q,by omega,k2,(wL (by omega)).2 (.inr ⟨e2,k3⟩),k4,(trB w q k1 k2).2 k5⟩
    |cons y u =>
     simp only [z7,je.injEq] at e1;obtain ⟨rfl,rfl⟩:=e1;obtain ⟨q,k1,k2,k3,k4,k5⟩:=e2;exact ⟨q,k1,by omega,(wL (by omega)).2 (.inl k3),k4,(ih q k1 k2).2 ⟨u,v,rfl,k5,e3⟩⟩
 refine ⟨by omega,khi,fun q hq=>?_,fun q hq=>?_,fun p q h1 h2 h3=>?_,fun w=>?_⟩
 ·rcases ptSeq_fst.1 hq with g|g
  ·have:=h.fst q g;omega
  ·have:=k.fst q g.2;omega
 ·rcases ptSeq_lst.1 hq with g|g
  ·have:=k.lst q g;omega
  ·have:=h.lst q g.2;omega
 ·rcases (wL (by omega)).1 h3 with g|g
  ·rcases zD p m with g2|g2
   ·have:=h.shut p q h1 g2 g;omega
   ·have:=k.shut p q g2 h2 g;omega
  ·have:=k.fst q g.2;omega
 ·have hK:=h.acc;have hL:=k.acc;constructor
  ·intro g;cases w with
   |nil =>
    have g':(s.nul&&t.nul)=true:=g;rw [zf] at g';exact ⟨[],[],rfl,h.nul.1 g'.1,k.nul.1 g'.2⟩
   |cons x w =>
    obtain ⟨q,k1,k2,k3,k4,k5⟩:=g;rcases ptSeq_fst.1 k3 with g|g
    ·have:=h.fst q g;obtain ⟨u,v,e1,e2,e3⟩:=(trA w q this.1 this.2).1 k5;exact ⟨x::u,v,by rw [e1];rfl,(hK _).1 ⟨q,this.1,this.2,g,k4,e2⟩,(hL _).1 e3⟩
    ·have:=k.fst q g.2;exact ⟨[],x::w,rfl,h.nul.1 g.1,(hL _).1 ⟨q,this.1,this.2,g.2,k4,(trB w q this.1 this.2).1 k5⟩⟩
  ·rintro ⟨u,v,rfl,e2,e3⟩;have e2:=(hK _).2 e2;have e3:=(hL _).2 e3;cases u with
   |nil =>
    cases v with
    |nil =>
     show (s.nul&&t.nul)=true
     rw [zf];exact ⟨e2,e3⟩
    |cons x v =>
     obtain ⟨q,k1,k2,k3,k4,k5⟩:=e3;exact ⟨q,by omega,k2,ptSeq_fst.2 (.inr ⟨e2,k3⟩),k4,(trB v q k1 k2).2 k5⟩
   |cons x u =>
    obtain ⟨q,k1,k2,k3,k4,k5⟩:=e2;exact ⟨q,k1,by omega,ptSeq_fst.2 (.inl k3),k4,(trA _ q k1 k2).2 ⟨u,v,rfl,k5,e3⟩⟩
theorem Piece.plus (hf:c.fol.length=c.sets.length) (h:Piece c a b t L):Piece (c.link t.lst t.fst) a b t (fun w=>∃ k,1<=k∧X0 L k w):=by
 have hhi:=h.hi;have trA:∀ (w:List Nat) (p:Nat),a<=p->p<b->(Tr9 (c.link t.lst t.fst) a b t.lst w p↔∃ u v k,w=u++v∧Tr9 c a b t.lst u p∧X0 L k v):=by
  intro w;induction w with
  |nil =>
   intro p h1 h2;constructor
   ·intro g;exact ⟨[],[],0,rfl,g,rfl⟩
   ·rintro ⟨u,v,k,e1,e2,e3⟩;obtain ⟨rfl,rfl⟩:=wQ.1 e1.symm;exact e2
  |cons x w ih =>
   intro p h1 h2;constructor
   ·intro g;unfold Tr9 at g;obtain ⟨q,k1,k2,k3,k4,k5⟩:=g;rcases (wL (by omega)).1 k3 with g|g
    ·obtain ⟨u,v,k,e1,e2,e3⟩:=(ih q k1 k2).1 k5;exact ⟨x::u,v,k,by rw [e1];rfl,⟨q,k1,k2,g,k4,e2⟩,e3⟩
    ·obtain ⟨u,v,k,e1,e2,e3⟩:=(ih q k1 k2).1 k5;exact ⟨[],x::w,k+1,rfl,g.1,x::u,v,by rw [e1];rfl,(h.acc _).1 ⟨q,k1,k2,g.2,k4,e2⟩,e3⟩
   ·rintro ⟨u,v,k,e1,e2,e3⟩
    -- leave out empty copies
    have key:∀ (k:Nat) (v:List Nat),X0 L k v->x::w=u++v->Tr9 c a b t.lst u p->Tr9 (c.link t.lst t.fst) a b t.lst (x::w) p:=by
     intro k;induction k with
     |zero =>
      intro v e3 e1 e2;have e3:v=[]:=e3;subst e3;rw [xH] at e1;subst e1;obtain ⟨q,k1,k2,k3,k4,k5⟩:=e2;exact ⟨q,k1,k2,(wL (by omega)).2 (.inl k3),k4,(ih q k1 k2).2 ⟨w,[],0,by simp,k5,rfl⟩⟩
     |succ k ihk =>
      intro v e3 e1 e2;cases u with
      |cons y u =>
       simp only [z7,je.injEq] at e1;obtain ⟨rfl,rfl⟩:=e1;obtain ⟨q,k1,k2,k3,k4,k5⟩:=e2;exact ⟨q,k1,k2,(wL (by omega)).2 (.inl k3),k4,(ih q k1 k2).2 ⟨u,v,k+1,rfl,k5,e3⟩⟩
      |nil =>
       obtain ⟨a',b',e4,e5,e6⟩:=e3;cases a' with
       |nil =>
        simp only [z8] at e4;subst e4;exact ihk _ e6 e1 e2
       |cons y a' =>
        rw [e4] at e1;simp only [z8,z7,je.injEq] at e1;obtain ⟨rfl,rfl⟩:=e1;obtain ⟨q,k1,k2,k3,k4,k5⟩:=(h.acc _).2 e5;exact ⟨q,k1,k2,(wL (by omega)).2 (.inr ⟨e2,k3⟩),k4,(ih q k1 k2).2 ⟨a',b',k,rfl,k5,e6⟩⟩
    exact key k v e3 e1 e2
 refine ⟨h.le,h.hi,h.fst,h.lst,fun p q h1 h2 h3=>?_,fun w=>?_⟩
 ·rcases (wL (by omega)).1 h3 with g|g
  ·exact h.shut p q h1 h2 g
  ·exact h.fst q g.2
 ·constructor
  ·intro g;cases w with
   |nil=>exact ⟨1,zp _,[],[],rfl,h.nul.1 g,rfl⟩
   |cons x w =>
    obtain ⟨q,k1,k2,k3,k4,k5⟩:=g;obtain ⟨u,v,k,e1,e2,e3⟩:=(trA w q k1 k2).1 k5;exact ⟨k+1,by omega,x::u,v,by rw [e1];rfl,(h.acc _).1 ⟨q,k1,k2,k3,k4,e2⟩,e3⟩
  ·rintro ⟨k,hk,g⟩;have key:∀ (k:Nat) (w:List Nat),X0 L k w->(w=[]->1<=k)->Ac9 (c.link t.lst t.fst) a b t w:=by
    intro k;induction k with
    |zero =>
     intro w g hw;have g:w=[]:=g;have:=hw g;omega
    |succ k ihk =>
     intro w g _;obtain ⟨u,v,e1,e2,e3⟩:=g;cases u with
     |nil =>
      simp only [z8] at e1;subst e1;rcases qR k with rfl|hk0
      ·have e3:w=[]:=e3;subst e3;exact h.nul.2 e2
      ·exact ihk _ e3 fun _=>hk0
     |cons x u =>
      subst e1;obtain ⟨q,k1,k2,k3,k4,k5⟩:=(h.acc _).2 e2;exact ⟨q,k1,k2,k3,k4,(trA _ q k1 k2).2 ⟨u,v,k,rfl,k5,e3⟩⟩
   exact key k w g fun _=>hk
end
structure Chart.Gro (c c':Chart):Prop where
 len:c.sets.length<=c'.sets.length
 fol:c'.fol.length=c'.sets.length
 sets:∀ q,q<c.sets.length->c'.sets.getD q []=c.sets.getD q []
 low:∀ p,p<c.sets.length->c'.fol.getD p 0=c.fol.getD p 0
def Re.Fit:Re->Prop
 |.rep lo hi _=>∀ h,hi=some h->lo<=h
 |_=>True
mutual
def Re.Ok:Re->Prop
 |.emp=>True
 |.set _=>True
 |.seq l=>Re.AllOk l
 |.alt l=>Re.AllOk l
 |.rep lo hi r=>(∀ h,hi=some h->lo<=h)∧r.Ok
def Re.AllOk:List Re->Prop
 |[]=>True
 |r::l=>r.Ok∧Re.AllOk l
end
structure GroA (a:Nat) (c c':Chart):Prop where
 len:c.sets.length<=c'.sets.length
 fol:c'.fol.length=c'.sets.length
 sets:∀ q,q<c.sets.length->c'.sets.getD q []=c.sets.getD q []
 low:∀ p,p<a->c'.fol.getD p 0=c.fol.getD p 0
section
variable {c c' c2:Chart} {a b m e:Nat} {s t:Pt} {K L:List Nat->Prop}
theorem Chart.Gro.refl (h:c.fol.length=c.sets.length):c.Gro c:=⟨zp _,h,fun _ _=>rfl,fun _ _=>rfl⟩
theorem Chart.Gro.trans (h:c.Gro c') (k:c'.Gro c2):c.Gro c2 :=
 ⟨qs h.len k.len,k.fol,fun q hq=>(k.sets q (qO hq h.len)).trans (h.sets q hq),fun p hp=>(k.low p (qO hp h.len)).trans (h.low p hp)⟩
theorem Chart.Gro.link {f u:Nat} (h:c.Gro c') (hf:∀ q,f.testBit q=true->c.sets.length<=q):c.Gro (c'.link f u) :=
 ⟨h.len,by rw [ZC];exact h.fol,h.sets,fun p hp=>by
  rw [vp]
  ·exact h.low p hp
  ·cases g:f.testBit p
   ·rfl
   ·have:=hf p g;omega⟩
theorem Piece.grow (h:Piece c a b t L) (k:c.Gro c'):Piece c' a b t L :=
 h.frame (qs h.hi k.len) (fun q _ hq=>k.sets q (qO hq h.hi)) fun p _ hp=>k.low p (qO hp h.hi)
theorem Piece.linked {f u:Nat} (h:Piece c a b t L) (hf:∀ q,f.testBit q=true->¬ (a<=q∧q<b)):Piece (c.link f u) a b t L :=
 h.frame h.hi (fun q _ _=>rfl) fun p h1 h2=>vp (by
  cases g:f.testBit p
  ·rfl
  ·exact absurd ⟨h1,h2⟩ (hf p g))
def Pcs (c:Chart) (L:List Nat->Prop):Nat->List Pt->Nat->Prop
 |a,[],e=>a=e
 |a,p::l,e=>∃ m,Piece c a m p L∧Pcs c L m l e
theorem Pcs.grow:∀ {l:List Pt} {a e:Nat},Pcs c L a l e->c.Gro c'->Pcs c' L a l e
 |[],_,_,h,_=>h
 |_::_,_,_,⟨m,h1,h2⟩,k=>⟨m,h1.grow k,h2.grow k⟩
theorem Pcs.le:∀ {l:List Pt} {a e:Nat},Pcs c L a l e->a<=e
 |[],_,_,h=>Nat.le_of_eq h
 |_::_,_,_,⟨_,h1,h2⟩=>qs h1.le h2.le
theorem Xj {f:Chart->Pt×Chart} (hf:∀ c,c.fol.length=c.sets.length->c.Gro (f c).2∧Piece (f c).2 c.sets.length (f c).2.sets.length (f c).1 L):∀ (n:Nat) (c:Chart),c.fol.length=c.sets.length->c.Gro (qd f n c).2∧Pcs (qd f n c).2 L c.sets.length (qd f n c).1 (qd f n c).2.sets.length∧(qd f n c).1.length=n
 |0,c,h=>⟨.refl h,rfl,rfl⟩
 |n+1,c,h=>by
  obtain ⟨h1,h2⟩:=hf c h;obtain ⟨k1,k2,k3⟩:=Xj hf n (f c).2 h1.fol;simp only [qd];exact ⟨h1.trans k1,⟨_,h2.grow k1,k2⟩,by simp [k3]⟩
def kZ (L:List Nat->Prop) (lo:Nat) (loop:Bool):Nat->Nat->List Nat->Prop
 |_,0=>fun w=>w=[]
 |i,r+1=>fun w=>(lo<=i∧w=[])∨CatL (if (loop&&r==0)=true then fun w=>∃ k,1<=k∧X0 L k w else L) (kZ L lo loop (i+1) r) w
theorem KE {lo:Nat} {loop:Bool}:∀ (l:List Pt) (i a e:Nat) (c:Chart),c.fol.length=c.sets.length->e=c.sets.length->Pcs c L a l e->(yN lo loop i l c).2.fol.length=(yN lo loop i l c).2.sets.length∧(yN lo loop i l c).2.sets=c.sets∧(∀ p,p<a->(yN lo loop i l c).2.fol.getD p 0=c.fol.getD p 0)∧Piece (yN lo loop i l c).2 a e (yN lo loop i l c).1 (kZ L lo loop i l.length)
 |[],i,a,e,c,hc,he,h=>by
  have h:a=e:=h;subst h;exact ⟨hc,rfl,fun _ _=>rfl,Piece.eps (Nat.le_of_eq he)⟩
 |p::l,i,a,e,c,hc,he,h=>by
  obtain ⟨m,h1,h2⟩:=h;obtain ⟨k1,k2,k3,k4⟩:=KE (lo:=lo) (loop:=loop) l (i+1) m e c hc he h2;have h1':Piece (yN lo loop (i+1) l c).2 a m p L:=h1.frame (by rw [k2];exact h1.hi) (fun q _ _=>by rw [k2]) fun q _ hq=>k3 q hq
  simp only [yN,yZ];generalize yN lo loop (i+1) l c=q at k1 k2 k3 k4 h1';obtain ⟨q,c1⟩:=q;simp only at k1 k2 k3 k4 h1' ⊢;have hle:=h1.le
  -- the loop of the last copy
  obtain ⟨c2,hc2⟩:∃ c2,(if (loop&&l.isEmpty)=true then c1.link p.lst p.fst else c1)=c2:=⟨_,rfl⟩
  rw [hc2];have hl0:l.isEmpty=(l.length==0):=(by cases l <;> rfl);have hB:c2.fol.length=c2.sets.length∧c2.sets=c1.sets∧(∀ x,x<a->c2.fol.getD x 0=c1.fol.getD x 0)∧Piece c2 a m p (if (loop&&l.length==0)=true then fun w=>∃ k,1<=k∧X0 L k w else L)∧Piece c2 m e q (kZ L lo loop (i+1) l.length):=by
   rw [← hl0];by_cases hq:(loop&&l.isEmpty)=true
   ·rw [if_pos hq] at hc2 ⊢;subst hc2;exact ⟨by rw [ZC];exact k1,rfl,fun x hx=>vp (by
     cases g:p.lst.testBit x
     ·rfl
     ·have:=h1.lst x g;omega),h1'.plus k1,k4.linked fun x hx g=>by have:=h1.lst x hx;omega⟩
   ·rw [if_neg hq] at hc2 ⊢;subst hc2;exact ⟨k1,rfl,fun _ _=>rfl,h1',k4⟩
  obtain ⟨b1,b2,b3,b4,b5⟩:=hB;have hS:=b4.seq b1 b5;refine ⟨by rw [ZC];exact b1,b2.trans k2,fun x hx=>?_,?_⟩
  ·rw [vp,b3 x hx,k3 x (by omega)];cases g:p.lst.testBit x
   ·rfl
   ·have:=h1.lst x g;omega
  ·by_cases hlo:lo<=i
   ·have:=hS.opt;rw [decide_eq_true hlo,Bool.or_true];refine this.congr fun w=>?_
    simp only [kZ,hlo,true_and]
   ·rw [decide_eq_false hlo,Bool.or_false];refine hS.congr fun w=>?_
    simp only [kZ,hlo,false_and,false_or]
theorem WW {lo:Nat}:∀ (r i:Nat) (w:List Nat),lo<=i+r->(kZ L lo false i r w↔∃ k,lo-i<=k∧k<=r∧X0 L k w)
 |0,i,w,h=>by
  simp only [kZ];constructor
  ·intro e;exact ⟨0,by omega,zp _,e⟩
  ·rintro ⟨k,h1,h2,h3⟩;obtain rfl:k=0:=by omega
   exact h3
 |r+1,i,w,h=>by
  simp only [kZ,Bool.false_and,kQ,if_false];have ih:=fun w=>WW (lo:=lo) r (i+1) w (by omega)
  constructor
  ·rintro (⟨h1,rfl⟩|⟨u,v,e,h1,h2⟩)
   ·exact ⟨0,by omega,by omega,rfl⟩
   ·obtain ⟨k,k1,k2,k3⟩:=(ih v).1 h2;exact ⟨k+1,by omega,by omega,u,v,e,h1,k3⟩
  ·rintro ⟨k,h1,h2,h3⟩;cases k with
   |zero=>exact .inl ⟨by omega,h3⟩
   |succ k =>
    obtain ⟨u,v,e,h4,h5⟩:=h3;exact .inr ⟨u,v,e,h4,(ih v).2 ⟨k,by omega,by omega,h5⟩⟩
theorem WX {lo:Nat}:∀ (r i:Nat) (w:List Nat),1<=r->i+r=max lo 1->(kZ L lo true i r w↔∃ k,lo-i<=k∧X0 L k w)
 |0,i,w,h,_=>by omega
 |1,i,w,_,h2=>by
  simp only [kZ,Bool.true_and,beq_self_eq_true,if_true];constructor
  ·rintro (⟨h1,rfl⟩|⟨u,v,e,⟨k,k1,k2⟩,h5⟩)
   ·exact ⟨0,by omega,rfl⟩
   ·subst h5;rw [xH] at e;subst e;exact ⟨k,by omega,k2⟩
  ·rintro ⟨k,h1,h3⟩;cases k with
   |zero=>exact .inl ⟨by omega,h3⟩
   |succ k=>exact .inr ⟨w,[],by simp,⟨k+1,by omega,h3⟩,rfl⟩
 |r+2,i,w,h,h2=>by
  have ih:=fun w=>WX (lo:=lo) (r+1) (i+1) w (by omega) (by omega)
  have hb:(true&&(r+1==0))=false:=(by simp);rw [kZ];simp only [hb,kQ,if_false];constructor
  ·rintro (⟨h1,rfl⟩|⟨u,v,e,h1,h3⟩)
   ·exact ⟨0,by omega,rfl⟩
   ·obtain ⟨k,k1,k3⟩:=(ih v).1 h3;exact ⟨k+1,by omega,u,v,e,h1,k3⟩
  ·rintro ⟨k,h1,h3⟩;cases k with
   |zero=>exact .inl ⟨by omega,h3⟩
   |succ k =>
    obtain ⟨u,v,e,h4,h5⟩:=h3;exact .inr ⟨u,v,e,h4,(ih v).2 ⟨k,by omega,h5⟩⟩
theorem VK {S:List Nat} (h:c.fol.length=c.sets.length):c.Gro (Re.write (.set S) c).2∧Piece (Re.write (.set S) c).2 c.sets.length (Re.write (.set S) c).2.sets.length (Re.write (.set S) c).1 (Re.L (.set S)):=by
 simp only [Re.write];have hb:∀ q,(1 <<< c.sets.length).testBit q=true↔q=c.sets.length:=fun q=>by
  rw [Nat.one_shiftLeft,Nat.testBit_two_pow];simp [eq_comm]
 have hnew:(c.sets++[S]).getD c.sets.length []=S:=(by simp [ze]);refine ⟨⟨by simp,by simp [h],fun q hq=>?_,fun p hp=>?_⟩,⟨by simp,by simp,fun q hq=>?_,fun q hq=>?_,fun p q h1 h2 h3=>?_,fun w=>?_⟩⟩
 ·simp only [ze,zv hq]
 ·simp only [ze,zv (show p<c.fol.length by omega)]
 ·have:=(hb q).1 hq;simp;omega
 ·have:=(hb q).1 hq;simp;omega
 ·simp at h2;have hp:p=c.fol.length:=(by omega);subst hp;unfold Chart.go at h3;simp [ze] at h3
 ·cases w with
  |nil=>simp [Ac9,Re.L]
  |cons x w =>
   simp only [Ac9,Re.L];constructor
   ·rintro ⟨q,k1,k2,k3,k4,k5⟩;have hq:=(hb q).1 k3;subst hq;unfold Chart.st at k4;simp only [hnew] at k4;cases w with
    |nil=>exact ⟨x,rfl,k4⟩
    |cons y w =>
     obtain ⟨q2,j1,j2,j3,j4,j5⟩:=k5;unfold Chart.go at j3;simp [ze,← h] at j3
   ·rintro ⟨b,e,hS⟩;simp only [je.injEq] at e;obtain ⟨rfl,rfl⟩:=e;refine ⟨c.sets.length,zp _,by simp,(hb _).2 rfl,?_,(hb _).2 rfl⟩;unfold Chart.st;simp only [hnew];exact hS
end
mutual
theorem vA:∀ (r:Re) (c:Chart),r.Ok->c.fol.length=c.sets.length->c.Gro (r.write c).2∧Piece (r.write c).2 c.sets.length (r.write c).2.sets.length (r.write c).1 r.L
 |.emp,c,_,h=>⟨.refl h,by simp only [Re.write];exact (Piece.eps (zp _)).congr fun w=>by simp [Re.L]⟩
 |.set S,c,_,h=>VK h
 |.seq l,c,hl,h=>by
  have:=seq_ok l c.sets.length ⟨true,0,0⟩ c (fun w=>w=[]) hl h (zp _) (Piece.eps (zp _));simp only [Re.write];refine ⟨⟨this.1.len,this.1.fol,this.1.sets,this.1.low⟩,this.2.congr fun w=>?_⟩;simp only [Re.L];exact ⟨fun ⟨a,b,e,e1,e2⟩=>by subst e1;rw [e];exact e2,fun g=>⟨[],w,rfl,rfl,g⟩⟩
 |.alt l,c,hl,h=>by
  have:=alt_ok l c.sets.length ⟨false,0,0⟩ c (fun _=>False) hl h (zp _) (Piece.none (zp _));simp only [Re.write];refine ⟨this.1,this.2.congr fun w=>?_⟩;simp only [Re.L,false_or]
 |.rep lo hi r,c,hl,h=>by
  have hr:∀ c,c.fol.length=c.sets.length->c.Gro (r.write c).2∧Piece (r.write c).2 c.sets.length (r.write c).2.sets.length (r.write c).1 r.L:=fun c h=>vA r c hl.2 h
  simp only [Re.write];obtain ⟨n,hn⟩:∃ n,(match hi with|some h=>h|none=>max lo 1)=n:=⟨_,rfl⟩
  rw [hn];obtain ⟨k1,k2,k3⟩:=Xj hr n c h;generalize qd r.write n c=q at k1 k2 k3;obtain ⟨l,c1⟩:=q;simp only at k1 k2 k3 ⊢;obtain ⟨j1,j2,j3,j4⟩:=KE (lo:=lo) (loop:=hi.isNone) l 0 _ _ c1 k1.fol rfl k2;refine ⟨⟨by rw [j2];exact k1.len,j1,fun q hq=>by rw [j2];exact k1.sets q hq,fun p hp=>(j3 p hp).trans (k1.low p hp)⟩,?_⟩;rw [j2];refine j4.congr fun w=>?_
  rw [k3];simp only [Re.L];cases hi with
  |some h' =>
   simp only at hn;subst hn;have:=hl.1 h' rfl;simp only [Option.isNone_some];rw [WW h' 0 w (by omega)];exact ⟨fun ⟨k,a1,a2,a3⟩=>⟨k,by omega,fun h e=>by injection e with e;omega,a3⟩,fun ⟨k,a1,a2,a3⟩=>⟨k,by omega,a2 _ rfl,a3⟩⟩
  |none =>
   simp only at hn;simp only [Option.isNone_none];rw [WX n 0 w (by omega) (by omega)];exact ⟨fun ⟨k,a1,a3⟩=>⟨k,by omega,(fun h e=>by cases e),a3⟩,fun ⟨k,a1,a2,a3⟩=>⟨k,by omega,a3⟩⟩
theorem seq_ok:∀ (l:List Re) (a:Nat) (s:Pt) (c:Chart) (K:List Nat->Prop),Re.AllOk l->c.fol.length=c.sets.length->a<=c.sets.length->Piece c a c.sets.length s K->GroA a c (Re.writeSeq l s c).2∧Piece (Re.writeSeq l s c).2 a (Re.writeSeq l s c).2.sets.length (Re.writeSeq l s c).1 (CatL K (Re.SeqL l))
 |[],a,s,c,K,_,h,ha,hp=>by
  simp only [Re.writeSeq];refine ⟨⟨zp _,h,fun _ _=>rfl,fun _ _=>rfl⟩,hp.congr fun w=>?_⟩;exact ⟨fun g=>⟨w,[],by simp,g,by simp [Re.SeqL]⟩,fun ⟨u,v,e,e1,e2⟩=>by
   simp only [Re.SeqL] at e2;subst e2;rw [xH] at e;subst e;exact e1⟩
 |r::l,a,s,c,K,hl,h,ha,hp=>by
  obtain ⟨k1,k2⟩:=vA r c hl.1 h;simp only [Re.writeSeq];generalize r.write c=q at k1 k2;obtain ⟨p,c1⟩:=q;simp only at k1 k2 ⊢;have hS:=(hp.grow k1).seq k1.fol k2;obtain ⟨j1,j2⟩:=seq_ok l a (qJ s p) (c1.link s.lst p.fst) (CatL K r.L) hl.2 (by rw [ZC];exact k1.fol) (qs ha k1.len) hS;refine ⟨⟨qs k1.len j1.len,j1.fol,fun q hq=>(j1.sets q (qO hq k1.len)).trans (k1.sets q hq),fun x hx=>?_⟩,j2.congr fun w=>?_⟩
  ·rw [j1.low x hx,vp,k1.low x (by omega)];cases g:s.lst.testBit x
   ·rfl
   ·have:=hp.lst x g;omega
  ·simp only [CatL,Re.SeqL];constructor
   ·rintro ⟨u,v,e,⟨u1,u2,e2,e3,e4⟩,e5⟩;exact ⟨u1,u2++v,by rw [e,e2];simp,e3,u2,v,rfl,e4,e5⟩
   ·rintro ⟨u,v,e,e2,v1,v2,e3,e4,e5⟩;exact ⟨u++v1,v2,by rw [e,e3];simp,⟨u,v1,rfl,e2,e4⟩,e5⟩
theorem alt_ok:∀ (l:List Re) (a:Nat) (s:Pt) (c:Chart) (K:List Nat->Prop),Re.AllOk l->c.fol.length=c.sets.length->a<=c.sets.length->Piece c a c.sets.length s K->c.Gro (Re.writeAlt l s c).2∧Piece (Re.writeAlt l s c).2 a (Re.writeAlt l s c).2.sets.length (Re.writeAlt l s c).1 (fun w=>K w∨Re.AltL l w)
 |[],a,s,c,K,_,h,ha,hp=>by
  simp only [Re.writeAlt];exact ⟨.refl h,hp.congr fun w=>by simp [Re.AltL]⟩
 |r::l,a,s,c,K,hl,h,ha,hp=>by
  obtain ⟨k1,k2⟩:=vA r c hl.1 h;simp only [Re.writeAlt];generalize r.write c=q at k1 k2;obtain ⟨p,c1⟩:=q;simp only at k1 k2 ⊢;have hS:=(hp.grow k1).alt k2;obtain ⟨j1,j2⟩:=alt_ok l a (wS s p) c1 (fun w=>K w∨r.L w) hl.2 k1.fol (qs ha k1.len) hS;refine ⟨k1.trans j1,j2.congr fun w=>?_⟩;simp only [Re.AltL,or_assoc]
end
def Chart.aft (c:Chart) (S:Nat):Nat:=(zl c.fol.length).foldl (fun acc i=>if S.testBit i then acc ||| c.fol.getD i 0 else acc) 0
def kw (c:Chart) (t:Pt) (search:Bool) (S:Nat):Nat:=if search then c.aft S ||| t.fst else c.aft S
def Wm (t:Pt) (search:Bool) (S:Nat):Bool:=(S &&& t.lst != 0) || (search&&t.nul)
def yf (allowed:List Nat) (nx:Nat):List Nat:=allowed.map fun p=>nx &&& p
def wI (c:Chart) (t:Pt) (search:Bool) (allowed:List Nat) (most:Nat):Nat->Nat->List Nat->Option (List Nat)
 |0,_,_=>none
 |f+1,i,l =>
  if most<=l.length then none else match l[i]? with
   |none=>some l
   |some S=>wI c t search allowed most f (i+1) ((yf allowed (kw c t search S)).foldl ins l)
def x5 (c:Chart) (t:Pt) (search:Bool) (cls allowed l:List Nat):Mch :=
 ⟨cls,((yf allowed t.fst).map fun S=>l.idxOf S+1)::l.map fun S=>(yf allowed (kw c t search S)).map fun S=>l.idxOf S+1,t.nul::l.map (Wm t search),0⟩
section
variable {c:Chart} {t:Pt} {search:Bool} {cls allowed l:List Nat} {most:Nat}
theorem Ys {g:Nat->Nat} {S q:Nat}:∀ (r:List Nat) (z:Nat),((r.foldl (fun acc i=>if S.testBit i then acc ||| g i else acc) z).testBit q=true)↔(z.testBit q=true∨∃ i∈r,S.testBit i=true∧(g i).testBit q=true)
 |[],z=>by simp
 |i::r,z=>by
  rw [zQ,Ys r];by_cases h:S.testBit i=true
  ·simp only [h,if_true,qH,qK,zG,exists_eq_or_imp,true_and];exact ⟨fun g=>by rcases g with (g|g)|g <;> simp [g],fun g=>by rcases g with g|g|g <;> simp [g]⟩
  ·simp only [h,if_false,zG,exists_eq_or_imp,false_and,false_or,kQ]
theorem vC {S q:Nat}:(c.aft S).testBit q=true↔∃ p,p<c.fol.length∧S.testBit p=true∧c.go p q:=by
 unfold Chart.aft;rw [Ys];simp only [Nat.zero_testBit,kQ,false_or,zo];rfl
structure Jm (c:Chart) (t:Pt) (search:Bool) (allowed l:List Nat):Prop where
 zero:∀ p∈allowed,t.fst &&& p∈l
 step:∀ S∈l,∀ p∈allowed,kw c t search S &&& p∈l
 nd:l.Nodup
theorem ins_nd {l:List Nat} {x:Nat} (h:l.Nodup):(ins l x).Nodup:=by
 unfold ins;split
 ·exact h
 ·rename_i hm;rw [jr];exact ⟨h,by simp,fun a ha b hb=>by simp at hb;subst hb;intro e;subst e;exact hm ha⟩
theorem yl:∀ (r l:List Nat),l.Nodup->(r.foldl ins l).Nodup
 |[],_,h=>h
 |x::r,l,h=>yl r _ (ins_nd h)
theorem xh:∀ (r l:List Nat),∃ x,r.foldl ins l=l++x
 |[],l=>⟨[],by simp⟩
 |q::r,l=>by
  obtain ⟨x,e⟩:=xh r (ins l q);rw [zQ,e];unfold ins;split
  ·exact ⟨x,rfl⟩
  ·exact ⟨q::x,by simp⟩
theorem QT:∀ (f:Nat) {i:Nat} {l l':List Nat},wI c t search allowed most f i l=some l'->l.Nodup->(∀ p∈allowed,t.fst &&& p∈l)->(∀ j S,j<i->l[j]?=some S->∀ p∈allowed,kw c t search S &&& p∈l)->Jm c t search allowed l'∧l'.length<most
 |0,_,_,_,h,_,_,_=>by cases h
 |f+1,i,l,l',h,hn,h0,hs=>by
  rw [wI] at h;by_cases hm:most<=l.length
  ·rw [if_pos hm] at h;cases h
  ·rw [if_neg hm] at h;cases hS:l[i]? with
   |none =>
    rw [hS] at h;simp only [yz.injEq] at h;subst h;refine ⟨⟨h0,fun S hS' p hp=>?_,hn⟩,by omega⟩;obtain ⟨j,hj,e⟩:=qG.1 hS';have:=yh.1 hS;exact hs j S (by omega) ((zg hj).trans (congrArg some e)) p hp
   |some S =>
    rw [hS] at h;simp only at h;refine QT f h (yl _ _ hn) (fun p hp=>(qk _ _ _).2 (.inl (h0 p hp))) fun j S' hj hS' p hp=>?_
    have hi:i<l.length:=by
     rcases zD i l.length with g|g
     ·exact g
     ·rw [zu g] at hS;cases hS
    obtain ⟨x,e⟩:=xh (yf allowed (kw c t search S)) l;rw [e,zv (by omega)] at hS';rcases zD j i with g|g
    ·exact (qk _ _ _).2 (.inl (hs j S' g hS' p hp))
    ·have:j=i:=by omega
     subst this;rw [hS] at hS';injection hS' with hS'
     subst hS';exact (qk _ _ _).2 (.inr (zC.2 ⟨p,hp,rfl⟩))
def X7 (c:Chart) (t:Pt) (search:Bool) (al:Nat->Nat):List Nat->Nat->Nat
 |[],S=>S
 |x::w,S=>X7 c t search al w (kw c t search S &&& al x)
structure Fits (c:Chart) (cls allowed:List Nat):Prop where
 len:cls.length=256
 lt:∀ k∈cls,k<allowed.length
 bit:∀ b,b<256->∀ i,i<c.sets.length->((allowed.getD (cls.getD b 0) 0).testBit i=true↔c.st i b)
def alM (cls allowed:List Nat) (b:Nat):Nat:=allowed.getD (cls.getD b 0) 0
theorem Fits.mem (h:Fits c cls allowed) {b:Nat} (hb:b<256):alM cls allowed b∈allowed∧allowed[cls.getD b 0]?=some (alM cls allowed b):=by
 have h1:cls[b]?=some (cls[b]'(by rw [h.len];exact hb)):=zg _;have h2:=h.lt _ (zc h1);have e:cls.getD b 0=cls[b]'(by rw [h.len];exact hb):=(by rw [ze,h1];rfl);unfold alM;rw [e];have h3:allowed[cls[b]'(by rw [h.len];exact hb)]?=some (allowed[cls[b]'(by rw [h.len];exact hb)]):=zg h2;rw [ze,h3];exact ⟨zc h3,rfl⟩
theorem Ky (h:Jm c t search allowed l) (hf:Fits c cls allowed):(x5 c t search cls allowed l).Ok (l.length+1) allowed.length:=by
 refine ⟨hf.len,by simp [x5],by simp [x5],by simp [x5],fun r hr=>?_,fun r hr q hq=>?_,hf.lt⟩
 ·simp only [x5,zG,zC] at hr;rcases hr with rfl|⟨S,hS,rfl⟩ <;> simp [yf]
 ·simp only [x5,zG,zC] at hr;rcases hr with rfl|⟨S,hS,rfl⟩
  ·simp only [yf,zC] at hq;obtain ⟨y,⟨p,hp,rfl⟩,rfl⟩:=hq;have:=yY (h.zero p hp);omega
  ·simp only [yf,zC] at hq;obtain ⟨y,⟨p,hp,rfl⟩,rfl⟩:=hq;have:=yY (h.step S hS p hp);omega
theorem Jv (hf:Fits c cls allowed) {b:Nat} (hb:b<256):(x5 c t search cls allowed l).step 0 b=l.idxOf (t.fst &&& alM cls allowed b)+1:=by
 have:=(hf.mem hb).2;unfold Mch.step Mch.ent Mch.cl x5 yf;simp only [List.getD_cons_zero,Y4];rw [ze,zq,this];rfl
theorem Vk (h:Jm c t search allowed l) (hf:Fits c cls allowed) {b S:Nat} (hb:b<256) (hS:S∈l):(x5 c t search cls allowed l).step (l.idxOf S+1) b=l.idxOf (kw c t search S &&& alM cls allowed b)+1:=by
 have:=(hf.mem hb).2;unfold Mch.step Mch.ent Mch.cl x5 yf;simp only [List.getD_cons_succ,Y4];rw [ze (l:=l.map _),zq,j9 hS];simp only [xj,qV];rw [ze,zq,this];rfl
theorem Wz (h:Jm c t search allowed l) (hf:Fits c cls allowed):∀ (w:List Nat) (S:Nat),Lts w->S∈l->(x5 c t search cls allowed l).run (l.idxOf S+1) w=l.idxOf (X7 c t search (alM cls allowed) w S)+1∧X7 c t search (alM cls allowed) w S∈l
 |[],S,_,hS=>⟨rfl,hS⟩
 |b::w,S,hw,hS=>by
  have hb:=hw b (by simp);have h1:=h.step S hS _ (hf.mem hb).1;have:=Wz h hf w _ (fun x hx=>hw x (by simp [hx])) h1;refine ⟨?_,this.2⟩;have e:(x5 c t search cls allowed l).run (l.idxOf S+1) (b::w)=(x5 c t search cls allowed l).run ((x5 c t search cls allowed l).step (l.idxOf S+1) b) w:=rfl;rw [e,Vk h hf hb hS];exact this.1
theorem cons_acc {S:Nat} (hS:S∈l):(x5 c t search cls allowed l).ac (l.idxOf S+1)=Wm t search S:=by
 unfold Mch.ac x5;simp only [List.getD_cons_succ];rw [ze,zq,j9 hS];rfl
theorem Xh (h:Jm c t search allowed l) (hf:Fits c cls allowed) {w:List Nat} (hw:Lts w):(x5 c t search cls allowed l).lang w=match w with
  |[]=>t.nul
  |x::w=>Wm t search (X7 c t search (alM cls allowed) w (t.fst &&& alM cls allowed x)):=by
 unfold Mch.lang;cases w with
 |nil=>rfl
 |cons x w =>
  have hx:=hw x (by simp);have e:(x5 c t search cls allowed l).run (x5 c t search cls allowed l).start (x::w)=(x5 c t search cls allowed l).run ((x5 c t search cls allowed l).step 0 x) w:=rfl;rw [e,Jv hf hx];have h1:=h.zero _ (hf.mem hx).1;obtain ⟨k1,k2⟩:=Wz h hf w _ (fun y hy=>hw y (by simp [hy])) h1;rw [k1];exact cons_acc k2
theorem and_ne {a b:Nat}:(a &&& b != 0)=true↔∃ q,a.testBit q=true∧b.testBit q=true:=by
 rw [bne_iff_ne];constructor
 ·intro h;obtain ⟨q,hq⟩:=Nat.exists_testBit_of_ne_zero h;rw [qj,zf] at hq;exact ⟨q,hq⟩
 ·rintro ⟨q,h1,h2⟩ e;have:(a &&& b).testBit q=true:=by rw [qj,h1,h2];rfl
  rw [e] at this;simp at this
theorem V8 {n:Nat} {L:List Nat->Prop} (hP:Piece c 0 n t L) (hn:n=c.sets.length) (hc:c.fol.length=c.sets.length) (hf:Fits c cls allowed):∀ (w:List Nat) (S:Nat),Lts w->(∀ q,S.testBit q=true->q<n)->((∃ q,(X7 c t false (alM cls allowed) w S).testBit q=true∧t.lst.testBit q=true)↔∃ p,S.testBit p=true∧Tr9 c 0 n t.lst w p)
 |[],S,_,_=>Iff.rfl
 |x::w,S,hw,hS=>by
  have hx:=hw x (by simp);have hS':∀ q,(c.aft S &&& alM cls allowed x).testBit q=true->q<n:=fun q hq=>by
   rw [qj,zf,vC] at hq;obtain ⟨⟨p,h1,h2,h3⟩,_⟩:=hq;exact (hP.shut p q (zH _) (hS p h2) h3).2
  have ih:=V8 hP hn hc hf w (c.aft S &&& alM cls allowed x) (fun y hy=>hw y (by simp [hy])) hS';have e:X7 c t false (alM cls allowed) (x::w) S=X7 c t false (alM cls allowed) w (c.aft S &&& alM cls allowed x):=rfl;rw [e,ih];constructor
  ·rintro ⟨q,h1,h2⟩;have hq:=hS' q h1;rw [qj,zf,vC] at h1;obtain ⟨⟨p,k1,k2,k3⟩,k4⟩:=h1;exact ⟨p,k2,q,zH _,hq,k3,(hf.bit x hx q (by omega)).1 k4,h2⟩
  ·rintro ⟨p,h1,q,h2,h3,h4,h5,h6⟩;refine ⟨q,?_,h6⟩;rw [qj,zf,vC];exact ⟨⟨p,by have:=hS p h1;omega,h1,h4⟩,(hf.bit x hx q (by omega)).2 h5⟩
theorem Jh {n:Nat} {L:List Nat->Prop} (hP:Piece c 0 n t L) (hn:n=c.sets.length) (hc:c.fol.length=c.sets.length) (hf:Fits c cls allowed):∀ (w:List Nat) (S:Nat),Lts w->(∀ q,S.testBit q=true->q<n)->((∃ q,(X7 c t true (alM cls allowed) w S).testBit q=true∧t.lst.testBit q=true)↔(∃ p,S.testBit p=true∧Tr9 c 0 n t.lst w p)∨∃ u v,w=u++v∧v≠[]∧L v)
 |[],S,_,_=>by
  constructor
  ·intro h;exact .inl h
  ·rintro (h|⟨u,v,e,h,_⟩)
   ·exact h
   ·obtain ⟨rfl,rfl⟩:=wQ.1 e.symm;exact absurd rfl h
 |x::w,S,hw,hS=>by
  have hx:=hw x (by simp);have hS':∀ q,((c.aft S ||| t.fst) &&& alM cls allowed x).testBit q=true->q<n:=fun q hq=>by
   rw [qj,zf,qH,qK,vC] at hq;rcases hq.1 with ⟨p,h1,h2,h3⟩|h3
   ·exact (hP.shut p q (zH _) (hS p h2) h3).2
   ·exact (hP.fst q h3).2
  have ih:=Jh hP hn hc hf w ((c.aft S ||| t.fst) &&& alM cls allowed x) (fun y hy=>hw y (by simp [hy])) hS';have e:X7 c t true (alM cls allowed) (x::w) S=X7 c t true (alM cls allowed) w ((c.aft S ||| t.fst) &&& alM cls allowed x):=rfl;rw [e,ih];constructor
  ·rintro (⟨q,h1,h2⟩|⟨u,v,e1,e2,e3⟩)
   ·have hq:=hS' q h1;rw [qj,zf,qH,qK,vC] at h1;obtain ⟨h1|h1,k4⟩:=h1
    ·obtain ⟨p,k1,k2,k3⟩:=h1;exact .inl ⟨p,k2,q,zH _,hq,k3,(hf.bit x hx q (by omega)).1 k4,h2⟩
    ·exact .inr ⟨[],x::w,rfl,by simp,(hP.acc _).1 ⟨q,zH _,hq,h1,(hf.bit x hx q (by omega)).1 k4,h2⟩⟩
   ·exact .inr ⟨x::u,v,by rw [e1];rfl,e2,e3⟩
  ·rintro (⟨p,h1,q,h2,h3,h4,h5,h6⟩|⟨u,v,e1,e2,e3⟩)
   ·refine .inl ⟨q,?_,h6⟩;rw [qj,zf,qH,qK,vC];exact ⟨.inl ⟨p,by have:=hS p h1;omega,h1,h4⟩,(hf.bit x hx q (by omega)).2 h5⟩
   ·cases u with
    |nil =>
     simp only [z8] at e1;subst e1;obtain ⟨q,k1,k2,k3,k4,k5⟩:=(hP.acc _).2 e3;refine .inl ⟨q,?_,k5⟩;rw [qj,zf,qH,qK];exact ⟨.inr k3,(hf.bit x hx q (by omega)).2 k4⟩
    |cons y u =>
     simp only [z7,je.injEq] at e1;obtain ⟨rfl,rfl⟩:=e1;exact .inr ⟨u,v,rfl,e2,e3⟩
theorem cons_of {L:List Nat->Prop} (h:Jm c t false allowed l) (hf:Fits c cls allowed) (hP:Piece c 0 c.sets.length t L) (hc:c.fol.length=c.sets.length) {w:List Nat} (hw:Lts w):(x5 c t false cls allowed l).lang w=true↔L w:=by
 rw [Xh h hf hw];cases w with
 |nil=>exact hP.nul
 |cons x w =>
  have hx:=hw x (by simp);simp only [Wm,Bool.false_and,Bool.or_false];rw [and_ne,V8 hP rfl hc hf w _ (fun y hy=>hw y (by simp [hy])) fun q hq=>by
   rw [qj,zf] at hq;exact (hP.fst q hq.1).2]
  rw [← hP.acc];constructor
  ·rintro ⟨p,h1,h2⟩;rw [qj,zf] at h1;have:=hP.fst p h1.1;exact ⟨p,this.1,this.2,h1.1,(hf.bit x hx p this.2).1 h1.2,h2⟩
  ·rintro ⟨p,h1,h2,h3,h4,h5⟩;exact ⟨p,by rw [qj,zf];exact ⟨h3,(hf.bit x hx p h2).2 h4⟩,h5⟩
theorem WA {L:List Nat->Prop} (h:Jm c t true allowed l) (hf:Fits c cls allowed) (hP:Piece c 0 c.sets.length t L) (hc:c.fol.length=c.sets.length) {w:List Nat} (hw:Lts w):(x5 c t true cls allowed l).lang w=true↔∃ u v,w=u++v∧L v:=by
 rw [Xh h hf hw];cases w with
 |nil =>
  rw [hP.nul];constructor
  ·intro g;exact ⟨[],[],rfl,g⟩
  ·rintro ⟨u,v,e,g⟩;obtain ⟨rfl,rfl⟩:=wQ.1 e.symm;exact g
 |cons x w =>
  have hx:=hw x (by simp);simp only [Wm,Bool.true_and,qK];rw [and_ne,Jh hP rfl hc hf w _ (fun y hy=>hw y (by simp [hy])) fun q hq=>by
   rw [qj,zf] at hq;exact (hP.fst q hq.1).2]
  constructor
  ·rintro ((⟨p,h1,h2⟩|⟨u,v,e,_,g⟩)|g)
   ·rw [qj,zf] at h1;have:=hP.fst p h1.1;exact ⟨[],x::w,rfl,(hP.acc _).1 ⟨p,this.1,this.2,h1.1,(hf.bit x hx p this.2).1 h1.2,h2⟩⟩
   ·exact ⟨x::u,v,by rw [e];rfl,g⟩
   ·exact ⟨x::w,[],by simp,hP.nul.1 g⟩
  ·rintro ⟨u,v,e,g⟩;cases v with
   |nil=>exact .inr (hP.nul.2 g)
   |cons y v =>
    cases u with
    |nil =>
     simp only [z8,je.injEq] at e;obtain ⟨rfl,rfl⟩:=e;obtain ⟨p,h1,h2,h3,h4,h5⟩:=(hP.acc _).2 g;exact .inl (.inl ⟨p,by rw [qj,zf];exact ⟨h3,(hf.bit x hx p h2).2 h4⟩,h5⟩)
    |cons z u =>
     simp only [z7,je.injEq] at e;obtain ⟨rfl,rfl⟩:=e;exact .inl (.inr ⟨u,y::v,rfl,by simp,g⟩)
end
def cutT (t:List Nat) (i j:Nat):List Nat:=(t.drop i).take (j-i)
def At9 (t:List Nat) (from_:List Bool) (L:List Nat->Prop) (j:Nat):Prop:=∃ i,i<=j∧from_.getD i false=true∧L (cutT t i j)
def Fol9 (t:List Nat) (E:List Bool->List Bool) (L:List Nat->Prop):Prop:=∀ a:List Bool,a.length=t.length+1->(E a).length=t.length+1∧∀ j,j<=t.length->((E a).getD j false=true↔At9 t a L j)
section
variable {t:List Nat} {E:List Bool->List Bool} {L K:List Nat->Prop}
theorem cut_self {i:Nat}:cutT t i i=[]:=by simp [cutT]
theorem Fol9.id:Fol9 t (fun a=>a) (fun w=>w=[]):=fun a ha=>⟨ha,fun j hj=>by
 constructor
 ·intro h;exact ⟨j,zp _,h,cut_self⟩
 ·rintro ⟨i,h1,h2,h3⟩;have:(cutT t i j).length=j-i:=by unfold cutT;rw [yD,vW];omega
  rw [h3] at this;obtain rfl:i=j:=by simp at this;omega
  exact h2⟩
theorem Fol9.congr (h:Fol9 t E L) (e:∀ w,L w↔K w):Fol9 t E K:=fun a ha=>⟨(h a ha).1,fun j hj=>((h a ha).2 j hj).trans ⟨fun ⟨i,a1,a2,a3⟩=>⟨i,a1,a2,(e _).1 a3⟩,fun ⟨i,a1,a2,a3⟩=>⟨i,a1,a2,(e _).2 a3⟩⟩⟩
end
inductive Rch (c:Chart) (t:Pt) (search:Bool) (M:Nat->Prop):Nat->Prop
 |zero {p:Nat} (h:M p):Rch c t search M (t.fst &&& p)
 |step {S p:Nat} (h:Rch c t search M S) (k:M p):Rch c t search M (kw c t search S &&& p)
def W7 (c:Chart) (t:Pt) (search:Bool) (cols:List Nat) (limit:Nat):Nat->Nat->List Nat->List Nat
 |0,_,l=>l
 |f+1,i,l=>if l.length<=limit then match l[i]? with
  |none=>l
  |some S=>W7 c t search cols limit f (i+1) ((yf cols (kw c t search S)).foldl ins l) else l
section
variable {c:Chart} {t:Pt} {search:Bool} {A B l:List Nat} {most:Nat}
theorem wk {P:Nat->Prop} {r l:List Nat} (h:∀ x∈l,P x) (k:∀ x∈r,P x):∀ x∈r.foldl ins l,P x:=fun x hx=>((qk r l x).1 hx).elim (h x) (k x)
theorem V4 {S:Nat} (h:Rch c t search (·∈A) S):∀ x∈yf A (kw c t search S),Rch c t search (·∈A) x:=fun x hx=>by
 obtain ⟨p,hp,rfl⟩:=zC.1 hx;exact .step h hp
theorem Xi:∀ (f:Nat) {i:Nat} {l:List Nat},wI c t search A most f i l=none->most<f+i->(∀ x∈l,Rch c t search (·∈A) x)->l.Nodup->i<=l.length->∃ l':List Nat,l'.Nodup∧most<=l'.length∧∀ x∈l',Rch c t search (·∈A) x
 |0,i,l,_,hf,hl,hn,hi=>⟨l,hn,by omega,hl⟩
 |f+1,i,l,h,hf,hl,hn,hi=>by
  rw [wI] at h;by_cases hm:most<=l.length
  ·exact ⟨l,hn,hm,hl⟩
  ·rw [if_neg hm] at h;cases hS:l[i]? with
   |none=>rw [hS] at h;cases h
   |some S =>
    rw [hS] at h;have:=ka (yf A (kw c t search S)) l;exact Xi f h (by omega) (wk hl (V4 (hl S (zc hS)))) (yl _ _ hn) (by have:=zP hS;omega)
theorem W8 {limit:Nat}:∀ (f:Nat) {i:Nat} {l:List Nat},(∀ x∈l,Rch c t search (·∈A) x)->l.Nodup->(∀ x∈W7 c t search A limit f i l,Rch c t search (·∈A) x)∧(W7 c t search A limit f i l).Nodup
 |0,_,l,hl,hn=>⟨hl,hn⟩
 |f+1,i,l,hl,hn=>by
  rw [W7];split
  ·cases hS:l[i]? with
   |none=>exact ⟨hl,hn⟩
   |some S=>exact W8 f (wk hl (V4 (hl S (zc hS)))) (yl _ _ hn)
  ·exact ⟨hl,hn⟩
theorem V5 {limit:Nat}:∀ (f:Nat) {i:Nat} {l:List Nat},limit<f+i->i<=l.length->(∀ p∈A,t.fst &&& p∈l)->(∀ j S,j<i->l[j]?=some S->∀ p∈A,kw c t search S &&& p∈l)->limit<(W7 c t search A limit f i l).length∨∀ x,Rch c t search (·∈A) x->x∈W7 c t search A limit f i l
 |0,i,l,hf,hi,_,_=>.inl (by show limit<l.length;omega)
 |f+1,i,l,hf,hi,h0,hs=>by
  rw [W7];split
  ·cases hS:l[i]? with
   |none =>
    refine .inr fun x hx=>?_
    have hlen:=yh.1 hS;simp only;induction hx with
    |zero h=>exact h0 _ h
    |step h k ih =>
     obtain ⟨j,hj,e⟩:=qG.1 ih;exact hs j _ (by omega) ((zg hj).trans (congrArg some e)) _ k
   |some S =>
    simp only;have hil:=zP hS;have hlen:=ka (yf A (kw c t search S)) l;refine V5 f (by omega) (by omega) (fun p hp=>(qk _ _ _).2 (.inl (h0 p hp))) fun j S' hj hS' p hp=>?_
    obtain ⟨x,e⟩:=xh (yf A (kw c t search S)) l;rw [e,zv (by omega)] at hS';rcases zD j i with g|g
    ·exact (qk _ _ _).2 (.inl (hs j S' g hS' p hp))
    ·obtain rfl:j=i:=by omega
     rw [hS] at hS';injection hS' with hS'
     subst hS';exact (qk _ _ _).2 (.inr (zC.2 ⟨p,hp,rfl⟩))
  ·exact .inl (by omega)
theorem Rch.mono {M N:Nat->Prop} (h:∀ p,M p->N p) {x:Nat} (k:Rch c t search M x):Rch c t search N x:=by
 induction k with
 |zero g=>exact .zero (h _ g)
 |step _ g ih=>exact .step ih (h _ g)
theorem VT (hAB:∀ p,p∈A↔p∈B) {f g limit:Nat} (hf:limit<f) (hg:limit<g):wI c t search A limit f 0 ((yf A t.fst).foldl ins [])=none↔limit<=(W7 c t search B limit g 0 ((yf B t.fst).foldl ins [])).length:=by
 have hA:∀ x∈(yf A t.fst).foldl ins [],Rch c t search (·∈A) x:=wk (fun x hx=>by simp at hx) fun x hx=>by
  obtain ⟨p,hp,rfl⟩:=zC.1 hx;exact .zero hp
 have hB:∀ x∈(yf B t.fst).foldl ins [],Rch c t search (·∈B) x:=wk (fun x hx=>by simp at hx) fun x hx=>by
  obtain ⟨p,hp,rfl⟩:=zC.1 hx;exact .zero hp
 have nA:((yf A t.fst).foldl ins []).Nodup:=yl _ _ (by simp);have nB:((yf B t.fst).foldl ins []).Nodup:=yl _ _ (by simp);have zA:∀ p∈A,t.fst &&& p∈(yf A t.fst).foldl ins []:=fun p hp=>(qk _ _ _).2 (.inr (zC.2 ⟨p,hp,rfl⟩))
 have zB:∀ p∈B,t.fst &&& p∈(yf B t.fst).foldl ins []:=fun p hp=>(qk _ _ _).2 (.inr (zC.2 ⟨p,hp,rfl⟩))
 constructor
 ·intro h;obtain ⟨l',l1,l2,l3⟩:=Xi f h (by omega) hA nA (zH _);rcases V5 (search:=search) (c:=c) g (i:=0) (by omega) (zH _) zB (fun j S hj=>by omega) with k|k
  ·omega
  ·have:=l1.length_le_of_subset fun x hx=>k x ((l3 x hx).mono fun p hp=>(hAB p).1 hp)
   omega
 ·intro h;cases hc:wI c t search A limit f 0 ((yf A t.fst).foldl ins []) with
  |none=>rfl
  |some l' =>
   exfalso;obtain ⟨hC,hlt⟩:=QT f hc nA zA (fun j S hj=>by omega);obtain ⟨r1,r2⟩:=W8 (search:=search) (c:=c) (t:=t) (A:=B) (limit:=limit) g (i:=0) hB nB;have hall:∀ x,Rch c t search (·∈A) x->x∈l':=fun x hx=>by
    induction hx with
    |zero h=>exact hC.zero _ h
    |step h k ih=>exact hC.step _ ih _ k
   have:=r2.length_le_of_subset fun x hx=>hall x ((r1 x hx).mono fun p hp=>(hAB p).2 hp)
   omega
end
end
section
set_option linter.unusedSectionVars false
structure Hd where
 k:Int
 s0:Nat
 s1:Nat
 s2:Nat
 s3:Nat
 lo:Int
 hi:Int
inductive Rx
 |mk (h:Hd) (l:List Rx)
def Rx.hd:Rx->Hd
 |.mk h _=>h
def Rx.ps:Rx->List Rx
 |.mk _ l=>l
def Hd.set (h:Hd):List Nat:=[h.s0,h.s1,h.s2,h.s3]
def Hd.okN (h:Hd) (n:Nat):Bool :=
  (h.k==2 || (h.s0==0&&h.s1==0&&h.s2==0&&h.s3==0)) &&
  (h.k==5 || (h.lo==0&&h.hi==0)) &&
  (if h.k==1 || h.k==2 then n==0
   else if h.k==3 || h.k==4 then decide (2<=n)
   else if h.k==5 then n==1&&decide (0<=h.lo)&&decide (h.lo<=64)&&(h.hi == -1 || (decide (h.lo<=h.hi)&&decide (h.hi<=64)))
   else false)
mutual
def Rx.valid:Rx->Bool
 |.mk h l=>h.okN l.length&&Rx.validL l
def Rx.validL:List Rx->Bool
 |[]=>true
 |r::l=>r.valid&&Rx.validL l
end
def Hd.cop (h:Hd):Nat:=if h.k=5 then (if h.hi = -1 then max h.lo.toNat 1 else h.hi.toNat) else 1
mutual
def Rx.node:Rx->Nat->Nat->Option (Nat×Nat×Nat)
 |.mk h l,d,s=>if 256<s+1∨32<d then none else
  match Rx.nodeL l (d+1) (s+1) (if h.k=2 then 1 else 0) 0 with
  |none=>none
  |some (s',p,w)=>some (s',min (p*h.cop) 1048576,min (w*h.cop+1) 1048576)
def Rx.nodeL:List Rx->Nat->Nat->Nat->Nat->Option (Nat×Nat×Nat)
 |[],_,s,p,w=>some (s,p,w)
 |r::l,d,s,p,w=>match r.node d s with
  |none=>none
  |some (s',p',w')=>Rx.nodeL l d s' (p+p') (w+w')
end
def Rx.meas (r:Rx):Option Nat:=match r.node 1 0 with
 |none=>none
 |some (_,p,w)=>if 64<p∨4096<w then none else some p
mutual
def Rx.pos:Rx->Nat
 |.mk h l=>((if h.k=2 then 1 else 0)+Rx.posL l)*h.cop
def Rx.posL:List Rx->Nat
 |[]=>0
 |r::l=>r.pos+Rx.posL l
end
mutual
def Rx.wri:Rx->Nat
 |.mk h l=>Rx.wriL l*h.cop+1
def Rx.wriL:List Rx->Nat
 |[]=>0
 |r::l=>r.wri+Rx.wriL l
end
mutual
def Rx.re:Rx->Re
 |.mk h l=>if h.k=2 then .set h.set else if h.k=3 then .seq (Rx.reL l) else if h.k=4 then .alt (Rx.reL l) else if h.k=5 then Rx.reP h.lo.toNat (if h.hi<0 then none else some h.hi.toNat) l else .emp
def Rx.reL:List Rx->List Re
 |[]=>[]
 |r::l=>r.re::Rx.reL l
def Rx.reP (lo:Nat) (hi:Option Nat):List Rx->Re
 |[]=>.emp
 |r::_=>.rep lo hi r.re
end
theorem Rx.validL_mem:∀ {l:List Rx},Rx.validL l=true->∀ r∈l,r.valid=true
 |[],_,r,hr=>by simp at hr
 |x::l,h,r,hr=>by
  rw [Rx.validL,zf] at h;rcases zG.1 hr with rfl|hr
  ·exact h.1
  ·exact Rx.validL_mem h.2 r hr
theorem Rx.validL_of:∀ {l:List Rx},(∀ r∈l,r.valid=true)->Rx.validL l=true
 |[],_=>rfl
 |x::l,h=>by
  rw [Rx.validL,zf];exact ⟨h x (zS ..),Rx.validL_of fun r hr=>h r (qv _ hr)⟩
theorem Rx.valid_iff {r:Rx}:r.valid=true↔r.hd.okN r.ps.length=true∧∀ p∈r.ps,p.valid=true:=by
 cases r with
 |mk h l =>
  rw [Rx.valid,zf];exact ⟨fun g=>⟨g.1,Rx.validL_mem g.2⟩,fun g=>⟨g.1,Rx.validL_of g.2⟩⟩
theorem Rx.reL_map:∀ (l:List Rx),Rx.reL l=l.map Rx.re
 |[]=>rfl
 |r::l=>by rw [Rx.reL,Rx.reL_map l];rfl
theorem Hd.cases {h:Hd} {n:Nat} (e:h.okN n=true):(h.k=1∧n=0)∨(h.k=2∧n=0)∨(h.k=3∧2<=n)∨(h.k=4∧2<=n)∨(h.k=5∧n=1∧0<=h.lo∧h.lo<=64∧(h.hi = -1∨(h.lo<=h.hi∧h.hi<=64))):=by
 unfold Hd.okN at e;simp only [zf,qK,beq_iff_eq] at e;obtain ⟨⟨e1,e2⟩,e3⟩:=e;split at e3
 ·rename_i h1;rcases h1 with h1|h1
  ·exact .inl ⟨h1,by simpa using e3⟩
  ·exact .inr (.inl ⟨h1,by simpa using e3⟩)
 ·split at e3
  ·rename_i h1;rcases h1 with h1|h1
   ·exact .inr (.inr (.inl ⟨h1,by simpa using e3⟩))
   ·exact .inr (.inr (.inr (.inl ⟨h1,by simpa using e3⟩)))
  ·split at e3
   ·rename_i h1;simp only [zf,qK,beq_iff_eq,decide_eq_true_eq] at e3;exact .inr (.inr (.inr (.inr ⟨h1,e3.1.1.1,e3.1.1.2,e3.1.2,e3.2⟩)))
   ·simp at e3
mutual
theorem Rx.re_ok:∀ {r:Rx},r.valid=true->r.re.Ok
 |.mk h l,e=>by
  have e':=e;rw [Rx.valid,zf] at e';have hl:=Rx.reL_ok e'.2;have hc:=Hd.cases e'.1;rw [Rx.re];split
  ·exact trivial
  ·split
   ·exact hl
   ·split
    ·exact hl
    ·split
     ·rename_i h5
      match l,e' with
      |[],e'=>rw [Rx.reP];exact trivial
      |x::l',e' =>
       rw [Rx.reP];rw [Rx.validL,zf] at e';refine ⟨fun y hy=>?_,Rx.re_ok e'.2.1⟩;rcases hc with g|g|g|g|g
       ·omega
       ·omega
       ·omega
       ·omega
       ·split at hy
        ·simp at hy
        ·injection hy with hy
         subst hy;omega
     ·exact trivial
theorem Rx.reL_ok:∀ {l:List Rx},Rx.validL l=true->Re.AllOk (Rx.reL l)
 |[],_=>trivial
 |r::l,e=>by
  rw [Rx.validL,zf] at e;exact ⟨Rx.re_ok e.1,Rx.reL_ok e.2⟩
end
theorem KN {a c E:Nat}:min (min a E*c) E=min (a*c) E:=by
 rcases Nat.le_total a E with h|h
 ·rw [wi h]
 ·rw [Nat.min_eq_right h];rcases qR c with rfl|hc
  ·rfl
  ·have h1:E<=E*c:=Zp E hc;have h2:E*c<=a*c:=kV c h;omega
theorem WZ {a c E:Nat} (hE:0<E):min (min a E*c+1) E=min (a*c+1) E:=by
 rcases Nat.le_total a E with h|h
 ·rw [wi h]
 ·rw [Nat.min_eq_right h];rcases qR c with rfl|hc
  ·rfl
  ·have h1:E<=E*c:=Zp E hc;have h2:E*c<=a*c:=kV c h;omega
theorem min_mulc {a b c E:Nat} (h:min a E=min b E):min (a*c) E=min (b*c) E:=by
 rw [← KN,h,KN]
theorem VD {a b c E:Nat} (hE:0<E) (h:min a E=min b E):min (a*c+1) E=min (b*c+1) E:=by
 rw [← WZ hE,h,WZ hE]
mutual
theorem Rx.node_is:∀ {r:Rx} {d s s' p w:Nat},r.node d s=some (s',p,w)->p=min r.pos 1048576∧w=min r.wri 1048576∧s<s'∧s'<=256∧d<=32
 |.mk h l,d,s,s',p,w,e=>by
  rw [Rx.node] at e;split at e
  ·simp at e
  ·rename_i hn;split at e
   ·simp at e
   ·rename_i s2 p2 w2 e2;obtain ⟨h1,h2,h3,h4⟩:=Rx.nodeL_is e2 (by omega);injection e with e
    injection e with e3 e
    injection e with e4 e5
    subst e3 e4 e5;refine ⟨?_,?_,by omega,h4,by omega⟩
    ·rw [Rx.pos];exact min_mulc h1
    ·rw [Rx.wri];exact VD (by omega) (by simpa using h2)
theorem Rx.nodeL_is:∀ {l:List Rx} {d s p w s' p' w':Nat},Rx.nodeL l d s p w=some (s',p',w')->s<=256->min p' 1048576=min (p+Rx.posL l) 1048576∧min w' 1048576=min (w+Rx.wriL l) 1048576∧s<=s'∧s'<=256
 |[],d,s,p,w,s',p',w',e,hs=>by
  rw [Rx.nodeL] at e;injection e with e
  injection e with e1 e
  injection e with e2 e3
  subst e1 e2 e3;exact ⟨rfl,rfl,zp _,hs⟩
 |r::l,d,s,p,w,s',p',w',e,hs=>by
  rw [Rx.nodeL] at e;split at e
  ·simp at e
  ·rename_i s2 p2 w2 e2;obtain ⟨h1,h2,h3,h4,_⟩:=Rx.node_is e2;obtain ⟨g1,g2,g3,g4⟩:=Rx.nodeL_is e h4;rw [Rx.posL,Rx.wriL];refine ⟨?_,?_,by omega,g4⟩
   ·rw [g1,h1];omega
   ·rw [g2,h2];omega
end
theorem Rx.meas_is {r:Rx} {p:Nat} (h:r.meas=some p):p=r.pos∧p<=64∧r.wri<=4096:=by
 unfold Rx.meas at h;split at h
 ·simp at h
 ·rename_i s p2 w2 e;obtain ⟨h1,h2,_⟩:=Rx.node_is e;split at h
  ·simp at h
  ·injection h with h
   omega
theorem vL {lo:Nat} {loop:Bool}:∀ (l:List Pt) (i:Nat) (c:Chart),(yN lo loop i l c).2.sets=c.sets
 |[],_,_=>rfl
 |p::l,i,c=>by
  rw [yN];show (Chart.link _ _ _).sets=c.sets
  unfold Chart.link;show (if (loop&&l.isEmpty)=true then Chart.mk (yN lo loop (i+1) l c).2.sets _ else (yN lo loop (i+1) l c).2).sets=c.sets
  split
  ·exact vL l (i+1) c
  ·exact vL l (i+1) c
theorem Yk {f:Chart->Pt×Chart} {k:Nat} (hf:∀ c,(f c).2.sets.length=c.sets.length+k):∀ (n:Nat) (c:Chart),(qd f n c).2.sets.length=c.sets.length+k*n∧(qd f n c).1.length=n
 |0,c=>by rw [qd];exact ⟨by simp,rfl⟩
 |n+1,c=>by
  rw [qd];obtain ⟨h1,h2⟩:=Yk hf n (f c).2;refine ⟨?_,?_⟩
  ·show (qd f n (f c).2).2.sets.length=_
   rw [h1,hf,YZ];omega
  ·show (_::(qd f n (f c).2).1).length=_
   rw [yZ,h2]
mutual
theorem Rx.re_len:∀ {r:Rx},r.valid=true->∀ c:Chart,(r.re.write c).2.sets.length=c.sets.length+r.pos
 |.mk h l,e,c=>by
  have e':=e;rw [Rx.valid,zf] at e';have hc:=Hd.cases e'.1;rw [Rx.re,Rx.pos];split
  ·rename_i hk;have:l=[]:=qI (by omega);subst this;simp [Re.write,Rx.posL,Hd.cop,hk]
  ·split
   ·rename_i hk;rw [Re.write,Rx.seq_len e'.2];simp [Hd.cop,hk]
   ·split
    ·rename_i hk;rw [Re.write,Rx.alt_len e'.2];simp [Hd.cop,hk]
    ·split
     ·rename_i hk
      match l,e' with
      |[],e'=>simp at hc;omega
      |[x],e' =>
       rw [Rx.validL,zf] at e';have hx:=Rx.re_len e'.2.1;rw [Rx.reP];have hw:∀ (lo:Nat) (hi:Option Nat),(Re.write (.rep lo hi x.re) c)=yN lo hi.isNone 0 (qd x.re.write (match hi with|some h=>h|none=>max lo 1) c).1 (qd x.re.write (match hi with|some h=>h|none=>max lo 1) c).2:=fun lo hi=>by
        cases hi <;> first|rfl|(rw [Re.write.eq_def];done)|simp only [Re.write]
       rw [hw];show (yN _ _ 0 (qd x.re.write _ c).1 (qd x.re.write _ c).2).2.sets.length=_
       rw [vL,(Yk hx _ c).1];congr 1
       have hcop:(match (if h.hi<0 then none else some h.hi.toNat:Option Nat) with|some h=>h|none=>max h.lo.toNat 1)=h.cop:=by
        unfold Hd.cop;rw [if_pos hk];by_cases h0:h.hi<0
        ·rw [if_pos h0,if_pos (by omega)]
        ·rw [if_neg h0,if_neg (by omega)]
       rw [hcop];simp [Rx.posL,hk]
      |x::y::l,e'=>simp at hc;omega
     ·rename_i h2 h3 h4 h5;have:l=[]:=qI (by omega);subst this;simp [Re.write,Rx.posL,h2]
theorem Rx.seq_len:∀ {l:List Rx},Rx.validL l=true->∀ (a:Pt) (c:Chart),(Re.writeSeq (Rx.reL l) a c).2.sets.length=c.sets.length+Rx.posL l
 |[],_,a,c=>by rw [Rx.reL,Re.writeSeq,Rx.posL];rfl
 |r::l,e,a,c=>by
  rw [Rx.validL,zf] at e;rw [Rx.reL,Re.writeSeq,Rx.posL];show (Re.writeSeq (Rx.reL l) _ (Chart.link (r.re.write c).2 _ _)).2.sets.length=_
  rw [Rx.seq_len e.2];show (r.re.write c).2.sets.length+_=_
  rw [Rx.re_len e.1];omega
theorem Rx.alt_len:∀ {l:List Rx},Rx.validL l=true->∀ (a:Pt) (c:Chart),(Re.writeAlt (Rx.reL l) a c).2.sets.length=c.sets.length+Rx.posL l
 |[],_,a,c=>by rw [Rx.reL,Re.writeAlt,Rx.posL];rfl
 |r::l,e,a,c=>by
  rw [Rx.validL,zf] at e;rw [Rx.reL,Re.writeAlt,Rx.posL];show (Re.writeAlt (Rx.reL l) _ (r.re.write c).2).2.sets.length=_
  rw [Rx.alt_len e.2,Rx.re_len e.1];omega
end
def lkE (f t:Nat) (i:Nat):Nat:=if f.testBit i then t else 0
structure PE where
 pt:Pt
 E:Nat->Nat
def PE.one:PE:=⟨⟨true,0,0⟩,fun _=>0⟩
def PE.seq (a b:PE):PE:=⟨qJ a.pt b.pt,fun i=>a.E i ||| b.E i ||| lkE a.pt.lst b.pt.fst i⟩
theorem Qu {f:Chart->Pt×Chart}:∀ (n:Nat) (c:Chart),qd f (n+1) c=((qd f n c).1++[(f (qd f n c).2).1],(f (qd f n c).2).2)
 |0,c=>rfl
 |n+1,c=>by
  rw [qd];show ((f c).1::(qd f (n+1) (f c).2).1,(qd f (n+1) (f c).2).2)=_
  rw [Qu n (f c).2];rfl
structure ChOk (c:Chart):Prop where
 len:c.fol.length=c.sets.length
 bd:∀ y∈c.fol,y<18446744073709551616
theorem kK {x:Nat} (h:∀ i,x.testBit i=true->i<64):x<18446744073709551616:=by
 have:x<2 ^ 64:=Nat.lt_pow_two_of_testBit x fun i hi=>by
  cases e:x.testBit i
  ·rfl
  ·have:=h i e;omega
 simpa using this
theorem VX {r:Re} {c:Chart} (hr:r.Ok) (hc:ChOk c) (h64:(r.write c).2.sets.length<=64):((r.write c).1.fst<18446744073709551616∧(r.write c).1.lst<18446744073709551616∧(∀ i,(r.write c).1.fst.testBit i=true->i<(r.write c).2.sets.length)∧∀ i,(r.write c).1.lst.testBit i=true->i<(r.write c).2.sets.length)∧ChOk (r.write c).2:=by
 obtain ⟨hg,hp⟩:=vA r c hr hc.len;have hf:∀ i,(r.write c).1.fst.testBit i=true->i<(r.write c).2.sets.length:=fun i hi=>(hp.fst i hi).2
 have hl:∀ i,(r.write c).1.lst.testBit i=true->i<(r.write c).2.sets.length:=fun i hi=>(hp.lst i hi).2
 refine ⟨⟨kK fun i hi=>qO (hf i hi) h64,kK fun i hi=>qO (hl i hi) h64,hf,hl⟩,hg.fol,fun y hy=>?_⟩;obtain ⟨p,hpy⟩:=yj.1 hy;have hpl:p<(r.write c).2.fol.length:=(zy.1 hpy).1;have hgd:(r.write c).2.fol.getD p 0=y:=(by rw [ze,hpy];rfl);rcases zD p c.sets.length with h|h
 ·have:=hg.low p h;rw [hgd] at this;have hpc:p<c.fol.length:=(by rw [hc.len];exact h);rw [ze,zg hpc] at this;simp only [qV] at this;rw [this];exact hc.bd _ (yt hpc)
 ·refine kK fun q hq=>?_
  have:=hp.shut p q h (by rw [← hg.fol];exact hpl) (by unfold Chart.go;rw [hgd];exact hq);omega
theorem Jg:∀ (l:List Re) (r:Re) (a:Pt) (c:Chart),Re.writeSeq (l++[r]) a c=(qJ (Re.writeSeq l a c).1 (r.write (Re.writeSeq l a c).2).1,((r.write (Re.writeSeq l a c).2).2.link (Re.writeSeq l a c).1.lst (r.write (Re.writeSeq l a c).2).1.fst))
 |[],r,a,c=>by simp only [z8,Re.writeSeq]
 |x::l,r,a,c=>by
  rw [z7,Re.writeSeq,Re.writeSeq];exact Jg l r _ _
theorem Wq:∀ (l:List Re) (r:Re) (a:Pt) (c:Chart),Re.writeAlt (l++[r]) a c=(wS (Re.writeAlt l a c).1 (r.write (Re.writeAlt l a c).2).1,(r.write (Re.writeAlt l a c).2).2)
 |[],r,a,c=>by simp only [z8,Re.writeAlt]
 |x::l,r,a,c=>by
  rw [z7,Re.writeAlt,Re.writeAlt];exact Wq l r _ _
theorem Jb {l:List Rx} {i:Nat} {r:Rx} (h:l[i]?=some r):Rx.reL (l.take (i+1))=Rx.reL (l.take i)++[r.re]:=by
 rw [Rx.reL_map,Rx.reL_map,xZ,h];simp
theorem vP {l:List Rx} {i:Nat} {r:Rx} (h:l[i]?=some r):Rx.posL (l.take (i+1))=Rx.posL (l.take i)+r.pos:=by
 rw [xZ,h];have:∀ (l k:List Rx),Rx.posL (l++k)=Rx.posL l+Rx.posL k:=by
  intro l k;induction l with
  |nil=>simp [Rx.posL]
  |cons x l ih=>rw [z7,Rx.posL,Rx.posL,ih];omega
 rw [this];simp [Rx.posL]
theorem KZ {l:List Rx} {i:Nat}:Rx.posL (l.take i)<=Rx.posL l:=by
 induction l generalizing i with
 |nil=>simp
 |cons x l ih =>
  cases i with
  |zero=>simp [Rx.posL]
  |succ i=>rw [List.take_succ_cons,Rx.posL,Rx.posL];have:=ih (i:=i);omega
theorem Zu {f:Chart->Pt×Chart} (n:Nat) (c:Chart):qd f (n+1) c=((qd f n c).1++[(f (qd f n c).2).1],(f (qd f n c).2).2):=Qu n c
end
section
open Go.RowKit Go.Maps
abbrev zT:=List (Nat×Nat×List Value)
def zx (P:zT):As:=⟨P.map (·.1),fun w=>∀ x∈P,x.1<w.heap.size∧w.rangeAt x.1 x.2.1 x.2.2,
 fun w w' h hw x hx=>by
  have hb:=h x.1 (zC.2 ⟨x,hx,rfl⟩);obtain ⟨h1,h2⟩:=hw x hx;refine ⟨?_,fun j v hj=>?_⟩
  ·rw [Array.getElem?_eq_getElem h1] at hb;exact xk.1 hb |>.1
  ·rw [← h2 j v hj];unfold World.cell?;simp only [hb],
 fun w hw b hb=>by
  obtain ⟨x,hx,rfl⟩:=zC.1 hb;exact (hw x hx).1⟩
theorem xf (P:zT):(zx P).fp=P.map (·.1):=rfl
theorem xV (P:zT) (w:World):(zx P).ho w=∀ x∈P,x.1<w.heap.size∧w.rangeAt x.1 x.2.1 x.2.2:=rfl
theorem ky (w:World):(zx []).ho w:=by rw [xV];simp
attribute [irreducible] zx
theorem ZJ {P:zT} {w:World} (h:(zx P).ho w) {g o:Nat} {vs:List Value} (hx:(g,o,vs)∈P):w.rangeAt g o vs:=by
 rw [xV] at h;exact (h _ hx).2
theorem St.pool_add {w0 w:World} {M:List Nat} {P Q:zT} {R:List As} (h:St w0 M (zx P::zx Q::R) w):St w0 M (zx (P++Q)::R) w:=by
 have h1:=h.ho (zx P) (by simp);have h2:=h.ho (zx Q) (by simp);obtain ⟨d1,d2⟩:=zK.1 h.dis;obtain ⟨d3,d4⟩:=zK.1 d2;have hfp:∀ b,b∈(zx (P++Q)).fp->b∈(zx P).fp∨b∈(zx Q).fp:=fun b hb=>by
  rw [xf] at hb ⊢;rw [xf];rw [qQ] at hb;exact zt.1 hb
 refine ⟨h.os,h.tape,h.output,h.size,h.keep,fun B hB=>?_,fun B hB b hb=>?_,zK.2 ⟨fun B hB b hb=>?_,d4⟩⟩
 ·rcases zG.1 hB with rfl|hB
  ·rw [xV] at h1 h2 ⊢;intro x hx;rcases zt.1 hx with hx|hx
   ·exact h1 x hx
   ·exact h2 x hx
  ·exact h.ho B (by simp [hB])
 ·rcases zG.1 hB with rfl|hB
  ·rcases hfp b hb with hb|hb
   ·exact h.own _ (by simp) b hb
   ·exact h.own (zx Q) (by simp) b hb
  ·exact h.own B (by simp [hB]) b hb
 ·rcases hfp b hb with hb|hb
  ·exact d1 B (by simp [hB]) b hb
  ·exact d3 B hB b hb
theorem xX {P Q:zT} {w:World} (h1:(zx P).ho w) (h2:(zx Q).ho w):(zx (P++Q)).ho w:=by
 rw [xV] at h1 h2 ⊢;intro x hx;rcases zt.1 hx with hx|hx
 ·exact h1 x hx
 ·exact h2 x hx
def RowIn {α:Type} (P:zT) (enc:α->List Value) (k:Nat) (v:Value) (xs:List α):Prop :=
 ∃ ad c,v=.slice ad xs.length c∧xs.length<=maxLen∧(0<xs.length->∃ g o,ad=some ⟨g,o,none⟩∧(g,o,zX enc xs)∈P)
section
variable {α:Type} {P Q:zT} {enc:α->List Value} {k:Nat} {v:Value} {xs:List α} {w:World}
theorem RowIn.shape (h:RowIn P enc k v xs):∃ ad c,v=.slice ad xs.length c∧xs.length<=maxLen:=by
 obtain ⟨ad,c,h1,h2,_⟩:=h;exact ⟨ad,c,h1,h2⟩
theorem RowIn.has (h:RowIn P enc k v xs) (hx:0<xs.length):∃ g o c,v=.slice (some ⟨g,o,none⟩) xs.length c∧xs.length<=maxLen:=by
 obtain ⟨ad,c,h1,h2,h3⟩:=h;obtain ⟨g,o,rfl,_⟩:=h3 hx;exact ⟨g,o,c,h1,h2⟩
theorem RowIn.mono (h:RowIn P enc k v xs) (hs:∀ x∈P,x∈Q):RowIn Q enc k v xs:=by
 obtain ⟨ad,c,h1,h2,h3⟩:=h;refine ⟨ad,c,h1,h2,fun hx=>?_⟩;obtain ⟨g,o,e,hm⟩:=h3 hx;exact ⟨g,o,e,hs _ hm⟩
theorem RowIn.nil (n:Nat):RowIn P enc k (.slice none 0 n) ([]:List α):=⟨none,n,rfl,by simp,fun h=>by simp at h⟩
theorem RowIn.rng {g o n c i:Nat} {x:α} (h:RowIn P enc k (.slice (some ⟨g,o,none⟩) n c) xs) (hp:(zx P).ho w) (hk:∀ x,(enc x).length=k) (hx:xs[i]?=some x):w.rangeAt g (o+i*k) (enc x):=by
 obtain ⟨ad,c',h1,h2,h3⟩:=h;obtain ⟨g',o',rfl,hm⟩:=h3 (by have:=vl hx;omega);injection h1 with e1 e2 e3
 injection e1 with e1
 injection e1 with e4 e5
 subst e4 e5;have hr:=ZJ hp hm;intro j u hj;have hjk:j<k:=(by rw [← hk x];exact vl hj);have:=hr (i*k+j) u (by rw [wV enc k hk xs i x hx j hjk];exact hj);rwa [← Nat.add_assoc] at this
theorem RowIn.cell {g o n c i:Nat} {x:α} {u:Value} (h:RowIn P enc 1 (.slice (some ⟨g,o,none⟩) n c) xs) (hp:(zx P).ho w) (hk:∀ x,(enc x).length=1) (hx:xs[i]?=some x) (hu:enc x=[u]):w.cell? ⟨g,o+i,none⟩=some u:=by
 have:=h.rng hp hk hx 0 u (by rw [hu];rfl);simpa using this
theorem K7 {e:TypeId} (h:(zi enc e k v xs).ho w) (hk:∀ x,(enc x).length=k):∃ P,RowIn P enc k v xs∧(zx P).ho w∧∀ b∈(zx P).fp,b∈(zi enc e k v xs).fp:=by
 by_cases h0:0<xs.length
 ·obtain ⟨g,c,rfl,hc,hm⟩:=qF h h0;refine ⟨[(g,0,zX enc xs)],⟨_,c,rfl,by omega,fun _=>⟨g,0,rfl,by simp⟩⟩,?_,?_⟩
  ·rw [xV];intro x hx;simp only [zV] at hx;subst hx;refine ⟨(zi enc e k _ xs).lt w h g (by rw [q9];simp [Value.ownBlock]),fun j u hj=>?_⟩;rw [xp] at h;have h1:=World.ownsRow.cells h (g:=g) rfl j u hj;rwa [Addr.add_mid] at h1
  ·intro b hb;rw [xf] at hb;rw [q9];simpa [Value.ownBlock] using hb
 ·obtain ⟨ad,c,rfl,hm⟩:=zW h;exact ⟨[],⟨ad,c,rfl,hm,fun h=>absurd h h0⟩,ky w,by rw [xf];simp⟩
theorem St.to_pool {e:TypeId} {w0:World} {M:List Nat} {R:List As} (h:St w0 M (zi enc e k v xs::R) w) (hk:∀ x,(enc x).length=k):∃ P,RowIn P enc k v xs∧St w0 M (zx P::R) w:=by
 obtain ⟨P,h1,h2,h3⟩:=K7 (h.ho _ zS) hk;obtain ⟨d1,d2⟩:=zK.1 h.dis;refine ⟨P,h1,h.os,h.tape,h.output,h.size,h.keep,fun B hB=>?_,fun B hB b hb=>?_,zK.2 ⟨fun B hB b hb=>d1 B hB b (h3 b hb),d2⟩⟩
 ·rcases zG.1 hB with rfl|hB
  ·exact h2
  ·exact h.ho B (by simp [hB])
 ·rcases zG.1 hB with rfl|hB
  ·exact h.own _ zS b (h3 b hb)
  ·exact h.own B (by simp [hB]) b hb
theorem St.blk_pool {e:TypeId} {g:Nat} {cs:Array Value} {w0:World} {M:List Nat} {R:List As} (h:St w0 M (blk g (.cells cs e)::R) w):St w0 M (zx [(g,0,cs.toList)]::R) w:=by
 refine h.conv (by rw [xf,qi];rfl) fun hb=>?_
 rw [yB] at hb;rw [xV];intro x hx;simp only [zV] at hx;subst hx;refine ⟨lt_of_block hb,fun j u hj=>?_⟩;rw [cell_of_row w g (0+j) cs e (0,0) hb,qA];simpa using hj
end
section
variable {P:Program} {ops:Array Oper} {Q:Exit->Act->World->Prop} {rest:List Oper} {a:Act} {w w0:World} {M:List Nat} {L:List As} {dst:Option Tmp} {ty0:TypeId} {pos:String} {aft:Array Edge} {gd:Option (Nat×Bool)}
def AtMakeMap (P:Program) (ops:Array Oper) (Q:Exit->Act->World->Prop) (o:Oper) (_:TypeId) (rest:List Oper) (a:Act) (w:World):Prop:=wpList P ops Q (o::rest) a w
theorem vK {t:TypeId} (h:AtMakeMap P ops Q ⟨dst,.makeMap t none,ty0,pos,aft,gd⟩ t rest a w):wpList P ops Q (⟨dst,.makeMap t none,ty0,pos,aft,gd⟩::rest) a w:=h
theorem St.new_map (h:St w0 M L w) (P:Program) (kt:TypeId):St w0 M (wX P kt w.heap.size []::L) (w.alloc (.map #[] 0)):=by
 have:=h.alloc (.map #[] 0);refine this.conv (by rw [qi];unfold wX;rfl) fun hb=>?_
 rw [yB] at hb;exact mapA_of hb
theorem AtMakeMap.go {o1:Oper} {t:TypeId} (kt:TypeId) (H:St w0 M L w) (hw:Region.wanted o1 (yielded ops a.tmps)=true) (ho:o1.op=.makeMap t none)
  (h:∀ m w',St w0 M (wX P kt m []::L) w'->wpList P ops Q rest (a.put o1.dst (.map (some m))) w'):AtMakeMap P ops Q o1 t rest a w :=
 wpList_step fun _ hK=>by
  rw [if_pos hw];unfold Oper.wp execOp;have hr:(Instr.makeMap t none).run P w=.ok (.map (some w.heap.size)) (w.alloc (.map #[] 0)):=rfl;simp only [ho,Option.map_none,Sem.run_bind,hr,Result.andThen_ok,Sem.run_pure];exact hK _ _ (h _ _ (H.new_map P kt))
end
end
section
open Go.RowKit
section
variable {P:Program} {Q:Exit->Act->World->Prop} {a:Act} {w w0:World} {M:List Nat} {L R:List As}
def NewF (n0:Nat) (V:Value->Prop) (Y:Value->As) (v:Value) (w:World):Prop:=V v∧(∃ b,xr v=some b∧n0<=b∧(Y v).fp=[b])∧(Y v).ho w
theorem NewF.stable (n0:Nat) (V:Value->Prop) (Y:Value->As):∀ v w w',Grew w w'->NewF n0 V Y v w->NewF n0 V Y v w':=fun v w w' hg ⟨h1,h2,h3⟩ =>
 ⟨h1,h2,(Y v).loc w w' (fun b hb=>hg.block b ((Y v).lt w h3 b hb)) h3⟩
end
end
section
open Go.RowKit Go.Maps
attribute [local go_sem] qM
def q7 (q:Nat):List Value:=[.int .i64 q]
def xI (b:Bool):List Value:=[.bool b]
def Kz (v:Value):List Value:=[v]
theorem zL (q:Nat):(q7 q).length=1:=rfl
theorem yW (b:Bool):(xI b).length=1:=rfl
theorem kh (v:Value):(Kz v).length=1:=rfl
theorem Qw {α:Type} {enc:α->List Value} {k:Nat} (hk:∀ x,(enc x).length=k):∀ {xs:List α} {i:Nat},i<xs.length->∀ z,zX enc (xs.set i z)=(zX enc xs).take (i*k)++enc z++(zX enc xs).drop (i*k+k)
 |[],i,h,_=>by simp at h
 |x::r,0,h,z=>by
  show enc z++zX enc r=(enc x++zX enc r).take (0*k)++enc z++(enc x++zX enc r).drop (0*k+k)
  rw [Nat.zero_mul,jG,z8,qA,List.drop_left' (hk x)]
 |x::r,i+1,h,z=>by
  have ih:=Qw hk (xs:=r) (i:=i) (by simpa using h) z;show enc x++zX enc (r.set i z)=(enc x++zX enc r).take ((i+1)*k)++enc z++(enc x++zX enc r).drop ((i+1)*k+k)
  have e:(i+1)*k=k+i*k:=(by rw [Z7,Nat.add_comm]);rw [ih,e,QR,List.drop_append,hk,zM (l:=enc x) (by rw [hk];omega),xg (l:=enc x) (by rw [hk];omega),show k+i*k-k=i*k by omega,show k+i*k+k-k=i*k+k by omega];simp
theorem AtStore.rowEl {ops:Array Oper} {Q:Exit->Act->World->Prop} {rest:List Oper} {a:Act} {w w0:World} {M:List Nat} {L R:List As} {o1:Oper} {α:Type} {enc:α->List Value} {e ty:TypeId} {x y:Operand} {k g n c i b:Nat} {xs:List α} (H:St w0 M L w) (hw:Region.wanted o1 (yielded ops a.tmps)=true) (ho:o1.op=.store ty x y) (hx:a.eval x=.pointer (some ⟨g,b,none⟩)) {cs:Array Value} (hr:wK ty cs.size=true) (hy:xL a y=some (.agg cs)) (h1:QB cs.toList=true)
  (hp:Pick L (zi enc e k (.slice (some ⟨g,0,none⟩) n c) xs) R) (hk:∀ x,(enc x).length=k) (hi:i<xs.length) (hb:b=i*k) (z:α) (hz:enc z=cs.toList)
  (h:∀ w',St w0 M (zi enc e k (.slice (some ⟨g,0,none⟩) n c) (xs.set i z)::R) w'->wpList z6 ops Q rest (a.put o1.dst undef) w'):AtStore z6 ops Q o1 ty x y rest a w:=by
 have H':=H.pick hp;have hown:=H'.ho _ zS;rw [xp] at hown;obtain ⟨hlen,hown⟩:=hown;rcases hown with ⟨h',_⟩|⟨g',cap,cur,h',_,hg,h5,h7,h6,h8⟩
 ·cases h'
 ·injection h' with e1 e2 e3
  injection e1 with e1
  injection e1 with e1
  subst e1 e2 e3 hb;have H2:St w0 M (blk g (.cells cur e)::R) w:=H'.conv (by rw [q9,qi];rfl) fun _=>by rw [yB];exact hg
  have hck:cs.size=k:=(by have:=hk z;rw [hz] at this;simpa using this);have h9:(i+1)*k<=xs.length*k:=kV k hi;have h10:(i+1)*k=i*k+k:=Z7 i k;have h11:=congrArg List.length h8;rw [qz enc k hk,yD] at h11;have h12:cur.toList.length=cur.size:=rfl;have hbl:i*k+cs.size<=cur.size:=(by omega);refine AtStore.mid H2 hw ho hx hy rfl (kM (yR hr)) (ZI h1) Upd.here hbl rfl fun w' H3=>h w' ?_
  refine H3.conv (by rw [q9,qi];rfl) fun hb'=>?_
  rw [yB] at hb';rw [xp];have hset:(cur.toList.take (i*k)++cs.toList++cur.toList.drop (i*k+cs.size)).take (xs.length*k)=zX enc (xs.set i z):=by
   rw [Qw hk hi z,← h8,hz,List.take_take,wi (by omega),List.drop_take,hck];have l1:(cur.toList.take (i*k)).length=i*k:=(by rw [yD];omega);have l2:cs.toList.length=k:=(by simpa using hck);rw [y7,y7,QR,l1,zM (l:=cur.toList.take (i*k)) (by rw [l1];omega),QR,l2,zM (l:=cs.toList) (by rw [l2];omega)];rw [show xs.length*k-i*k-k=xs.length*k-(i*k+k) by omega]
  refine ⟨by rw [qz enc k hk],.inr ⟨g,c,_,by rw [yi],zH _,hb',by rw [yi];exact h5,h7,?_,?_⟩⟩
  ·simp only [List.size_toArray,zN,yD,vW,Array.length_toList] at h6 ⊢;omega
  ·rw [yi];exact hset
theorem Q5 {α:Type} {enc:α->List Value} {k:Nat} (hk:∀ x,(enc x).length=k) {j:Nat} (hj:j<k) {u:Value} {z:α}:∀ {xs:List α} {i:Nat} {x0:α},xs[i]?=some x0->enc z=(enc x0).set j u->zX enc (xs.set i z)=(zX enc xs).set (i*k+j) u
 |[],i,x0,h,_=>by simp at h
 |x::r,0,x0,h,hz=>by
  have:x=x0:=by simpa using h
  subst this;simp only [zj,Nat.zero_mul,qA];show enc z++zX enc r=(enc x++zX enc r).set j u
  rw [List.set_append_left _ _ (by rw [hk];exact hj),hz]
 |x::r,i+1,x0,h,hz=>by
  have ih:=Q5 hk hj (xs:=r) (i:=i) (by simpa using h) hz;show enc x++zX enc (r.set i z)=(enc x++zX enc r).set ((i+1)*k+j) u
  rw [List.set_append_right _ _ (by rw [hk];have:(i+1)*k=i*k+k:=Z7 i k;omega),ih,hk];congr 2
  have:(i+1)*k=i*k+k:=Z7 i k;omega
section
variable {ops:Array Oper} {Q:Exit->Act->World->Prop} {rest:List Oper} {a:Act} {w w0:World} {M:List Nat} {L R:List As} {o1:Oper}
theorem AtStore.rowAk {α:Type} {enc:α->List Value} {e ty:TypeId} {x y:Operand} {k g n c i j b:Nat} {xs:List α} (H:St w0 M L w) (hw:Region.wanted o1 (yielded ops a.tmps)=true) (ho:o1.op=.store ty x y) (hx:a.eval x=.pointer (some ⟨g,b,none⟩)) {u:Value} (hr:ja ty=true) (hy:xL a y=some u) (h1:u.oneCell'=true)
  (hp:Pick L (zi enc e k (.slice (some ⟨g,0,none⟩) n c) xs) R) (hk:∀ x,(enc x).length=k) {x0:α} (hi:xs[i]?=some x0) (hj:j<k) (hb:b=i*k+j) (z:α) (hz:enc z=(enc x0).set j u)
  (h:∀ w',St w0 M (zi enc e k (.slice (some ⟨g,0,none⟩) n c) (xs.set i z)::R) w'->wpList z6 ops Q rest (a.put o1.dst undef) w'):AtStore z6 ops Q o1 ty x y rest a w:=by
 have H':=H.pick hp;have hil:i<xs.length:=(zy.1 hi).1;have hown:=H'.ho _ zS;rw [xp] at hown;obtain ⟨hlen,hown⟩:=hown;rcases hown with ⟨h',_⟩|⟨g',cap,cs,h',_,hg,h5,h7,h6,h8⟩
 ·cases h'
 ·injection h' with e1 e2 e3
  injection e1 with e1
  injection e1 with e1
  subst e1 e2 e3;have H2:St w0 M (blk g (.cells cs e)::R) w:=H'.conv (by rw [q9,qi];rfl) fun _=>by rw [yB];exact hg
  have hbl:b<cs.size:=by
   have h9:(i+1)*k<=xs.length*k:=kV k hil;have h10:(i+1)*k=i*k+k:=Z7 i k;have h11:=congrArg List.length h8;rw [qz enc k hk,yD] at h11;have h12:cs.toList.length=cs.size:=rfl;omega
  refine AtStore.cell H2 hw ho hx hy h1 (Qq (xz hr)) Upd.here hbl rfl fun w' H3=>h w' ?_
  refine H3.conv (by rw [q9,qi];rfl) fun hb'=>?_
  rw [yB] at hb';rw [xp];refine ⟨by rw [qz enc k hk],.inr ⟨g,c,cs.setIfInBounds b u,by rw [yi],zH _,hb',by rw [yi];exact h5,h7,by simpa using h6,?_⟩⟩;rw [Array.toList_setIfInBounds,yi,List.take_set,h8,Q5 hk hj hi hz,hb]
end
theorem blk_rows {α:Type} {enc:α->List Value} {e k g n c:Nat} {xs:List α} {w0 w:World} {M:List Nat} {R:List As} {cur:Array Value} (hk:∀ x,(enc x).length=k) (h:St w0 M (blk g (.cells cur e)::R) w) (h1:n<=c) (h2:c<=maxLen) (h3:xs.length=n) (h4:cur.size=c*k) (h5:cur.toList.take (n*k)=zX enc xs):St w0 M (zi enc e k (.slice (some ⟨g,0,none⟩) n c) xs::R) w :=
 h.conv (by rw [q9,qi];rfl) fun hb=>by
  rw [yB] at hb;rw [xp];subst h3;exact ⟨qz enc k hk xs,.inr ⟨g,c,cur,rfl,zH _,hb,h1,h2,h4,h5⟩⟩
theorem St.empty {w0 w:World} {M:List Nat} {L:List As} {A:As} (H:St w0 M L w) (h:A.ho w) (he:A.fp=[]):St w0 M (A::L) w :=
 ⟨H.os,H.tape,H.output,H.size,H.keep,fun B hB=>by
  rw [zG] at hB;rcases hB with rfl|hB
  ·exact h
  ·exact H.ho B hB,fun B hB b hb=>by
  rw [zG] at hB;rcases hB with rfl|hB
  ·rw [he] at hb;simp at hb
  ·exact H.own B hB b hb,zK.2 ⟨fun B _ b hb=>by rw [he] at hb;simp at hb,H.dis⟩⟩
inductive Picks:List As->List As->Prop
 |nil {L:List As}:Picks L []
 |cons {L R L':List As} {A:As}:Pick L A R->Picks R L'->Picks L (A::L')
theorem Picks.perm {L L':List As} (h:Picks L L'):∃ R,L.Perm (L'++R):=by
  induction h with
  | nil=>exact ⟨_,yd.refl _⟩
  | cons h1 _ ih => obtain ⟨R, hR⟩ := ih
                    exact ⟨R,h1.perm.trans (hR.cons _)⟩
theorem St.picks {w0 w:World} {M:List Nat} {L L':List As} (h:St w0 M L w) (hp:Picks L L'):St w0 M L' w:=by
 obtain ⟨R,hR⟩:=hp.perm;have k:=h.perm hR;exact ⟨k.os,k.tape,k.output,k.size,k.keep,fun X hX=>k.ho X (q6 _ hX),fun X hX=>k.own X (q6 _ hX),k.dis.sublist (List.sublist_append_left _ _)⟩
section
variable {ops:Array Oper} {Q:Exit->Act->World->Prop} {rest:List Oper} {a:Act} {w w0:World} {M:List Nat} {L:List As} {o1:Oper} {dst:Option Tmp} {ty0:TypeId} {pos:String} {aft:Array Edge} {gd:Option (Nat×Bool)}
def AtMk1 (P:Program) (ops:Array Oper) (Q:Exit->Act->World->Prop) (o:Oper) (_:TypeId) (_ _:Operand) (rest:List Oper) (a:Act) (w:World):Prop:=wpList P ops Q (o::rest) a w
theorem jl {P:Program} {t:TypeId} {x y:Operand} (h:AtMk1 P ops Q ⟨dst,.makeSlice t x y,ty0,pos,aft,gd⟩ t x y rest a w):wpList P ops Q (⟨dst,.makeSlice t x y,ty0,pos,aft,gd⟩::rest) a w:=h
theorem AtMk1.row {t e:TypeId} {x y:Operand} {α:Type} {enc:α->List Value} (H:St w0 M L w) (hw:Region.wanted o1 (yielded ops a.tmps)=true) (ho:o1.op=.makeSlice t x y) (n:Nat) (hx:a.eval x=.int .i64 (n:Int)) (hy:a.eval y=.int .i64 (n:Int)) (hte:wY t=some e) {bytes:Nat} {z:Value} (hi:vm e=some (z,1,bytes)) (hz:z.cells=#[z]) (x0:α) (hx0:enc x0=[z]) (hk:∀ x,(enc x).length=1) (hn:n*bytes<=281474976710656) (h63:n<=16777216)
  (h:∀ b w',St w0 M (zi enc e 1 (.slice (some ⟨b,0,none⟩) n n) (zI n x0)::L) w'->wpList z6 ops Q rest (a.put o1.dst (.slice (some ⟨b,0,none⟩) n n)) w'):AtMk1 z6 ops Q o1 t x y rest a w :=
 wpList_step fun _ hK=>by
  rw [if_pos hw];obtain ⟨i,h2,h3,h4,h5⟩:=kr hi;have hb3:(bytes:Int)*(n:Int)<=281474976710656:=by
   have h9:((n*bytes:Nat):Int)<=281474976710656:=(by omega);rw [Nat.mul_comm] at h9;rwa [Int.natCast_mul] at h9
  have hr:=run_makeSlice (P:=z6) (w:=w) t e i z (wB hte) h2 h3 .i64 .i64 n n (by omega) (by omega) (by rw [h4];simp;omega) (by rw [h5];exact hb3) (by omega);rw [hz,h4] at hr;simp only [Int.toNat_natCast,kW] at hr;unfold Oper.wp execOp;simp only [ho,hx,hy,Sem.run_bind,hr,Result.andThen_ok,Sem.run_pure];refine hK _ _ (h _ _ ((H.alloc (.cells (madeCells #[z] n) e)).conv (by rw [q9,qi];rfl) fun hb=>?_));rw [yB] at hb;have:=jy (enc:=enc) (k:=1) (xs:=zI n x0) hb (by simp [maxLen];omega) (by
   rw [show (madeCells #[z] n).toList=zI n z from toList_madeCells_one _ _];clear h h3 h4 h5 hb hr hb3 hn h63 hx hy;induction n with
   |zero=>rfl
   |succ n ih=>rw [QQ,QQ];show _=enc x0++zX enc _;rw [← ih,hx0];rfl) hk
  simpa using this
end
structure MchIn (P:zT) (vc vn va:Value) (m:Mch):Prop where
 cls:RowIn P q7 1 vc m.cls
 acc:RowIn P xI 1 va m.acc
 nxt:∃ rows:List Value,RowIn P Kz 1 vn rows∧rows.length=m.nxt.length∧∀ (i:Nat) (r:Value) (x:List Nat),rows[i]?=some r->m.nxt[i]?=some x->RowIn P q7 1 r x
end
section
open Go.RowKit Go.Maps
attribute [local go_sem] qM
theorem vj (x:Nat):∀ u∈q7 x,u.oneCell'=true:=by
 intro u hu;simp only [q7,zV] at hu;subst hu;rfl
def jY (k:Nat) (l:List Nat):List Bool:=(zl k).map fun c=>decide (c∈l)
theorem vS {k:Nat} {l:List Nat}:(jY k l).length=k:=by simp [jY]
theorem jD {k c:Nat} {l:List Nat} (h:c<k):(jY k l)[c]?=some (decide (c∈l)):=by
 unfold jY;rw [zq,xP h];rfl
theorem XI {k:Nat}:jY k []=zI k false:=by
 apply yF;intro i;rcases zD i k with h|h
 ·rw [jD h,yT,if_pos h];simp
 ·rw [zu (by rw [vS];exact h),zu (by simpa using h)]
theorem Qc {k c:Nat} {l:List Nat}:(jY k l).set c true=jY k (l++[c]):=by
 apply yF;intro i;rcases zD i k with h|h
 ·rw [jD h,jg,vS,jD h];by_cases e:c=i
  ·subst e;simp [h]
  ·have:¬ i=c:=fun x=>e x.symm
   simp [e,this]
 ·rw [zu (by rw [yi,vS];exact h),zu (by rw [vS];exact h)]
theorem XV (r l:List Nat):(r.foldl ins l).length<=l.length+r.length:=by
 induction r generalizing l with
 |nil=>simp
 |cons x r ih =>
  rw [zQ];have:=ih (ins l x);have h:(ins l x).length<=l.length+1:=(by unfold ins;split <;> simp);simp only [yZ];omega
def OcRel (N:List Nat) (w:World) (b1 gs gc oc cc gn on_ nn cn k:Nat) (va:Value) (m:Mch) (mm:Nat) (v4 v16:Value) (wr:World):Prop :=
 ∃ (i:Nat) (pre:List Nat),mm=256-i∧i<=256∧v16=.int .i64 i∧pre=(m.cls.take i).foldl ins []∧St w N [blk b1 (.cells #[.int .i64 m.start,.slice (some ⟨gc,oc,none⟩) 256 cc,.slice (some ⟨gn,on_,none⟩) nn cn,va] 27),zi xI 4 1 (.slice (some ⟨gs,0,none⟩) k k) (jY k pre),zi q7 3 1 v4 pre] wr
theorem occ_c {P:zT} {vc vn va:Value} {m:Mch} {n k:Nat} (h:MchIn P vc vn va m) (hc:m.cls.length=256) (hn:m.nxt.length=n) (h0:0<n) (hk:∀ r∈m.nxt,r.length=k) (hk2:k<=256) (hcl:∀ c∈m.cls,c<k) (w:World) (hp:(zx P).ho w) :
  Calls z6 43 #[.agg #[.int .i64 m.start,vc,vn,va]] w fun e w'=>∃ v,e=.returned v∧St w [] [zi q7 3 1 v (m.cls.foldl ins [])] w':=by
 have H:=St.nil w [];have HK:Ks w [] [zx P]:=Ks.one hp;obtain ⟨rows,hr1,hr2,hr3⟩:=h.nxt;obtain ⟨gc,oc,cc,rfl,_⟩:=h.cls.has (by omega);obtain ⟨gn,on_,cn,rfl,_⟩:=hr1.has (by omega);rw [hr2,hn] at hr1 ⊢;have hcI:=h.cls;rw [hc] at hcI ⊢;obtain ⟨r0,hr0⟩:∃ r,rows[0]?=some r:=⟨_,zg (by omega)⟩
 obtain ⟨x0,hx0⟩:∃ x,m.nxt[0]?=some x:=⟨_,zg (by omega)⟩
 obtain ⟨a0,c0,e0,_⟩:=(hr3 0 r0 x0 hr0 hx0).shape;rw [hk x0 (zc hx0)] at e0;subst e0;have HN0:Hid (∀ w,(zx P).ho w->w.cell? ⟨gn,on_,none⟩=some (.slice a0 k c0)):=zh fun w h=>by
  have:=hr1.cell h kh hr0 rfl;simpa using this
 have HCL:Hid (∀ (i c:Nat),m.cls[i]?=some c->∀ w,(zx P).ho w->w.cell? ⟨gc,oc+i,none⟩=some (.int .i64 (c:Nat))):=zh fun i c hi w h=>hcI.cell h zL hi rfl
 have HM:Hid (m.cls.length=256∧∀ c∈m.cls,c<k):=zh ⟨hc,hcl⟩;have d1:decide ((0:Int)<(n:Int))=true:=(by simp;omega);have d1n:decide (0<n)=true:=(by simp;omega);clear h hr1 hr3 hcI hc hk hcl hp hr0 hx0 hr2 hn;go_enter Tryd.func43,Tryd.ntmps43;go_wp2_with (first|refine sL ?_|(refine sS ?_;clear H;intros;rename_i H)|((with_reducible refine jl ?_);refine AtMk1.row (enc:=xI) H rfl rfl k rfl rfl rfl rfl rfl false rfl yW (by omega) (by omega) ?_;clear H;intro gs _ H;simp only [Act.put,puA,puB,puC]));replace H:=H.empty (A:=zi q7 3 1 (.slice none 0 0) []) (yS _) (by rw [q9];rfl);rw [← XI] at H;rename_i b1 _ _ _ _;have hnn:=HM;go_loopg [4,16] 256 (fun mm v4 v16 wr=>OcRel [] w b1 gs gc oc cc gn on_ n cn k va m mm v4 v16 wr);case atStart=>exact ⟨0,[],rfl,zH _,rfl,rfl,H.picks (.cons pk (.cons pk (.cons pk .nil)))⟩
 case round =>
  clear H;obtain ⟨i,pre,rfl,hi,rfl,hpre,H⟩:=hrel;obtain ⟨ad4,c4,rfl,_⟩:=zW (H.get (A:=zi q7 3 1 _ pre) pk);by_cases hlt:i<256
  ·have e1:decide ((i:Int)<256)=true:=(by simp;omega);have e1n:decide (i<256)=true:=(by simp;omega);obtain ⟨c,hci⟩:∃ c,m.cls[i]?=some c:=⟨_,zg (by have:=HM.out.1;omega)⟩
   have HC:=zh (HCL.out i c hci);have hck:=HM.out.2 c (zc hci);have e2:decide ((c:Int)<(k:Int))=true:=(by simp;omega);have e2n:decide (c<k)=true:=(by simp;omega);have hpl:pre.length<=256:=(by rw [hpre];have:=XV (m.cls.take i) [];rw [yD] at this;simp at this ⊢;omega);obtain ⟨q,hq⟩:∃ q,decide (c∈pre)=q:=⟨_,rfl⟩
   have HSE:Hid (∀ w,(zi xI 4 1 (.slice (some ⟨gs,0,none⟩) k k) (jY k pre)).ho w->w.cell? ⟨gs,c,none⟩=some (.bool q)):=zh fun w h=>by
    have:=qL h yW (jD hck) (j:=0) rfl;rw [hq] at this;simpa using this
   have hnext:(m.cls.take (i+1)).foldl ins []=ins pre c:=(by rw [xZ,hci,jf,← hpre];rfl);have HNX:=zh (za hnext (za hck (za hq hpl)));clear hnext hci hpre hq;cases q
   ·go_wp2_with (first|refine sL ?_|(refine sS ?_;clear H;intros;rename_i H)|((with_reducible refine yy ?_);refine AtStore.rowAk (enc:=xI) (k:=1) (i:=c) (j:=0) H rfl rfl rfl rfl rfl rfl pk yW (jD HNX.out.2.1) (by omega) (by simp) true rfl ?_;clear H;intro _ H;simp only [Act.put,puA,puB,puC])|((with_reducible refine ym ?_);refine AtSlice.one H rfl rfl rfl rfl rfl rfl rfl rfl rfl ?_;clear H;intro b7 _ H;simp only [Act.put,puA,puB,puC])|((with_reducible refine xm ?_);refine AtAppend.go (enc:=q7) H rfl rfl rfl rfl rfl (by decide) (by decide) rfl (xs:=pre) pk rfl (H.at pk) [c] rfl (by simp [zX,q7]) zL vj (by have:=HNX.out.2.2.2;simp;omega) ?_;clear H;intro ad9 cp9 _ H;simp only [Act.put,puA,puB,puC]));rw [Qc] at H;have hx:ins pre c=pre++[c]:=by
     unfold ins;rw [if_neg (by simpa using HNX.out.2.2.1)]
    go_roundg (256-(i+1));case measure=>omega
    case rel=>exact ⟨i+1,pre++[c],rfl,by omega,by go_num,by rw [HNX.out.1,hx],H.picks (.cons pk (.cons pk (.cons pk .nil)))⟩
   ·go_wp2_with (first|refine sL ?_|(refine sS ?_;clear H;intros;rename_i H));have hx:ins pre c=pre:=by
     unfold ins;rw [if_pos (by simpa using HNX.out.2.2.1)]
    go_roundg (256-(i+1));case measure=>omega
    case rel=>exact ⟨i+1,pre,rfl,by omega,by go_num,by rw [HNX.out.1,hx],H⟩
  ·have e1:decide ((i:Int)<256)=false:=(by simp;omega);have e1n:decide (i<256)=false:=(by simp;omega);obtain rfl:i=256:=by omega
   go_wp2_with (first|refine sL ?_|(refine sS ?_;clear H;intros;rename_i H));go_ret;rw [zM (by have:=HM.out.1;omega)] at hpre;subst hpre;exact ⟨_,rfl,H.picks (.cons pk .nil)⟩
end
section
open Go.RowKit Go.Maps
attribute [local go_sem] qM
structure RcIn (m:Mch) (cs:List Nat) (n i:Nat) (l:List Nat):Prop where
 goal:bfs (m.succs cs) (n-i) i l=bfs (m.succs cs) n 0 [m.start]
 nd:l.Nodup
 lt:∀ q∈l,q<n
 le:i<=l.length
structure RcJn (m:Mch) (cs:List Nat) (n i j s:Nat) (l:List Nat):Prop where
 goal:bfs (m.succs cs) (n-(i+1)) (i+1) (((m.succs cs s).drop j).foldl ins l)=bfs (m.succs cs) n 0 [m.start]
 nd:l.Nodup
 lt:∀ q∈l,q<n
 at_:l[i]?=some s
theorem Xq {l:List Nat} {x:Nat} (h:l.Nodup):(ins l x).Nodup:=by
 unfold ins;split
 ·exact h
 ·rename_i hm;rw [jr];exact ⟨h,by simp,fun a ha b hb=>by simp at hb;subst hb;intro e;subst e;exact hm ha⟩
theorem RcIn.enter {m:Mch} {cs l:List Nat} {n i s:Nat} (h:RcIn m cs n i l) (hs:l[i]?=some s):RcJn m cs n i 0 s l:=by
 have hl:=xU h.nd h.lt;have hi:=zP hs;refine ⟨?_,h.nd,h.lt,hs⟩;rw [← h.goal,y8,show n-i=(n-(i+1))+1 by omega,bfs,hs]
theorem RcJn.next {m:Mch} {cs l:List Nat} {n i j s c:Nat} (h:RcJn m cs n i j s l) (hc:cs[j]?=some c) (hq:m.ent s c<n):RcJn m cs n i (j+1) s (ins l (m.ent s c)):=by
 have hj:j<(m.succs cs s).length:=(by unfold Mch.succs;rw [zE];exact zP hc);have hx:(m.succs cs s)[j]=m.ent s c:=by
  have:(m.succs cs s)[j]?=some (m.ent s c):=by unfold Mch.succs;rw [zq,hc];rfl
  rw [zg hj] at this;injection this
 refine ⟨?_,Xq h.nd,fun x hx2=>?_,?_⟩
 ·rw [← h.goal,wR hj,zQ,hx]
 ·rcases mem_ins.1 hx2 with g|g
  ·exact h.lt x g
  ·rw [g];exact hq
 ·unfold ins;split
  ·exact h.at_
  ·rw [zv (zP h.at_)];exact h.at_
theorem RcJn.leave {m:Mch} {cs l:List Nat} {n i s:Nat} (h:RcJn m cs n i cs.length s l):RcIn m cs n (i+1) l:=by
 have hd:(m.succs cs s).drop cs.length=[]:=xg (by unfold Mch.succs;rw [zE];exact zp _);have hg:=h.goal;rw [hd] at hg;exact ⟨hg,h.nd,h.lt,zP h.at_⟩
theorem RcIn.done {m:Mch} {cs l:List Nat} {n i:Nat} (h:RcIn m cs n i l) (hi:l.length<=i):bfs (m.succs cs) n 0 [m.start]=l:=by
 rw [← h.goal];cases n-i with
 |zero=>rfl
 |succ f =>
  rw [bfs,zu hi]
def RcRel (w:World) (b1 gs gc oc cc gn on_ cn n:Nat) (va:Value) (m:Mch) (cs:List Nat) (mm:Nat) (v6 v7:Value) (wr:World):Prop :=
 ∃ (i:Nat) (l:List Nat),mm=n-i∧v7=.int .i64 i∧RcIn m cs n i l∧St w [] [blk b1 (.cells #[.int .i64 m.start,.slice (some ⟨gc,oc,none⟩) 256 cc,.slice (some ⟨gn,on_,none⟩) n cn,va] 27),zi xI 4 1 (.slice (some ⟨gs,0,none⟩) n n) (jY n l),zi q7 3 1 v6 l] wr
def RcRelJ (w:World) (b1 gs gc oc cc gn on_ cn n:Nat) (nc:Nat) (va:Value) (m:Mch) (cs:List Nat) (i s:Nat) (mm:Nat) (v6 v30:Value) (wr:World):Prop :=
 ∃ (j:Nat) (l:List Nat),mm=nc-j∧j<=nc∧v30=.int .i64 j∧RcJn m cs n i j s l∧St w [] [blk b1 (.cells #[.int .i64 m.start,.slice (some ⟨gc,oc,none⟩) 256 cc,.slice (some ⟨gn,on_,none⟩) n cn,va] 27),zi xI 4 1 (.slice (some ⟨gs,0,none⟩) n n) (jY n l),zi q7 3 1 v6 l] wr
theorem reach_c {P:zT} {vc vn va vs:Value} {m:Mch} {n k:Nat} {cs:List Nat} (h:MchIn P vc vn va m) (hm:m.Ok n k) (hn256:n<=256) (hc:RowIn P q7 1 vs cs) (hcs:∀ c∈cs,c<k) (hcl:cs.length<=256) (w:World) (hp:(zx P).ho w) :
  Calls z6 44 #[.agg #[.int .i64 m.start,vc,vn,va],vs] w fun e w'=>∃ v,e=.returned v∧St w [] [zi q7 3 1 v (bfs (m.succs cs) n 0 [m.start])] w':=by
 have H:=St.nil w [];have HK:Ks w [] [zx P]:=Ks.one hp;have h0:0<n:=(by have:=hm.start;omega);obtain ⟨rows,hr1,hr2,hr3⟩:=h.nxt;rw [hm.nxt] at hr2;obtain ⟨gc,oc,cc,rfl,_⟩:=h.cls.has (by rw [hm.cls];omega);rw [hm.cls];obtain ⟨gn,on_,cn,rfl,_⟩:=hr1.has (by omega);rw [hr2] at hr1 ⊢;obtain ⟨ac,c9,rfl,_⟩:=hc.shape;obtain ⟨nc,hnc⟩:∃ z,cs.length=z:=⟨_,rfl⟩
 rw [hnc] at hc ⊢;have HROW:Hid (∀ s c,s<n->c<k->∃ gr or cr,(∀ w,(zx P).ho w->w.cell? ⟨gn,on_+s,none⟩=some (.slice (some ⟨gr,or,none⟩) k cr))∧∀ w,(zx P).ho w->w.cell? ⟨gr,or+c,none⟩=some (.int .i64 (m.ent s c:Nat))):=zh fun s c hs hck=>by
  obtain ⟨r,hr⟩:∃ r,rows[s]?=some r:=⟨_,zg (by omega)⟩
  obtain ⟨x,hx⟩:∃ x,m.nxt[s]?=some x:=⟨_,zg (by rw [hm.nxt];exact hs)⟩
  have hxl:=hm.row x (zc hx);have hrr:=hr3 s r x hr hx;obtain ⟨gr,or,cr,rfl,_⟩:=hrr.has (by omega);rw [hxl] at hrr hr;refine ⟨gr,or,cr,fun w h=>by have:=hr1.cell h kh hr rfl;exact this,fun w h=>?_⟩;have he:x[c]?=some (m.ent s c):=by
   unfold Mch.ent;rw [ze (l:=m.nxt),hx];simp only [qV];rw [ze,zg (by omega)];rfl
  exact hrr.cell h zL he rfl
 have HIN:Hid (m.Ok n k∧(∀ c∈cs,c<k)∧cs.length=nc∧RowIn P q7 1 (.slice ac nc c9) cs):=zh ⟨hm,hcs,hnc,hc⟩;have hnc256:nc<=256:=(by rw [← hnc];exact hcl);have hst:=hm.start;obtain ⟨st,hst2⟩:∃ z,m.start=z:=⟨_,rfl⟩
 have d1:decide ((m.start:Int)<(n:Int))=true:=(by simp;omega);have d1n:decide (m.start<n)=true:=(by simp;omega);have hseen:(zI n false).set m.start true=jY n [m.start]:=by
  rw [← XI,Qc];rfl
 have hg0:(zI n false)[m.start]?=some false:=(by rw [yT,if_pos hst]);have HG0:=zh hg0;have HR0:Hid (RcIn m cs n 0 [m.start]):=zh ⟨rfl,by simp,by simpa using hst,zH _⟩;clear h hr1 hr2 hr3 hc hm hcs hnc hp hg0 hst2;go_enter Tryd.func44,Tryd.ntmps44;go_wp2_with (first|refine sL ?_|(refine sS ?_;clear H;intros;rename_i H)|((with_reducible refine jl ?_);refine AtMk1.row (enc:=xI) H rfl rfl n rfl rfl rfl rfl rfl false rfl yW (by omega) (by omega) ?_;clear H;intro gs _ H;simp only [Act.put,puA,puB,puC])|((with_reducible refine yy ?_);refine AtStore.rowAk (enc:=xI) (k:=1) (i:=m.start) (j:=0) H rfl rfl rfl rfl rfl rfl pk yW (HG0.out) (by omega) (by simp) true rfl ?_;clear H;intro _ H;simp only [Act.put,puA,puB,puC])|((with_reducible refine ym ?_);refine AtSlice.one H rfl rfl rfl rfl rfl rfl rfl rfl rfl ?_;clear H;intro b7 _ H;simp only [Act.put,puA,puB,puC]));rw [hseen] at H;replace H:=blk_rows (enc:=q7) (k:=1) (n:=1) (c:=1) (xs:=[m.start]) zL (H.pick (A:=blk b7 (.cells #[.int .i64 (m.start:Nat)] 3)) pk) (zp _) (by simp [maxLen]) rfl rfl rfl;rename_i b1 _ _ _ _ _ _;go_loopg [6,7] n (fun mm v6 v7 wr=>RcRel w b1 gs gc oc cc gn on_ cn n va m cs mm v6 v7 wr);case atStart=>exact ⟨0,[m.start],rfl,rfl,HR0.out,H.picks (.cons pk (.cons pk (.cons pk .nil)))⟩
 case round =>
  clear H;obtain ⟨i,l,rfl,rfl,hin,H⟩:=hrel;have HI:=zh hin;obtain ⟨ad6,c6,rfl,_⟩:=zW (H.get (A:=zi q7 3 1 _ l) pk);obtain ⟨ll,hll⟩:∃ z,l.length=z:=⟨_,rfl⟩
  rw [hll] at H ⊢;have hlln:ll<=n:=(by rw [← hll];exact xU hin.nd hin.lt);clear hin;by_cases hlt:i<ll
  ·have e1:decide ((i:Int)<(ll:Int))=true:=(by simp;omega);have e1n:decide (i<ll)=true:=(by simp;omega);obtain ⟨s,hs⟩:∃ s,l[i]?=some s:=⟨_,zg (by omega)⟩
   have HS:Hid (RcJn m cs n i 0 s l∧s<n):=zh ⟨HI.out.enter hs,HI.out.lt s (zc hs)⟩;clear hs;go_wp2_with (first|refine sL ?_|(refine sS ?_;clear H;intros;rename_i H));go_loopg [6,30] nc (fun mm v6 v30 wr=>RcRelJ w b1 gs gc oc cc gn on_ cn n nc va m cs i s mm v6 v30 wr);case atStart=>exact ⟨0,l,rfl,zH _,rfl,HS.out.1,H⟩
   case round =>
    clear H;obtain ⟨j,l2,rfl,hj,rfl,hjn,H⟩:=hrel;have HJ:=zh hjn;obtain ⟨ad7,c7,rfl,_⟩:=zW (H.get (A:=zi q7 3 1 _ l2) pk);obtain ⟨l2n,hl2⟩:∃ z,l2.length=z:=⟨_,rfl⟩
    rw [hl2] at H ⊢;have hl2n:l2n<=n:=(by rw [← hl2];exact xU hjn.nd hjn.lt);have hil2:i<l2n:=(by rw [← hl2];exact zP hjn.at_);obtain ⟨g7,c8,e7,_⟩:=qF (H.get (A:=zi q7 3 1 (.slice ad7 l2n c7) l2) pk) (by omega);rw [hl2] at e7;injection e7 with e7 _ e8
    subst e7 e8;have HST:Hid (∀ w,(zi q7 3 1 (.slice (some ⟨g7,0,none⟩) l2n c7) l2).ho w->w.cell? ⟨g7,i,none⟩=some (.int .i64 (s:Nat))):=zh fun w h=>by
     have:=qL h zL HJ.out.at_ (j:=0) rfl;simpa using this
    clear hjn;by_cases hjl:j<nc
    ·have f1:decide ((j:Int)<(nc:Int))=true:=(by simp;omega);have f1n:decide (j<nc)=true:=(by simp;omega);obtain ⟨c,hcj⟩:∃ c,cs[j]?=some c:=⟨_,zg (by rw [HIN.out.2.2.1];exact hjl)⟩
     have hck:=HIN.out.2.1 c (zc hcj);have hsn:=HS.out.2;obtain ⟨gr,or,cr,hc1,hc2⟩:=HROW.out s c hsn hck;have HC1:=zh hc1;obtain ⟨q,hq⟩:∃ z,m.ent s c=z:=⟨_,rfl⟩
     rw [hq] at hc2;have HC2:=zh hc2;have hqn:q<n:=(by rw [← hq];exact HIN.out.1.entlt hsn hck);obtain ⟨gcs,ocs,rfl,hcc⟩:∃ g o,ac=some ⟨g,o,none⟩∧∀ w,(zx P).ho w->w.cell? ⟨g,o+j,none⟩=some (.int .i64 (c:Nat)):=by
      have hr:=HIN.out.2.2.2;obtain ⟨ad',c',e1,_,h3⟩:=id hr;obtain ⟨b,o,rfl,_⟩:=h3 (by have:=zP hcj;omega);injection e1 with e1 _ _
      subst e1;exact ⟨b,o,rfl,fun w h=>hr.cell h zL hcj rfl⟩
     have HCC:=zh hcc;have f2:decide ((i:Int)<(l2n:Int))=true:=(by simp;omega);have f2n:decide (i<l2n)=true:=(by simp;omega);have f3:decide ((s:Int)<(n:Int))=true:=(by simp;omega);have f3n:decide (s<n)=true:=(by simp;omega);have f4:decide ((c:Int)<(k:Int))=true:=(by simp;omega);have f4n:decide (c<k)=true:=(by simp;omega);have f5:decide ((q:Int)<(n:Int))=true:=(by simp;omega);have f5n:decide (q<n)=true:=(by simp;omega);have HNX:Hid (RcJn m cs n i (j+1) s (ins l2 q)∧l2.length=l2n∧l2n<=n∧n<=256):=zh ⟨by rw [← hq];exact HJ.out.next hcj (by rw [hq];exact hqn),hl2,hl2n,hn256⟩;have HQ9:Hid ((jY n l2)[q]?=some (decide (q∈l2))):=zh (jD hqn);clear hcj hc1 hc2 hq hcc;obtain ⟨qb,hqb⟩:∃ b,decide (q∈l2)=b:=⟨_,rfl⟩
     have HSE:Hid (∀ w,(zi xI 4 1 (.slice (some ⟨gs,0,none⟩) n n) (jY n l2)).ho w->w.cell? ⟨gs,q,none⟩=some (.bool qb)):=zh fun w h=>by
      have:=qL h yW HQ9.out (j:=0) rfl;rw [hqb] at this;simpa using this
     have HQB:=zh hqb;clear hqb;cases qb
     ·go_wp2_with (first|refine sL ?_|(refine sS ?_;clear H;intros;rename_i H));refine zr H 12 [] [] (by kernel_rfl) (by kernel_rfl) ?_;apply Exists.intro;refine ⟨fun w1 hw1 HX=>?_,fun bs wr Hr=>?_⟩
      ·refine sG ?_;repeat (first|go_big_quiet_skip|refine sQ ?_|fail|go_big_quiet_step (fail))
       exact wpQuiet_nil rfl
      clear H;have H:=Hr;clear Hr;replace H:=sH H;refine sT ?_;go_wp2_with (first|refine sL ?_|(refine sS ?_;clear H;intros;rename_i H)|((with_reducible refine yy ?_);refine AtStore.rowAk (enc:=xI) (k:=1) (i:=q) (j:=0) H rfl rfl rfl rfl rfl rfl pk yW (HQ9.out) (by omega) (by simp) true rfl ?_;clear H;intro _ H;simp only [Act.put,puA,puB,puC])|((with_reducible refine ym ?_);refine AtSlice.one H rfl rfl rfl rfl rfl rfl rfl rfl rfl ?_;clear H;intro b7 _ H;simp only [Act.put,puA,puB,puC])|((with_reducible refine xm ?_);refine AtAppend.go (enc:=q7) H rfl rfl rfl rfl rfl (by decide) (by decide) rfl (xs:=l2) pk rfl (H.at pk) [q] rfl (by simp [zX,q7]) zL vj (by have:=HNX.out.2;simp;omega) ?_;clear H;intro ad9 cp9 _ H;simp only [Act.put,puA,puB,puC]));rw [Qc,HNX.out.2.1] at H;have hx:ins l2 q=l2++[q]:=by
       unfold ins;rw [if_neg (by simpa using HQB.out)]
      go_roundg (nc-(j+1));case measure=>omega
      case rel=>exact ⟨j+1,l2++[q],rfl,by omega,by go_num,by rw [← hx];exact HNX.out.1,H.picks (.cons pk (.cons pk (.cons pk .nil)))⟩
     ·go_wp2_with (first|refine sL ?_|(refine sS ?_;clear H;intros;rename_i H));refine zr H 12 [] [] (by kernel_rfl) (by kernel_rfl) ?_;apply Exists.intro;refine ⟨fun w1 hw1 HX=>?_,fun bs wr Hr=>?_⟩
      ·refine sG ?_;repeat (first|go_big_quiet_skip|refine sQ ?_|fail|go_big_quiet_step (fail))
       exact wpQuiet_nil rfl
      clear H;have H:=Hr;clear Hr;replace H:=sH H;refine sT ?_;go_wp2_with (first|refine sL ?_|(refine sS ?_;clear H;intros;rename_i H));have hx:ins l2 q=l2:=by
       unfold ins;rw [if_pos (by simpa using HQB.out)]
      go_roundg (nc-(j+1));case measure=>omega
      case rel=>exact ⟨j+1,l2,rfl,by omega,by go_num,by rw [← hx];exact HNX.out.1,H⟩
    ·have f1:decide ((j:Int)<(nc:Int))=false:=(by simp;omega);have f1n:decide (j<nc)=false:=(by simp;omega);obtain rfl:j=nc:=by omega
     go_wp2_with (first|refine sL ?_|(refine sS ?_;clear H;intros;rename_i H));go_roundg (n-(i+1));case measure=>omega
     case rel=>exact ⟨i+1,l2,rfl,by go_num,by have:=HJ.out;rw [← HIN.out.2.2.1] at this;exact this.leave,H⟩
  ·have e1:decide ((i:Int)<(ll:Int))=false:=(by simp;omega);have e1n:decide (i<ll)=false:=(by simp;omega);go_wp2_with (first|refine sL ?_|(refine sS ?_;clear H;intros;rename_i H));go_ret;rw [HI.out.done (by omega)];exact ⟨_,rfl,H.picks (.cons pk .nil)⟩
end
section
open Go.RowKit Go.Maps
attribute [local go_sem] qM
def kH (x:Nat):List Value:=[.int .u8 x]
theorem jH (x:Nat):(kH x).length=1:=rfl
def strB (l:List Nat):ByteArray:=⟨(l.map UInt8.ofNat).toArray⟩
theorem strB_append (a b:List Nat):strB a++strB b=strB (a++b):=by
 apply ByteArray.ext;simp [strB,ByteArray.data_append]
theorem Qf (l:List Nat):(strB l).size=l.length:=by simp [strB,ByteArray.size]
theorem strB_nil:strB []=⟨#[]⟩:=rfl
theorem XJ {l:List Nat} (hl:∀ x∈l,x<256):(strB l).data.toList.map UInt8.toNat=l:=by
 simp only [strB];induction l with
 |nil=>rfl
 |cons x l ih =>
  have hx:=hl x (zS ..);have:=ih fun y hy=>hl y (qv _ hy)
  simp only [qU,List.toList_toArray] at this ⊢;rw [this];congr 1
  simp [UInt8.toNat_ofNat',Nat.mod_eq_of_lt hx]
theorem YQ {a b:List Nat} (ha:∀ x∈a,x<256) (hb:∀ x∈b,x<256) (h:strB a=strB b):a=b:=by
 rw [← XJ ha,← XJ hb,h]
theorem Wf (l:List Nat) (a b:Nat):(strB l).extract a b=strB ((l.drop a).take (b-a)):=by
 unfold strB;rw [ByteArray.extract_mk,List.map_take,List.map_drop]
theorem Yj {v:Value} {l:List Nat} (hl:∀ x∈l,x<256) {w:World} (h:(zi kH 5 1 v l).ho w):(convert 53 9 v).run z6 w=.ok (.string (strB l)) w:=by
 have k1:z6.underlying 53=some (.slice 5):=(by kernel_rfl);have k2:z6.underlying 5=some (.int .u8):=(by kernel_rfl);have k3:z6.underlying 9=some .string:=(by kernel_rfl);rcases qR l.length with h0|h0
 ·have:l=[]:=qI h0;subst this;obtain ⟨ad,c,rfl,_⟩:=zW h;rw [strB_nil];cases ad with
  |none=>exact Lib.run_convert_nil_bytes w _ _ _ c k1 k2 k3
  |some a =>
   have:=run_convert_bytes_back (P:=z6) w 53 9 5 a c [] k1 k2 k3 (fun j hj=>absurd hj (by simp));simpa using this
 ·obtain ⟨g,c,rfl,_,_⟩:=qF h h0;have:=run_convert_bytes_back (P:=z6) w 53 9 5 ⟨g,0,none⟩ c (l.map UInt8.ofNat) k1 k2 k3 (fun j hj=>by
   have hj':j<l.length:=(by simpa using hj);have hx:=zg hj';have hc:=qL h jH hx (j:=0) rfl;have hb:l[j]<256:=hl _ (yt hj');rw [Addr.add_mid,qA];simp only [kW,Nat.add_zero] at hc;rw [hc];simp [UInt8.toNat_ofNat',Nat.mod_eq_of_lt hb])
  rw [zE] at this;rw [this];unfold strB;rfl
section
variable {a:Act} {ops:Array Oper} {K:Act->Prop} {rest:List Oper} {dst:Option Tmp} {ty0:TypeId} {pos:String} {aft:Array Edge} {gd:Option (Nat×Bool)} {w1:World}
def QtConv (P:Program) (ops:Array Oper) (C:World->Prop) (K:Act->Prop) (o:Oper) (_ _:TypeId) (_:Operand) (rest:List Oper) (a:Act):Prop:=wpQuiet P ops C K (o::rest) a
theorem QtConv.go {o1:Oper} {t u:TypeId} {x:Operand} (hw:Region.wanted o1 (yielded ops a.tmps)=true) (ho:o1.op=.convert t u x) {v z:Value} (hx:a.eval x=v) (hc:∀ y:Gr w1,(convert t u v).run z6 y.1=.ok z y.1)
  (h:wpQuiet z6 ops (qM w1) K rest (a.put o1.dst z)):QtConv z6 ops (qM w1) K o1 t u x rest a :=
 wpQuiet_step fun _ hK=>by
  rw [if_pos hw];refine ⟨z,fun w2 ⟨y,hy⟩=>?_,hK _ h⟩;subst hy;unfold Oper.quietAt execOp;simp only [ho,hx,Sem.run_bind,hc y,Result.andThen_ok];exact ⟨rfl,rfl⟩
end
section
variable {a:Act} {ops:Array Oper} {Q:Exit->Act->World->Prop} {rest:List Oper} {dst:Option Tmp} {ty0:TypeId} {pos:String} {aft:Array Edge} {gd:Option (Nat×Bool)} {w:World}
section
variable {w0:World} {M:List Nat} {L R:List As} {o1:Oper}
theorem AtAppend.goN {α:Type} {enc:α->List Value} {t e:TypeId} {x y:Operand} (H:St w0 M L w) (hw:Region.wanted o1 (yielded ops a.tmps)=true) (ho:o1.op=.call ⟨.builtin .append,#[x,y],#[t,t]⟩) (hte:wY t=some e) {z:Value} {k bytes:Nat} (hi:vm e=some (z,k,bytes))
  (hz:z.cells.size=k) (hk0:0<k) (hb0:0<bytes) {v:Value} (hx:xL a x=some v) {xs:List α} (hp:Pick L (zi enc e k v xs) R) {s m c:Nat} (hy:a.eval y=.slice (some ⟨s,0,none⟩) m c) {cs:Array Value} {fr:Nat×Nat} (hg:w.heap[s]?=some (.cells cs e fr)) (ys:List α) (hm:ys.length=m)
  (hcs:cs.toList=zX enc ys) (hk:∀ x,(enc x).length=k) (h1:∀ x,∀ u∈enc x,u.oneCell'=true) (hb:(xs.length+ys.length)*bytes<=140737488355328)
  {n:Nat} (hn:xs.length=n) (h:∀ ad cp w',St w0 M (zi enc e k (.slice ad (n+m) cp) (xs++ys)::R) w'->wpList z6 ops Q rest (a.put o1.dst (.slice ad (n+m) cp)) w'):AtAppend z6 ops Q o1 t x y rest a w:=by
 subst hn;exact AtAppend.go H hw ho hte hi hz hk0 hb0 hx hp hy hg ys hm hcs hk h1 hb h
end
def AtConv (P:Program) (ops:Array Oper) (Q:Exit->Act->World->Prop) (o:Oper) (_ _:TypeId) (_:Operand) (rest:List Oper) (a:Act) (w:World):Prop:=wpList P ops Q (o::rest) a w
theorem Q7 {t u:TypeId} {x:Operand} (h:AtConv z6 ops Q ⟨dst,.convert t u x,ty0,pos,aft,gd⟩ t u x rest a w):wpList z6 ops Q (⟨dst,.convert t u x,ty0,pos,aft,gd⟩::rest) a w:=h
theorem AtConv.go {o1:Oper} {t u:TypeId} {x:Operand} (hw:Region.wanted o1 (yielded ops a.tmps)=true) (ho:o1.op=.convert t u x) {v z:Value} (hx:a.eval x=v) (hc:(convert t u v).run z6 w=.ok z w)
  (h:wpList z6 ops Q rest (a.put o1.dst z) w):AtConv z6 ops Q o1 t u x rest a w :=
 wpList_step fun _ hK=>by
  rw [if_pos hw];unfold Oper.wp execOp;simp only [ho,hx,Sem.run_bind,hc,Result.andThen_ok,Sem.run_pure];exact hK _ _ h
def AtLook (P:Program) (ops:Array Oper) (Q:Exit->Act->World->Prop) (o:Oper) (_:TypeId) (_ _:Operand) (_:Bool) (rest:List Oper) (a:Act) (w:World):Prop:=wpList P ops Q (o::rest) a w
theorem vo {t:TypeId} {x y:Operand} {ok:Bool} (h:AtLook z6 ops Q ⟨dst,.lookup t x y ok,ty0,pos,aft,gd⟩ t x y ok rest a w):wpList z6 ops Q (⟨dst,.lookup t x y ok,ty0,pos,aft,gd⟩::rest) a w:=h
theorem AtLook.go {o1:Oper} {T:TypeId} {x y:Operand} {ok:Bool} (hw:Region.wanted o1 (yielded ops a.tmps)=true) (ho:o1.op=.lookup T x y ok) {m:Nat} (hx:a.eval x=.map (some m)) {v:Value} (r:Value)
  (hr:(Instr.lookup T (.map (some m)) v ok).run z6 w=.ok r w) (hy:a.eval y=v)
  (h:wpList z6 ops Q rest (a.put o1.dst r) w):AtLook z6 ops Q o1 T x y ok rest a w :=
 wpList_step fun _ hK=>by
  rw [if_pos hw];unfold Oper.wp execOp;simp only [ho,hx,hy,Sem.run_bind,hr,Result.andThen_ok,Sem.run_pure];exact hK _ _ h
end
def esK (ks:List (List Nat)):List (Value×Value):=ks.mapIdx fun i k=>(.string (strB k),.int .i64 (i:Nat))
theorem WP (ks:List (List Nat)) (k:List Nat):esK (ks++[k])=esK ks++[(.string (strB k),.int .i64 (ks.length:Nat))]:=by
 unfold esK;rw [List.mapIdx_append];simp
theorem XR {ks:List (List Nat)} {e:Value×Value} (h:e∈esK ks):∃ (i:Nat) (k:List Nat),ks[i]?=some k∧e=(.string (strB k),.int .i64 (i:Nat)):=by
 obtain ⟨i,hi⟩:=yj.1 h;unfold esK at hi;rw [yr] at hi;cases hk:ks[i]? with
 |none=>rw [hk] at hi;simp at hi
 |some k=>rw [hk] at hi;simp at hi;exact ⟨i,k,hk,hi.symm⟩
theorem esK_of {ks:List (List Nat)} {i:Nat} {k:List Nat} (h:ks[i]?=some k):(Value.string (strB k),Value.int .i64 (i:Nat))∈esK ks:=by
 refine yj.2 ⟨i,?_⟩;unfold esK;rw [yr,h];rfl
theorem esK_no {ks:List (List Nat)} {k:List Nat} (hb:∀ x∈ks,∀ y∈x,y<256) (hk:∀ y∈k,y<256) (h:k ∉ ks):∀ e∈esK ks,e.1≠.string (strB k):=by
 intro e he h2;obtain ⟨i,k',hi,rfl⟩:=XR he;injection h2 with h2
 have hm:=zc hi;rw [YQ (hb k' hm) hk h2] at hm;exact h hm
theorem Y1 {k:List Nat} (h:k.length<=257):∃ l,keyOf z6 9 (.string (strB k))=some l :=
 ⟨_,WideMaps.keyOf_string_mk un_9 (by rw [Qf];simp [maxLen];omega)⟩
theorem Xv {m:Nat} {ks:List (List Nat)} {w:World} (hm:(wX z6 9 m (esK ks)).ho w) (hb:∀ x∈ks,∀ y∈x,y<256) (hnd:ks.Nodup) {i:Nat} {k:List Nat} (hi:ks[i]?=some k) (hl:k.length<=257) :
  (Instr.lookup 118 (.map (some m)) (.string (strB k)) true).run z6 w=.ok (.tuple #[.int .i64 (i:Nat),.bool true]) w:=by
 obtain ⟨l,hk⟩:=Y1 hl;obtain ⟨v,b,hv,hr⟩:=jb QV hm XW hk (YV (t:=3) rfl) true;rw [hr];have hkb:=hb k (zc hi);rcases hv with ⟨rfl,h⟩|⟨rfl,rfl,h⟩
 ·obtain ⟨j,k',hj,he⟩:=XR h;injection he with h1 h2
  injection h1 with h1
  have:=YQ hkb (hb k' (zc hj)) h1;subst this;have hij:i=j:=(List.getElem?_inj (zP hi) hnd).1 (hi.trans hj.symm);subst hij;rw [h2];rfl
 ·exact absurd rfl (h _ (esK_of hi))
theorem Yv {m:Nat} {ks:List (List Nat)} {w:World} (hm:(wX z6 9 m (esK ks)).ho w) (hb:∀ x∈ks,∀ y∈x,y<256) {k:List Nat} (hn:k ∉ ks) (hkb:∀ y∈k,y<256) (hl:k.length<=257) :
  (Instr.lookup 118 (.map (some m)) (.string (strB k)) true).run z6 w=.ok (.tuple #[.int .i64 0,.bool false]) w:=by
 obtain ⟨l,hk⟩:=Y1 hl;obtain ⟨v,b,hv,hr⟩:=jb QV hm XW hk (YV (t:=3) rfl) true;rw [hr];rcases hv with ⟨rfl,h⟩|⟨rfl,rfl,h⟩
 ·obtain ⟨j,k',hj,he⟩:=XR h;injection he with h1 h2
  injection h1 with h1
  have:=YQ hkb (hb k' (zc hj)) h1;subst this;exact absurd (zc hj) hn
 ·rfl
section
variable {κ:Type} [DecidableEq κ] {f:Nat->κ}
theorem XA (acc l:List Nat) (x:Nat):news f acc (l++[x])=if f x∈(news f acc l).map f then news f acc l else news f acc l++[x]:=by
 induction l generalizing acc with
 |nil=>rw [z8,news,news,news]
 |cons y l ih=>rw [z7,news,news,ih]
theorem J1 {acc l:List Nat} {x:Nat} (h:f x∈(news f acc l).map f):news f acc (l++[x])=news f acc l:=by rw [XA,if_pos h]
theorem KR {acc l:List Nat} {x:Nat} (h:f x ∉ (news f acc l).map f):news f acc (l++[x])=news f acc l++[x]:=by rw [XA,if_neg h]
theorem J3 {acc:List Nat} {x:Nat} (h:f x∈acc.map f):(acc.map f)[xO f acc x]?=some (f x):=j9 h
theorem VF (acc l:List Nat):∃ r,news f acc l=acc++r:=by
 induction l generalizing acc with
 |nil=>exact ⟨[],by rw [news,xH]⟩
 |cons y l ih =>
  rw [news];split
  ·exact ih _
  ·obtain ⟨r,hr⟩:=ih (acc++[y]);exact ⟨[y]++r,by rw [hr,y7]⟩
theorem J0 (acc l r:List Nat):news f acc (l++r)=news f (news f acc l) r:=by
 induction l generalizing acc with
 |nil=>rw [z8,news]
 |cons y l ih=>rw [z7,news,news,ih]
theorem Xz (l:List Nat) (i:Nat):∃ r,news f [] l=news f [] (l.take i)++r:=by
 have:=J0 (f:=f) [] (l.take i) (l.drop i);rw [List.take_append_drop] at this;rw [this];exact VF _ _
theorem J5 {acc F:List Nat} {x:Nat} (h:∃ r,F=acc++r) (hx:f x∈acc.map f):xO f F x=xO f acc x:=by
 obtain ⟨r,rfl⟩:=h;unfold xO;rw [qQ,yU,if_pos hx]
theorem J4 {acc F:List Nat} {x:Nat} (h:∃ r,F=(acc++[x])++r) (hx:f x ∉ acc.map f):xO f F x=acc.length:=by
 obtain ⟨r,rfl⟩:=h;unfold xO;rw [qQ,yU,if_pos (by simp),qQ,yU,if_neg hx];simp
end
end
section
open Go.RowKit Go.Maps
attribute [local go_sem] qM
def fnL (n:Nat) (f:Nat->Nat):List Nat:=(zl n).map f
theorem j8 {n:Nat} {f:Nat->Nat}:(fnL n f).length=n:=by simp [fnL]
theorem xy {n i:Nat} {f:Nat->Nat} (h:i<n):(fnL n f)[i]?=some (f i):=by
 unfold fnL;rw [zq,xP h];rfl
theorem vH {n i x:Nat} {f g:Nat->Nat} (hi:g i=x) (h:∀ j,j≠i->g j=f j):(fnL n f).set i x=fnL n g:=by
 apply yF;intro j;rcases zD j n with hj|hj
 ·rw [xy hj,jg,j8,xy hj];by_cases e:i=j
  ·subst e;simp [hj,hi]
  ·rw [if_neg e,h j (fun x=>e x.symm)]
 ·rw [zu (by rw [yi,j8];exact hj),zu (by rw [j8];exact hj)]
theorem ko {n:Nat}:fnL n (fun _=>0)=zI n 0:=by
 apply yF;intro j;rcases zD j n with hj|hj
 ·rw [xy hj,yT,if_pos hj]
 ·rw [zu (by rw [j8];exact hj),zu (by simpa using hj)]
theorem x8 {n:Nat} {f g:Nat->Nat} (h:∀ j,j<n->f j=g j):fnL n f=fnL n g:=by
 unfold fnL;exact List.map_congr_left fun j hj=>h j (zo.1 hj)
def blP (m:Mch) (st:List Nat) (i q:Nat):Nat:=if q∈st.take i∧m.ac q=true then 1 else 0
def nxP (m:Mch) (cs st:List Nat) (bl:Nat->Nat) (i q:Nat):Nat:=if q∈st.take i then xO (yb m cs bl) (yg m cs st bl) q else 0
theorem yK {α:Type} {l:List α} {i:Nat} {x:α} (h:l[i]?=some x):l.take (i+1)=l.take i++[x]:=by
 rw [xZ,h];rfl
theorem blP_yes {m:Mch} {st:List Nat} {i q:Nat} (h:st[i]?=some q) (ha:m.ac q=true) {n:Nat}:(fnL n (blP m st i)).set q 1=fnL n (blP m st (i+1)):=by
 refine vH ?_ fun j hj=>?_
 ·unfold blP;rw [yK h];simp [ha]
 ·unfold blP;rw [yK h];simp [hj]
theorem blP_no {m:Mch} {st:List Nat} {i q:Nat} (h:st[i]?=some q) (ha:m.ac q=false) {n:Nat}:fnL n (blP m st i)=fnL n (blP m st (i+1)):=by
 refine x8 fun j hj=>?_
 unfold blP;rw [yK h];by_cases e:j=q
 ·subst e;simp [ha]
 ·simp [e]
theorem KW {m:Mch} {cs st:List Nat} {bl:Nat->Nat} {i q x:Nat} (h:st[i]?=some q) (hx:xO (yb m cs bl) (yg m cs st bl) q=x) {n:Nat}:(fnL n (nxP m cs st bl i)).set q x=fnL n (nxP m cs st bl (i+1)):=by
 refine vH ?_ fun j hj=>?_
 ·unfold nxP;rw [yK h];simp [hx]
 ·unfold nxP;rw [yK h];simp [hj]
structure RfIn (m:Mch) (st:List Nat) (n f:Nat) (bl:Nat->Nat) (F:List Nat):Prop where
 goal:QE m m.occ st f F.length bl=m.refine
 fuel:n<f+F.length
 nums:F=[]∨Vc st bl F
 lt:∀ q,q<n->bl q<256
 len:F.length<=n
theorem rnext_le {m:Mch} {st:List Nat} {n f:Nat} {bl:Nat->Nat} {F:List Nat} (h:RfIn m st n f bl F):F.length<=(yg m m.occ st bl).length:=by
 rcases h.nums with e|hF
 ·rw [e];exact zH _
 ·have hall:=YG (m:=m) (cs:=m.occ) hF;have:=(jo (n:=F.length)).length_le_of_subset fun v hv=>hall v (zo.1 hv)
  simpa using this
theorem RfIn.pos {m:Mch} {st:List Nat} {n f:Nat} {bl:Nat->Nat} {F:List Nat} (h:RfIn m st n f bl F):0<f:=by
 have:=h.fuel;have:=h.len;omega
theorem rnext_lt {m:Mch} {st:List Nat} {n:Nat} {bl:Nat->Nat} (hs:Sts m n st) (hn:n<=256) {q:Nat}:jn m m.occ st bl q<256:=by
 unfold jn;split
 ·rename_i hq;have:=(xo (f:=yb m m.occ bl) st).num_lt hq;have hl:(yg m m.occ st bl).length<=n:=rf_len hs;have h2:xO (yb m m.occ bl) (yg m m.occ st bl) q<(yg m m.occ st bl).length:=this;omega
 ·omega
theorem RfIn.next {m:Mch} {st:List Nat} {n f:Nat} {bl:Nat->Nat} {F:List Nat} (hs:Sts m n st) (hn:n<=256) (h:RfIn m st n (f+1) bl F) (hne:(yg m m.occ st bl).length≠F.length):RfIn m st n f (jn m m.occ st bl) (yg m m.occ st bl):=by
 have hge:=rnext_le h;have hg:=h.goal;rw [QE,if_neg hne] at hg;have:=h.fuel;exact ⟨hg,by omega,.inr Zg,fun q _=>rnext_lt hs hn,rf_len hs⟩
theorem RfIn.stop {m:Mch} {st:List Nat} {n f:Nat} {bl:Nat->Nat} {F:List Nat} (h:RfIn m st n (f+1) bl F) (he:(yg m m.occ st bl).length=F.length):m.refine=(jn m m.occ st bl,yg m m.occ st bl):=by
 have hg:=h.goal;rw [QE,if_pos he] at hg;exact hg.symm
theorem KF {m:Mch} {n k:Nat} {cs:List Nat} {bl:Nat->Nat} (hm:m.Ok n k) (hcs:∀ c∈cs,c<k) (hb:∀ q,q<n->bl q<256) {q:Nat} (hq:q<n):∀ x∈yb m cs bl q,x<256:=by
 intro x hx;unfold yb Mch.succs at hx;rcases zG.1 hx with rfl|hx
 ·exact hb q hq
 ·obtain ⟨y,hy,rfl⟩:=zC.1 hx;obtain ⟨c,hc,rfl⟩:=zC.1 hy;exact hb _ (hm.entlt hq (hcs c hc))
theorem keyB_len {m:Mch} {cs:List Nat} {bl:Nat->Nat} {q:Nat}:(yb m cs bl q).length=cs.length+1:=by simp [yb,Mch.succs]
theorem Vx {m:Mch} {cs:List Nat} {bl:Nat->Nat} {q:Nat}:(yb m cs bl q)[0]?=some (bl q):=rfl
theorem keyB_get {m:Mch} {cs:List Nat} {bl:Nat->Nat} {q j c:Nat} (h:cs[j]?=some c):(yb m cs bl q)[j+1]?=some (bl (m.ent q c)):=by
 unfold yb Mch.succs;rw [qD,zq,zq,h];rfl
def KeyAt (key kb:List Nat) (j:Nat):Prop:=kb.length=key.length∧kb.take j=key.take j
theorem KeyAt.set {key kb:List Nat} {j x:Nat} (h:KeyAt key kb j) (hx:key[j]?=some x):KeyAt key (kb.set j x) (j+1):=by
 refine ⟨by rw [yi];exact h.1,?_⟩;have hl:=zP hx;have hk:(kb.set j x)[j]?=some x:=(by rw [jg];simp [h.1,hl]);rw [yK hx,yK hk,← h.2];congr 1
 apply yF;intro i;rw [wZ,wZ];by_cases hi:i<j
 ·rw [if_pos hi,if_pos hi,jg,if_neg (by omega)]
 ·rw [if_neg hi,if_neg hi]
theorem KeyAt.get {key kb:List Nat} {j i:Nat} (h:KeyAt key kb j) (hi:i<key.length):∃ y,kb[i]?=some y:=⟨_,zg (by rw [h.1];exact hi)⟩
theorem KeyAt.all {key kb:List Nat} {j:Nat} (h:KeyAt key kb j) (hj:key.length<=j):kb=key:=by
 have h2:=h.2;rwa [zM (by rw [h.1];exact hj),zM hj] at h2
def RfRelA (w:World) (b1 gc oc cc gn on_ cn ga oa ca n g0 ns:Nat) (m:Mch) (st:List Nat) (mm:Nat) (v26:Value) (wr:World):Prop :=
 ∃ i:Nat,mm=ns-i∧i<=ns∧v26=.int .i64 i∧St w [] [blk b1 (.cells #[.int .i64 m.start,.slice (some ⟨gc,oc,none⟩) 256 cc,.slice (some ⟨gn,on_,none⟩) n cn,.slice (some ⟨ga,oa,none⟩) n ca] 27),zi q7 3 1 (.slice (some ⟨g0,0,none⟩) n n) (fnL n (blP m st i))] wr
def RfRelB (w:World) (b1 gc oc cc gn on_ cn ga oa ca n:Nat) (m:Mch) (st:List Nat) (mm:Nat) (v6 v7:Value) (wr:World):Prop :=
 ∃ (f g0:Nat) (bl:Nat->Nat) (F:List Nat),mm=f∧v6=.slice (some ⟨g0,0,none⟩) n n∧RfIn m st n f bl F∧St w [] [blk b1 (.cells #[.int .i64 m.start,.slice (some ⟨gc,oc,none⟩) 256 cc,.slice (some ⟨gn,on_,none⟩) n cn,.slice (some ⟨ga,oa,none⟩) n ca] 27),zi q7 3 1 (.slice (some ⟨g0,0,none⟩) n n) (fnL n bl),zi q7 3 1 v7 F] wr
def RfRelC (w:World) (b1 gc oc cc gn on_ cn ga oa ca n g0 g1 gk mb nc ns:Nat) (m:Mch) (st:List Nat) (bl:Nat->Nat) (mm:Nat) (v7 v52:Value) (wr:World):Prop :=
 ∃ (i:Nat) (acc kb:List Nat),mm=ns-i∧i<=ns∧v52=.int .i64 i∧acc=news (yb m m.occ bl) [] (st.take i)∧kb.length=nc+1∧St w [] [blk b1 (.cells #[.int .i64 m.start,.slice (some ⟨gc,oc,none⟩) 256 cc,.slice (some ⟨gn,on_,none⟩) n cn,.slice (some ⟨ga,oa,none⟩) n ca] 27),zi q7 3 1 (.slice (some ⟨g0,0,none⟩) n n) (fnL n bl),zi q7 3 1 v7 acc,zi q7 3 1 (.slice (some ⟨g1,0,none⟩) n n) (fnL n (nxP m m.occ st bl i)),wX z6 9 mb (esK (acc.map (yb m m.occ bl))),zi kH 5 1 (.slice (some ⟨gk,0,none⟩) (nc+1) (nc+1)) kb] wr
def RfRelD (w:World) (b1 gc oc cc gn on_ cn ga oa ca n g0 g1 gk mb nc:Nat) (v7:Value) (m:Mch) (st acc:List Nat) (bl:Nat->Nat) (i q:Nat) (mm:Nat) (v65:Value) (wr:World):Prop :=
 ∃ (j:Nat) (kb:List Nat),mm=nc-j∧j<=nc∧v65=.int .i64 j∧KeyAt (yb m m.occ bl q) kb (j+1)∧St w [] [blk b1 (.cells #[.int .i64 m.start,.slice (some ⟨gc,oc,none⟩) 256 cc,.slice (some ⟨gn,on_,none⟩) n cn,.slice (some ⟨ga,oa,none⟩) n ca] 27),zi q7 3 1 (.slice (some ⟨g0,0,none⟩) n n) (fnL n bl),zi q7 3 1 v7 acc,zi q7 3 1 (.slice (some ⟨g1,0,none⟩) n n) (fnL n (nxP m m.occ st bl i)),wX z6 9 mb (esK (acc.map (yb m m.occ bl))),zi kH 5 1 (.slice (some ⟨gk,0,none⟩) (nc+1) (nc+1)) kb] wr
theorem refine_c {P:zT} {vc vn va vs vst:Value} {m:Mch} {n k:Nat} (h:MchIn P vc vn va m) (hm:m.Ok n k) (hn256:n<=256) (hk256:k<=256) (hc:RowIn P q7 1 vs m.occ) (hst:RowIn P q7 1 vst m.reachL) (w:World) (hp:(zx P).ho w) :
  Calls z6 45 #[.agg #[.int .i64 m.start,vc,vn,va],vs,vst] w fun e w'=>∃ v1 v2,e=.returned (.tuple #[v1,v2])∧St w [] [zi q7 3 1 v1 (fnL n m.refine.1),zi q7 3 1 v2 m.refine.2] w':=by
 have H:=St.nil w [];have HK:Ks w [] [zx P]:=Ks.one hp;have hS:=vR hm;have h0:0<n:=(by have:=hm.start;omega);obtain ⟨st,hste⟩:∃ z,m.reachL=z:=⟨_,rfl⟩
 rw [hste] at hst hS;have hcs:∀ c∈m.occ,c<k:=fun c hc=>by
  obtain ⟨b,hb,rfl⟩:=Yz hm hc;exact hm.clt hb
 have hocl:m.occ.length<=256:=by
  have:=XV m.cls [];rw [hm.cls] at this;simpa [Mch.occ] using this
 obtain ⟨rows,hr1,hr2,hr3⟩:=h.nxt;rw [hm.nxt] at hr2;obtain ⟨gc,oc,cc,rfl,_⟩:=h.cls.has (by rw [hm.cls];omega);rw [hm.cls];obtain ⟨gn,on_,cn,rfl,_⟩:=hr1.has (by omega);rw [hr2] at hr1 ⊢;have hacl:=hm.acc;obtain ⟨ga,oa,ca,rfl,_⟩:=h.acc.has (by omega);have hacI:=h.acc;rw [hacl] at hacI ⊢;obtain ⟨ac,c9,rfl,_⟩:=hc.shape;obtain ⟨nc,hnc⟩:∃ z,m.occ.length=z:=⟨_,rfl⟩
 rw [hnc] at hc ⊢;have hstl:0<st.length:=List.length_pos_of_mem hS.start;obtain ⟨gs,os,cS,rfl,_⟩:=hst.has hstl;obtain ⟨ns,hns⟩:∃ z,st.length=z:=⟨_,rfl⟩
 have hnsn:ns<=n:=(by rw [← hns];exact xU hS.nd hS.lt);rw [hns] at hst ⊢;have HROW:Hid (∀ s c,s<n->c<k->∃ gr or cr,(∀ w,(zx P).ho w->w.cell? ⟨gn,on_+s,none⟩=some (.slice (some ⟨gr,or,none⟩) k cr))∧∀ w,(zx P).ho w->w.cell? ⟨gr,or+c,none⟩=some (.int .i64 (m.ent s c:Nat))):=zh fun s c hs hck=>by
  obtain ⟨r,hr⟩:∃ r,rows[s]?=some r:=⟨_,zg (by omega)⟩
  obtain ⟨x,hx⟩:∃ x,m.nxt[s]?=some x:=⟨_,zg (by rw [hm.nxt];exact hs)⟩
  have hxl:=hm.row x (zc hx);have hrr:=hr3 s r x hr hx;obtain ⟨gr,or,cr,rfl,_⟩:=hrr.has (by omega);rw [hxl] at hrr hr;refine ⟨gr,or,cr,fun w h=>by have:=hr1.cell h kh hr rfl;exact this,fun w h=>?_⟩;have he:x[c]?=some (m.ent s c):=by
   unfold Mch.ent;rw [ze (l:=m.nxt),hx];simp only [qV];rw [ze,zg (by omega)];rfl
  exact hrr.cell h zL he rfl
 have HIN:Hid (m.Ok n k∧(∀ c∈m.occ,c<k)∧m.occ.length=nc∧RowIn P q7 1 (.slice ac nc c9) m.occ∧Sts m n st∧st.length=ns∧m.reachL=st):=zh ⟨hm,hcs,hnc,hc,hS,hns,hste⟩;have HST:Hid (∀ i q,st[i]?=some q->∀ w,(zx P).ho w->w.cell? ⟨gs,os+i,none⟩=some (.int .i64 (q:Nat))):=zh fun i q hi w h=>hst.cell h zL hi rfl
 have HAC:Hid (∀ q,q<n->∀ w,(zx P).ho w->w.cell? ⟨ga,oa+q,none⟩=some (.bool (m.ac q))):=zh fun q hq w h=>by
  have he:m.acc[q]?=some (m.ac q):=by
   unfold Mch.ac;rw [ze,zg (by omega)];rfl
  exact hacI.cell h yW he rfl
 have hnc256:nc<=256:=(by rw [← hnc];exact hocl);clear h hr1 hr2 hr3 hc hm hcs hnc hp hst hS hns hste hstl hacI hacl hocl;go_enter Tryd.func45,Tryd.ntmps45;go_wp2_with (first|refine sL ?_|(refine sS ?_;clear H;intros;rename_i H)|((with_reducible refine jl ?_);refine AtMk1.row (enc:=q7) H rfl rfl n rfl rfl rfl rfl rfl 0 rfl zL (by omega) (by omega) ?_;clear H;intro g0 _ H;simp only [Act.put,puA,puB,puC]));rename_i b1 _ _ _ _;rw [← ko] at H;go_loopg [26] ns (fun mm v26 wr=>RfRelA w b1 gc oc cc gn on_ cn ga oa ca n g0 ns m st mm v26 wr);case atStart=>exact ⟨0,rfl,zH _,rfl,by
  have e:fnL n (blP m st 0)=fnL n (fun _=>0):=x8 fun j _=>by unfold blP;simp
  rw [e];exact H.picks (.cons pk (.cons pk .nil))⟩
 case round =>
  clear H;obtain ⟨i,rfl,hi,rfl,H⟩:=hrel;by_cases hlt:i<ns
  ·have e1:decide ((i:Int)<(ns:Int))=true:=(by simp;omega);have e1n:decide (i<ns)=true:=(by simp;omega);obtain ⟨q,hq⟩:∃ q,st[i]?=some q:=⟨_,zg (by rw [HIN.out.2.2.2.2.2.1];exact hlt)⟩
   have HQ:=zh hq;have HC1:=zh (HST.out i q hq);have hqn:=HIN.out.2.2.2.2.1.lt q (zc hq);have HC2:=zh (HAC.out q hqn);obtain ⟨ab,hab⟩:∃ z,m.ac q=z:=⟨_,rfl⟩
   have HAB:=zh hab;rw [hab] at HC2;have e2:decide ((q:Int)<(n:Int))=true:=(by simp;omega);have e2n:decide (q<n)=true:=(by simp;omega);clear hq hab;cases ab
   ·go_wp2_with (first|refine sL ?_|(refine sS ?_;clear H;intros;rename_i H));go_roundg (ns-(i+1));case measure=>omega
    case rel=>exact ⟨i+1,rfl,by omega,by go_num,by
     rw [← blP_no HQ.out HAB.out];exact H⟩
   ·go_wp2_with (first|refine sL ?_|(refine sS ?_;clear H;intros;rename_i H)|((with_reducible refine yy ?_);refine AtStore.rowAk (enc:=q7) (k:=1) (i:=q) (j:=0) H rfl rfl rfl rfl rfl rfl pk zL (xy (by omega)) (by omega) (by simp) 1 rfl ?_;clear H;intro _ H;simp only [Act.put,puA,puB,puC]));rw [blP_yes HQ.out HAB.out] at H;go_roundg (ns-(i+1));case measure=>omega
    case rel=>exact ⟨i+1,rfl,by omega,by go_num,H.picks (.cons pk (.cons pk .nil))⟩
  ·have e1:decide ((i:Int)<(ns:Int))=false:=(by simp;omega);have e1n:decide (i<ns)=false:=(by simp;omega);obtain rfl:ns=i:=by omega
   go_wp2_with (first|refine sL ?_|(refine sS ?_;clear H;intros;rename_i H));have hbl:fnL n (blP m st ns)=fnL n (bl0 m st):=x8 fun j _=>by
    unfold blP bl0;rw [zM (by rw [HIN.out.2.2.2.2.2.1];exact zp _)]
   rw [hbl] at H;clear hbl;replace H:=H.empty (A:=zi q7 3 1 (.slice none 0 0) []) (yS _) (by rw [q9];rfl);have HG0:Hid (RfIn m st n (n+1) (bl0 m st) []):=zh ⟨by
    have:=HIN.out;unfold Mch.refine;rw [this.2.2.2.2.2.2,this.1.nxt];rfl,by simp,.inl rfl,fun q _=>by unfold bl0;split <;> omega,zH _⟩
   go_loopg [6,7] (n+1) (fun mm v6 v7 wr=>RfRelB w b1 gc oc cc gn on_ cn ga oa ca n m st mm v6 v7 wr);case atStart=>exact ⟨n+1,g0,bl0 m st,[],rfl,rfl,HG0.out,H.picks (.cons pk (.cons pk (.cons pk .nil)))⟩
   case round =>
    clear H HG0;obtain ⟨f,g0,bl,F,hmm,rfl,hin,H⟩:=hrel;obtain rfl:=hmm.symm;have HI:=zh hin;obtain ⟨f,rfl⟩:∃ f',f=f'+1:=⟨f-1,by have:=hin.pos;omega⟩
    obtain ⟨ad7,c7,rfl,_⟩:=zW (H.get (A:=zi q7 3 1 _ F) pk);obtain ⟨nF,hnF⟩:∃ z,F.length=z:=⟨_,rfl⟩
    have HNF:=zh hnF;rw [hnF] at H ⊢;clear hin hnF;go_wp2_with (first|refine sL ?_|(refine sS ?_;clear H;intros;rename_i H)|((with_reducible refine jl ?_);refine AtMk1.row (enc:=q7) H rfl rfl n rfl rfl rfl rfl rfl 0 rfl zL (by omega) (by omega) ?_;clear H;intro g1 _ H;simp only [Act.put,puA,puB,puC])|((with_reducible refine vK ?_);refine AtMakeMap.go 9 H rfl rfl ?_;clear H;intro mb _ H;simp only [Act.put,puA,puB,puC])|((with_reducible refine jl ?_);refine AtMk1.row (enc:=kH) H rfl rfl (nc+1) rfl rfl rfl rfl rfl 0 rfl jH (by omega) (by omega) ?_;clear H;intro gk _ H;simp only [Act.put,puA,puB,puC]));have hnx0:zI n 0=fnL n (nxP m m.occ st bl 0):=by
     rw [← ko];exact x8 fun j _=>by unfold nxP;simp
    rw [hnx0] at H;clear hnx0;replace H:=H.drop (A:=zi q7 3 1 _ F) pk;replace H:=H.empty (A:=zi q7 3 1 (.slice none 0 0) []) (yS _) (by rw [q9];rfl);have hbl256:∀ q,q<n->bl q<256:=HI.out.lt;have HB:=zh hbl256;clear hbl256;have HSK:(esK []:List (Value×Value))=[]:=rfl;rw [← HSK] at H;clear HSK;go_loopg [7,52] ns (fun mm v7 v52 wr=>RfRelC w b1 gc oc cc gn on_ cn ga oa ca n g0 g1 gk mb nc ns m st bl mm v7 v52 wr);case atStart=>exact ⟨0,[],zI (nc+1) 0,rfl,zH _,rfl,(by rw [jG,news]),(by simp),H.picks (.cons pk (.cons pk (.cons pk (.cons pk (.cons pk (.cons pk .nil))))))⟩
    case round =>
     clear H;obtain ⟨i,acc,kb,rfl,hi,rfl,hacc,hkb,H⟩:=hrel;obtain ⟨ad7,c7,rfl,_⟩:=zW (H.get (A:=zi q7 3 1 _ acc) pk);obtain ⟨an,han⟩:∃ z,acc.length=z:=⟨_,rfl⟩
     have HAN:=zh han;have HACC:=zh hacc;rw [han] at H ⊢;have hann:an<=n:=by
      rw [← han,hacc];have hN:=xo (f:=yb m m.occ bl) (st.take i);refine xU ((vd.1 hN.nd).imp fun h e=>h (by rw [e])) fun q hq=>HIN.out.2.2.2.2.1.lt q (List.mem_of_mem_take (hN.sub q hq))
     clear han hacc;by_cases hlt:i<ns
     ·have e1:decide ((i:Int)<(ns:Int))=true:=(by simp;omega);have e1n:decide (i<ns)=true:=(by simp;omega);obtain ⟨q,hq⟩:∃ q,st[i]?=some q:=⟨_,zg (by rw [HIN.out.2.2.2.2.2.1];exact hlt)⟩
      have HQ:=zh hq;have HC1:=zh (HST.out i q hq);have hqn:=HIN.out.2.2.2.2.1.lt q (zc hq);clear hq;obtain ⟨bq,hbq⟩:∃ z,bl q=z:=⟨_,rfl⟩
      have hbq256:bq<256:=(by rw [← hbq];exact HB.out q hqn);have HBQ:=zh hbq;have HC2:Hid (∀ w,(zi q7 3 1 (.slice (some ⟨g0,0,none⟩) n n) (fnL n bl)).ho w->w.cell? ⟨g0,q,none⟩=some (.int .i64 (bq:Nat))):=zh fun w h=>by
       have:=qL h zL (xy hqn) (j:=0) rfl;rw [HBQ.out] at this;simpa using this
      clear hbq;have e2:decide ((q:Int)<(n:Int))=true:=(by simp;omega);have e2n:decide (q<n)=true:=(by simp;omega);have e3:decide ((0:Int)<(nc:Int)+1)=true:=decide_eq_true (by omega);obtain ⟨k0,hk0⟩:∃ y,kb[0]?=some y:=⟨_,zg (by omega)⟩
      have HK0:=zh hk0;clear hk0;go_wp2_with (first|refine sL ?_|(refine sS ?_;clear H;intros;rename_i H)|((with_reducible refine yy ?_);refine AtStore.rowAk (enc:=kH) (k:=1) (i:=0) (j:=0) H rfl rfl rfl rfl rfl rfl pk jH (HK0.out) (by omega) (by simp) bq rfl ?_;clear H;intro _ H;simp only [Act.put,puA,puB,puC]));have hkl:(yb m m.occ bl q).length=nc+1:=(by rw [keyB_len,HIN.out.2.2.1]);have HKL:=zh hkl;have hK1:KeyAt (yb m m.occ bl q) (kb.set 0 bq) 1:=KeyAt.set ⟨by rw [hkl];exact hkb,rfl⟩ (by rw [Vx,HBQ.out]);have HK1:=zh hK1;clear hkl hK1;go_loopg [65] nc (fun mm v65 wr=>RfRelD w b1 gc oc cc gn on_ cn ga oa ca n g0 g1 gk mb nc (.slice ad7 an c7) m st acc bl i q mm v65 wr);case atStart=>exact ⟨0,_,rfl,zH _,rfl,HK1.out,H.picks (.cons pk (.cons pk (.cons pk (.cons pk (.cons pk (.cons pk .nil))))))⟩
      case round =>
       clear H HK1 HK0;obtain ⟨j,kb,rfl,hj,rfl,hka,H⟩:=hrel;have HKA:=zh hka;by_cases hjl:j<nc
       ·have f1:decide ((j:Int)<(nc:Int))=true:=(by simp;omega);have f1n:decide (j<nc)=true:=(by simp;omega);obtain ⟨c,hcj⟩:∃ c,m.occ[j]?=some c:=⟨_,zg (by rw [HIN.out.2.2.1];exact hjl)⟩
        have hck:=HIN.out.2.1 c (zc hcj);have HCJ:=zh hcj;obtain ⟨gr,or,cr,hc1,hc2⟩:=HROW.out q c hqn hck;have HR1:=zh hc1;obtain ⟨s,hs⟩:∃ z,m.ent q c=z:=⟨_,rfl⟩
        rw [hs] at hc2;have HR2:=zh hc2;have hsn:s<n:=(by rw [← hs];exact HIN.out.1.entlt hqn hck);have HS:=zh hs;obtain ⟨gcs,ocs,rfl,hcc⟩:∃ g o,ac=some ⟨g,o,none⟩∧∀ w,(zx P).ho w->w.cell? ⟨g,o+j,none⟩=some (.int .i64 (c:Nat)):=by
         have hr:=HIN.out.2.2.2.1;obtain ⟨ad',c',e1,_,h3⟩:=id hr;obtain ⟨b,o,rfl,_⟩:=h3 (by have:=zP hcj;omega);injection e1 with e1 _ _
         subst e1;exact ⟨b,o,rfl,fun w h=>hr.cell h zL hcj rfl⟩
        have HCC:=zh hcc;obtain ⟨bs,hbs⟩:∃ z,bl s=z:=⟨_,rfl⟩
        have hbs256:bs<256:=(by rw [← hbs];exact HB.out s hsn);have HBS:=zh hbs;have HC3:Hid (∀ w,(zi q7 3 1 (.slice (some ⟨g0,0,none⟩) n n) (fnL n bl)).ho w->w.cell? ⟨g0,s,none⟩=some (.int .i64 (bs:Nat))):=zh fun w h=>by
         have:=qL h zL (xy hsn) (j:=0) rfl;rw [HBS.out] at this;simpa using this
        obtain ⟨kj,hkj⟩:=hka.get (i:=j+1) (by rw [HKL.out];omega);have HKJ:=zh hkj;clear hcj hc1 hc2 hs hcc hbs hka hkj;have f2:decide ((c:Int)<(k:Int))=true:=(by simp;omega);have f2n:decide (c<k)=true:=(by simp;omega);have f3:decide ((s:Int)<(n:Int))=true:=(by simp;omega);have f3n:decide (s<n)=true:=(by simp;omega);have f4:decide ((j:Int)+1<(nc:Int)+1)=true:=(by simp;omega);go_wp2_with (first|refine sL ?_|(refine sS ?_;clear H;intros;rename_i H)|((with_reducible refine yy ?_);refine AtStore.rowAk (enc:=kH) (k:=1) (i:=j+1) (j:=0) H rfl rfl rfl rfl rfl rfl pk jH (HKJ.out) (by omega) (by simp) bs rfl ?_;clear H;intro _ H;simp only [Act.put,puA,puB,puC]));go_roundg (nc-(j+1));case measure=>omega
        case rel=>exact ⟨j+1,kb.set (j+1) bs,rfl,by omega,by go_num,HKA.out.set (by rw [keyB_get HCJ.out,HS.out,HBS.out]),H.picks (.cons pk (.cons pk (.cons pk (.cons pk (.cons pk (.cons pk .nil))))))⟩
       ·have f1:decide ((j:Int)<(nc:Int))=false:=(by simp;omega);have f1n:decide (j<nc)=false:=(by simp;omega);obtain rfl:nc=j:=by omega
        obtain rfl:=hka.all (by rw [HKL.out];exact zp _);clear hka HKA;have hkey:∀ y∈yb m m.occ bl q,y<256:=KF HIN.out.1 HIN.out.2.1 HB.out hqn;have HKEY:=zh hkey;have HC:Hid (∀ (v:Value) w,(zi kH 5 1 v (yb m m.occ bl q)).ho w->(convert 53 9 v).run z6 w=.ok (.string (strB (yb m m.occ bl q))) w):=zh fun v w h=>Yj hkey h
        have hsub:∀ x∈acc,x<n:=fun x hx=>by
         rw [HACC.out] at hx;exact HIN.out.2.2.2.2.1.lt x (List.mem_of_mem_take ((xo (f:=yb m m.occ bl) (st.take i)).sub x hx))
        have hbs:∀ x∈acc.map (yb m m.occ bl),∀ y∈x,y<256:=fun x hx y hy=>by
         obtain ⟨z,hz,rfl⟩:=zC.1 hx;exact KF HIN.out.1 HIN.out.2.1 HB.out (hsub z hz) y hy
        have HBS:=zh hbs;have hpart:∃ r,yg m m.occ st bl=news (yb m m.occ bl) [] (st.take (i+1))++r:=Xz st (i+1);have hsy:yb m m.occ bl q∈acc.map (yb m m.occ bl)->news (yb m m.occ bl) [] (st.take (i+1))=acc:=fun h=>by
         rw [yK HQ.out,J1 (by rw [← HACC.out];exact h),← HACC.out]
        have hsn:yb m m.occ bl q ∉ acc.map (yb m m.occ bl)->news (yb m m.occ bl) [] (st.take (i+1))=acc++[q]:=fun h=>by
         rw [yK HQ.out,KR (by rw [← HACC.out];exact h),← HACC.out]
        have hng:yb m m.occ bl q∈acc.map (yb m m.occ bl)->(acc.map (yb m m.occ bl))[xO (yb m m.occ bl) acc q]?=some (yb m m.occ bl q):=J3;have hlen:(yb m m.occ bl q).length<=257:=(by rw [HKL.out];omega);obtain ⟨key,hkq⟩:∃ z,yb m m.occ bl q=z:=⟨_,rfl⟩
        have HKQ:=zh hkq;rw [hkq] at H HC hkey hlen hsn hsy hng;have HLEN:=zh hlen;have HKEY2:=zh hkey;clear hkey hlen hbs hsub hkq;by_cases hin:key∈acc.map (yb m m.occ bl)
        ·replace hsn:=hsy hin;replace hng:=hng hin;clear hsy;obtain ⟨x,hx⟩:∃ z,xO (yb m m.occ bl) acc q=z:=⟨_,rfl⟩
         rw [hx] at hng;have hget:=hng;have hnum:xO (yb m m.occ bl) (yg m m.occ st bl) q=x:=by
          rw [hsn] at hpart;rw [J5 hpart (by rw [HKQ.out];exact hin)];exact hx
         have HLK:Hid (∀ w,(wX z6 9 mb (esK (acc.map (yb m m.occ bl)))).ho w->(Instr.lookup 118 (.map (some mb)) (.string (strB key)) true).run z6 w=.ok (.tuple #[.int .i64 (x:Nat),.bool true]) w):=zh fun w h=>Xv h HBS.out (by rw [HACC.out];exact (xo (f:=yb m m.occ bl) (st.take i)).nd) hget HLEN.out
         have HSN:=zh (za hnum hsn);have HG1:Hid ((fnL n (nxP m m.occ st bl i))[q]?=some (nxP m m.occ st bl i q)):=zh (xy hqn);clear hx hget hng hnum hsn hpart hin;go_wp2_with (first|refine sL ?_|(refine sS ?_;clear H;intros;rename_i H)|((with_reducible refine Q7 ?_);refine AtConv.go rfl rfl rfl (HC.out _ _ (H.get pk)) ?_;simp only [Act.put,puA,puB,puC])|((with_reducible refine vo ?_);refine AtLook.go rfl rfl rfl _ (HLK.out _ (H.get pk)) rfl ?_;simp only [Act.put,puA,puB,puC])|((with_reducible refine yy ?_);refine AtStore.rowAk (enc:=q7) (k:=1) (i:=q) (j:=0) H rfl rfl rfl rfl rfl rfl pk zL (HG1.out) (by omega) (by simp) x rfl ?_;clear H;intro _ H;simp only [Act.put,puA,puB,puC]));rw [KW HQ.out HSN.out.1] at H;go_roundg (ns-(i+1));case measure=>omega
         case rel=>exact ⟨i+1,acc,key,rfl,by omega,by go_num,HSN.out.2.symm,by rw [← HKQ.out];exact HKL.out,H.picks (.cons pk (.cons pk (.cons pk (.cons pk (.cons pk (.cons pk .nil))))))⟩
        ·replace hsn:=hsn hin;clear hsy hng;have hnum:xO (yb m m.occ bl) (yg m m.occ st bl) q=an:=by
          rw [hsn] at hpart;rw [J4 hpart (by rw [HKQ.out];exact hin)];exact HAN.out
         have HLK:Hid (∀ w,(wX z6 9 mb (esK (acc.map (yb m m.occ bl)))).ho w->(Instr.lookup 118 (.map (some mb)) (.string (strB key)) true).run z6 w=.ok (.tuple #[.int .i64 0,.bool false]) w):=zh fun w h=>Yv h HBS.out hin HKEY2.out HLEN.out
         have HKY:Hid ((∃ l,keyOf z6 9 (.string (strB key))=some l)∧∀ e∈esK (acc.map (yb m m.occ bl)),e.1≠.string (strB key)):=zh ⟨Y1 HLEN.out,esK_no HBS.out HKEY2.out hin⟩;have HSN:=zh (za hnum hsn);have HG1:Hid ((fnL n (nxP m m.occ st bl i))[q]?=some (nxP m m.occ st bl i q)):=zh (xy hqn);have HX4:Hid (acc.length=an∧an<=n∧n<=256):=zh ⟨HAN.out,hann,hn256⟩;clear hnum hsn hpart hin;go_wp2_with (first|refine sL ?_|(refine sS ?_;clear H;intros;rename_i H)|((with_reducible refine Q7 ?_);refine AtConv.go rfl rfl rfl (HC.out _ _ (H.get pk)) ?_;simp only [Act.put,puA,puB,puC])|((with_reducible refine vo ?_);refine AtLook.go rfl rfl rfl _ (HLK.out _ (H.get pk)) rfl ?_;simp only [Act.put,puA,puB,puC])|((with_reducible refine ZA ?_);refine AtUpdate.new (k:=.string (strB key)) (v:=.int .i64 (an:Nat)) QV XW H rfl rfl rfl pk rfl rfl HKY.out.1.choose_spec HKY.out.2 ?_;clear H;intro _ H;simp only [Act.put,puA,puB,puC])|((with_reducible refine ym ?_);refine AtSlice.one H rfl rfl rfl rfl rfl rfl rfl rfl rfl ?_;clear H;intro b7 _ H;simp only [Act.put,puA,puB,puC])|((with_reducible refine xm ?_);refine AtAppend.go (enc:=q7) H rfl rfl rfl rfl rfl (by decide) (by decide) rfl (xs:=acc) pk rfl (H.at pk) [q] rfl (by simp [zX,q7]) zL vj (by have:=HX4.out;simp;omega) ?_;clear H;intro ad9 cp9 _ H;simp only [Act.put,puA,puB,puC])|((with_reducible refine yy ?_);refine AtStore.rowAk (enc:=q7) (k:=1) (i:=q) (j:=0) H rfl rfl rfl rfl rfl rfl pk zL (HG1.out) (by omega) (by simp) an rfl ?_;clear H;intro _ H;simp only [Act.put,puA,puB,puC]));rw [KW HQ.out HSN.out.1] at H;have hes:esK (acc.map (yb m m.occ bl))++[(Value.string (strB key),Value.int .i64 (an:Nat))]=esK ((acc++[q]).map (yb m m.occ bl)):=by
          rw [qQ,QI,HKQ.out,WP,zE,HAN.out]
         rw [hes] at H;rw [HAN.out] at H ⊢;clear hes;go_roundg (ns-(i+1));case measure=>omega
         case rel=>exact ⟨i+1,acc++[q],key,rfl,by omega,by go_num,HSN.out.2.symm,by rw [← HKQ.out];exact HKL.out,H.picks (.cons pk (.cons pk (.cons pk (.cons pk (.cons pk (.cons pk .nil))))))⟩
     ·have e1:decide ((i:Int)<(ns:Int))=false:=(by simp;omega);have e1n:decide (i<ns)=false:=(by simp;omega);obtain rfl:ns=i:=by omega
      have hF:acc=yg m m.occ st bl:=by
       rw [HACC.out,zM (by rw [HIN.out.2.2.2.2.2.1];exact zp _)];rfl
      have hN:fnL n (nxP m m.occ st bl ns)=fnL n (jn m m.occ st bl):=x8 fun j _=>by
       unfold nxP jn;rw [zM (by rw [HIN.out.2.2.2.2.2.1];exact zp _)]
      rw [hN] at H;have HF:=zh hF;clear hN hF;by_cases he:an=nF
      ·have g8:((an:Int)==(nF:Int))=true:=(by simp [he]);have g8n:(an==nF)=true:=(by simp [he]);have hgo:=HI.out.stop (by rw [← HF.out,HAN.out,HNF.out];exact he);have HGO:=zh hgo;clear hgo he;go_wp2_with (first|refine sL ?_|(refine sS ?_;clear H;intros;rename_i H));refine bodyPost_ret (results_tmp2 rfl _ _ _) rfl ?_;rw [HGO.out,← HF.out];exact ⟨_,_,rfl,H.picks (.cons pk (.cons pk .nil))⟩
      ·have g8:((an:Int)==(nF:Int))=false:=(by simp;omega);have g8n:(an==nF)=false:=(by simp;omega);have hgo:=HI.out.next HIN.out.2.2.2.2.1 hn256 (by rw [← HF.out,HAN.out,HNF.out];exact he)
       have HGO:=zh hgo;clear hgo he;go_wp2_with (first|refine sL ?_|(refine sS ?_;clear H;intros;rename_i H));go_roundg f;case measure=>omega
       case rel=>exact ⟨f,g1,jn m m.occ st bl,acc,rfl,rfl,by rw [HF.out];exact HGO.out,H.picks (.cons pk (.cons pk (.cons pk .nil)))⟩
end
end Go.Proofs.YtminpdngkjlehaaDoor
