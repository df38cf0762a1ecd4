/-
  Part 3 of the texts behind the statements of this seat: walks and laws Kf, Kg, Kh, Lb, Lc, Ld, Le, Lf, Tz, Lg, Lh, Li. Conditions: as each states.
-/
import Derived.Test.YtminpdngkjlehaaDoorCq2
import Derived.ChangeKeysEq
import Derived.Ground.Names7Prog
import Derived.LaidEqlPtr
import Derived.Laws.BitsAllLaws
import Derived.Laws.Small
import Derived.Shelf.Spec.TrailingZeros
set_option linter.unusedSimpArgs false
set_option linter.unusedVariables false
set_option maxRecDepth 100000
set_option maxHeartbeats 80000000
open Array renaming getElem?_eq_some_iff→xk,getElem?_setIfInBounds→YX
open Bool renaming and_eq_true→zf,eq_false_iff→Qj,eq_iff_iff→q5,not_eq_eq_eq_not→zU,not_eq_false→qa,not_eq_true→qf,not_false→qn,not_true→qC,or_eq_true→qK
open Go.Proofs.Tryd renaming func33→Xb,func41→Y7,func58→qw,ntmps33→Y8,ntmps41→Qm,ntmps58→qg,prog→z6,underlying3→X1
open List renaming Perm→yd,append_assoc→y7,append_nil→xH,cons→je,cons_append→z7,drop_eq_getElem_cons→wR,drop_of_length_le→xg,drop_succ_cons→wO,drop_zero→y8,eq_nil_of_length_eq_zero→qI,ext_getElem?→yF,flatMap_cons→kR,foldl_cons→zQ,getD_eq_getElem?_getD→ze,getElem?_append_left→zv,getElem?_append_right→qu,getElem?_eq_none→zu,getElem?_map→zq,getElem?_mapIdx→yr,getElem?_replicate→yT,getElem?_set→jg,idxOf_append→yU,idxOf_lt_length_of_mem→yY,length_append→zN,length_map→zE,length_set→yi,length_singleton→qm,length_take→yD,map_append→qQ,map_cons→qU,map_nil→k6,map_singleton→QI,mem_append→zt,mem_append_left→q6,mem_append_right→qx,mem_cons→zG,mem_cons_of_mem→qv,mem_cons_self→zS,mem_flatMap→qP,mem_iff_getElem?→yj,mem_map→zC,mem_of_getElem?→zc,mem_range→zo,mem_singleton→zV,nil_append→z8,nodup_append→jr,nodup_iff_pairwise_ne→kS,pairwise_map→vd,range→zl,replicate→zI,take_length→vX,take_of_length_le→zM,take_zero→jG
open Nat renaming and_le_right→wP,eq_of_testBit_eq→yV,eq_zero_or_pos→qR,le_refl→zp,lt_or_ge→zD,min_eq_left→wi,mul_le_mul→Z5,mul_le_mul_right→kV,mul_one→kW,or_lt_two_pow→yH,pow_lt_pow_right→jO,testBit_and→qj,testBit_or→qH,testBit_two_pow_mul_add→we,zero_add→qA,zero_le→zH
open Option renaming getD_some→qV
namespace Go.Proofs.YtminpdngkjlehaaDoor
section
open Go.RowKit Go.Maps
attribute [local go_sem] qM
def clP (m:Mch) (bl:Nat->Nat) (F:List Nat) (i x:Nat):Nat:=if x<i then xO (yx m bl F) (wv m bl F) x else 0
theorem K6 {n i:Nat} (h:i<=n):(zl n).take i=zl i:=by
 rw [List.take_range,wi h]
theorem Ku {m:Mch} {bl:Nat->Nat} {F:List Nat} {i x:Nat} (hx:xO (yx m bl F) (wv m bl F) i=x) {n:Nat}:(fnL n (clP m bl F i)).set i x=fnL n (clP m bl F (i+1)):=by
 refine vH ?_ fun j hj=>?_
 ·unfold clP;rw [if_pos (by omega),hx]
 ·unfold clP;by_cases h:j<i
  ·rw [if_pos h,if_pos (by omega)]
  ·rw [if_neg h,if_neg (by omega)]
theorem ku {m:Mch} {bl:Nat->Nat} {F:List Nat} {x:Nat}:(yx m bl F x).length=F.length:=by simp [yx]
theorem keyL_get {m:Mch} {bl:Nat->Nat} {F:List Nat} {x j q:Nat} (h:F[j]?=some q):(yx m bl F x)[j]?=some (bl (m.ent q (m.cl x))):=by
 unfold yx;rw [zq,h];rfl
theorem JT {m:Mch} {bl:Nat->Nat} {F:List Nat} {i:Nat} (h:i<256):∃ r,wv m bl F=news (yx m bl F) [] (zl (i+1))++r:=by
 have:=Xz (f:=yx m bl F) (zl 256) (i+1);rwa [K6 (by omega)] at this
def nbF (l:List Nat) (b:Nat):Nat:=if b∈l then l.idxOf b+1 else 0
theorem KQ {l:List Nat} {x n:Nat} (h:x ∉ l):(fnL n (nbF l)).set x (l.length+1)=fnL n (nbF (l++[x])):=by
 refine vH ?_ fun j hj=>?_
 ·unfold nbF;rw [if_pos (by simp),yU,if_neg h];simp
 ·unfold nbF;by_cases h2:j∈l
  ·rw [if_pos h2,if_pos (by simp [h2]),yU,if_pos h2]
  ·rw [if_neg h2,if_neg (by simp [h2,hj])]
theorem nbF_one {x n:Nat} (h:x<n):(zI n 0).set x 1=fnL n (nbF [x]):=by
 have:=KQ (l:=[]) (x:=x) (n:=n) (by simp);rw [z8] at this;rw [← this];congr 1
 rw [← ko];exact x8 fun j _=>by simp [nbF]
structure BfIn (succ:Nat->List Nat) (G:List Nat) (n i:Nat) (l:List Nat):Prop where
 goal:bfs succ (n-i) i l=G
 nd:l.Nodup
 lt:∀ q∈l,q<n
 le:i<=l.length
structure BfJn (succ:Nat->List Nat) (G:List Nat) (n i j s:Nat) (l:List Nat):Prop where
 goal:bfs succ (n-(i+1)) (i+1) (((succ s).drop j).foldl ins l)=G
 nd:l.Nodup
 lt:∀ q∈l,q<n
 at_:l[i]?=some s
section
variable {succ:Nat->List Nat} {G l:List Nat} {n i j s:Nat}
theorem BfIn.enter (h:BfIn succ G n i l) (hs:l[i]?=some s):BfJn succ G n i 0 s l:=by
 have hl:=xU h.nd h.lt;have hi:=zP hs;refine ⟨?_,h.nd,h.lt,hs⟩;rw [← h.goal,y8,show n-i=(n-(i+1))+1 by omega,bfs,hs]
theorem BfJn.next {x:Nat} (h:BfJn succ G n i j s l) (hx:(succ s)[j]?=some x) (hq:x<n):BfJn succ G n i (j+1) s (ins l x):=by
 have hj:=zP hx;rw [zg hj] at hx;injection hx with hx
 refine ⟨?_,Xq h.nd,fun y hy=>?_,?_⟩
 ·rw [← h.goal,wR hj,zQ,hx]
 ·rcases mem_ins.1 hy with g|g
  ·exact h.lt y g
  ·rw [g];exact hq
 ·unfold ins;split
  ·exact h.at_
  ·rw [zv (zP h.at_)];exact h.at_
theorem BfJn.leave (h:BfJn succ G n i j s l) (hj:(succ s).length<=j):BfIn succ G n (i+1) l:=by
 have hg:=h.goal;rw [xg hj] at hg;exact ⟨hg,h.nd,h.lt,zP h.at_⟩
theorem BfIn.done (h:BfIn succ G n i l) (hi:l.length<=i):G=l:=by
 rw [← h.goal];cases n-i with
 |zero=>rfl
 |succ f=>rw [bfs,zu hi]
theorem jJ:∀ (r l:List Nat),∃ x,r.foldl ins l=l++x
 |[],l=>⟨[],by simp⟩
 |y::r,l=>by
  rw [zQ];obtain ⟨x,hx⟩:=jJ r (ins l y);obtain ⟨z,hz⟩:∃ z,ins l y=l++z:=by
   by_cases h:y∈l
   ·exact ⟨[],by rw [ins,if_pos h,xH]⟩
   ·exact ⟨[y],by rw [ins,if_neg h]⟩
  exact ⟨z++x,by rw [hx,hz,y7]⟩
theorem Yg:∀ (f i:Nat) (l:List Nat),∃ x,bfs succ f i l=l++x
 |0,_,l=>⟨[],by simp [bfs]⟩
 |f+1,i,l=>by
  rw [bfs];split
  ·exact ⟨[],by simp⟩
  ·rename_i s _;obtain ⟨x,hx⟩:=jJ (succ s) l;obtain ⟨y,hy⟩:=Yg f (i+1) ((succ s).foldl ins l);exact ⟨x++y,by rw [hy,hx,y7]⟩
theorem BfJn.pre (h:BfJn succ G n i j s l):∃ x,G=l++x:=by
 obtain ⟨x,hx⟩:=jJ ((succ s).drop j) l;obtain ⟨y,hy⟩:=Yg (succ:=succ) (n-(i+1)) (i+1) (((succ s).drop j).foldl ins l);exact ⟨x++y,by rw [← h.goal,hy,hx,y7]⟩
theorem BfIn.pre (h:BfIn succ G n i l):∃ x,G=l++x:=by
 obtain ⟨y,hy⟩:=Yg (succ:=succ) (n-i) i l;exact ⟨y,by rw [← h.goal,hy]⟩
end
def rowT (m:Mch) (bl:Nat->Nat) (F:List Nat) (b:Nat):List Nat:=(xD m bl F b).map fun d=>(yw m bl F).idxOf d
abbrev SlT:=Option Addr×Nat×Nat
def slV (r:SlT):Value:=.slice r.1 r.2.1 r.2.2
def xt (r:SlT):List Value:=[.slice r.1 r.2.1 r.2.2]
theorem vF (r:SlT):(xt r).length=1:=rfl
theorem Xl (r:SlT):∀ u∈xt r,u.oneCell'=true:=by
 intro u hu;simp only [xt,zV] at hu;subst hu;rfl
theorem KA:∀ (l:List SlT),zX xt l=zX Kz (l.map slV)
 |[]=>rfl
 |x::l=>by
  have:=KA l;unfold zX at this ⊢;rw [kR,qU,kR,this];rfl
theorem RowIn.ofSl {P:zT} {v:Value} {l:List SlT} (h:RowIn P xt 1 v l):RowIn P Kz 1 v (l.map slV):=by
 unfold RowIn at h ⊢;rw [zE,← KA];exact h
theorem WJ (b:Bool):∀ u∈xI b,u.oneCell'=true:=by
 intro u hu;simp only [xI,zV] at hu;subst hu;rfl
def RowsAt (P:zT) (rows:List SlT) (xs:List (List Nat)):Prop:=rows.length=xs.length∧∀ (i:Nat) (r:SlT) (x:List Nat),rows[i]?=some r->xs[i]?=some x->RowIn P q7 1 (slV r) x
theorem RowsAt.nil:RowsAt [] [] []:=⟨rfl,fun i r x h=>by simp at h⟩
theorem RowsAt.snoc {P Q:zT} {rows:List SlT} {xs:List (List Nat)} {r:SlT} {x:List Nat} (h:RowsAt P rows xs) (hr:RowIn Q q7 1 (slV r) x):RowsAt (Q++P) (rows++[r]) (xs++[x]):=by
 refine ⟨by rw [zN,zN,h.1];rfl,fun i r' x' h1 h2=>?_⟩;rcases zD i rows.length with hi|hi
 ·rw [zv hi] at h1;rw [zv (by rw [← h.1];exact hi)] at h2;exact (h.2 i r' x' h1 h2).mono fun y hy=>qx _ hy
 ·rw [qu hi] at h1;rw [qu (by rw [← h.1];exact hi),← h.1] at h2;have:i-rows.length=0:=by
   have:=zP h1;simp at this;omega
  rw [this] at h1 h2;simp at h1 h2;subst h1 h2;exact hr.mono fun y hy=>q6 _ hy
theorem clP_all {m:Mch} {bl:Nat->Nat} {F:List Nat} (n:Nat):fnL n (clP m bl F n)=(zl n).map (xO (yx m bl F) (wv m bl F)):=by
 unfold fnL;refine List.map_congr_left fun x hx=>?_
 unfold clP;rw [if_pos (zo.1 hx)]
theorem numM_is {m:Mch} {bl:Nat->Nat} {F:List Nat}:J6 m bl F=⟨fnL 256 (clP m bl F 256),(yw m bl F).map (rowT m bl F),(yw m bl F).map (fun b=>m.ac (F.getD b 0)),0⟩:=by
 rw [clP_all];exact Eq.refl (J6 m bl F)
attribute [local irreducible] fnL clP nbF rowT wv yw yx news bfs
def NuRelA (w:World) (b1 b6 b7 gc oc cc gn on_ cn ga oa ca n gl gk mb nF:Nat) (m:Mch) (bl:Nat->Nat) (F:List Nat) (mm:Nat) (v9 v34:Value) (wr:World):Prop :=
 ∃ (i:Nat) (acc kb:List Nat),mm=256-i∧i<=256∧v34=.int .i64 i∧acc=news (yx m bl F) [] (zl i)∧kb.length=nF∧St w [] [blk b1 (.cells #[.int .i64 m.start,.slice (some ⟨gc,oc,none⟩) 256 cc,.slice (some ⟨gn,on_,none⟩) n cn,.slice (some ⟨ga,oa,none⟩) n ca] 27),blk b6 (.cells #[.int .i64 0,.slice none 0 0,.slice none 0 0,.slice none 0 0] 27),blk b7 (.cells #[.int .i64 0,.slice (some ⟨gl,0,none⟩) 256 256,.slice none 0 0,.slice none 0 0] 27),zi q7 3 1 (.slice (some ⟨gl,0,none⟩) 256 256) (fnL 256 (clP m bl F i)),zi q7 3 1 v9 (acc.map m.cl),wX z6 9 mb (esK (acc.map (yx m bl F))),zi kH 5 1 (.slice (some ⟨gk,0,none⟩) nF nF) kb] wr
def NuRelB (w:World) (b1 b6 b7 gc oc cc gn on_ cn ga oa ca n gl gk mb nF:Nat) (v9:Value) (m:Mch) (bl:Nat->Nat) (F acc:List Nat) (i:Nat) (mm:Nat) (v41:Value) (wr:World):Prop :=
 ∃ (j:Nat) (kb:List Nat),mm=nF-j∧j<=nF∧v41=.int .i64 j∧KeyAt (yx m bl F i) kb j∧St w [] [blk b1 (.cells #[.int .i64 m.start,.slice (some ⟨gc,oc,none⟩) 256 cc,.slice (some ⟨gn,on_,none⟩) n cn,.slice (some ⟨ga,oa,none⟩) n ca] 27),blk b6 (.cells #[.int .i64 0,.slice none 0 0,.slice none 0 0,.slice none 0 0] 27),blk b7 (.cells #[.int .i64 0,.slice (some ⟨gl,0,none⟩) 256 256,.slice none 0 0,.slice none 0 0] 27),zi q7 3 1 (.slice (some ⟨gl,0,none⟩) 256 256) (fnL 256 (clP m bl F i)),zi q7 3 1 v9 (acc.map m.cl),wX z6 9 mb (esK (acc.map (yx m bl F))),zi kH 5 1 (.slice (some ⟨gk,0,none⟩) nF nF) kb] wr
def NuRelC (w:World) (b1 b6 b7 gc oc cc gn on_ cn ga oa ca n gl gu nF:Nat) (vcol:Value) (m:Mch) (bl:Nat->Nat) (F:List Nat) (mm:Nat) (v18 v19:Value) (wr:World):Prop :=
 ∃ (i:Nat) (l:List Nat) (PN:zT) (rows:List SlT) (vn va:Value),mm=nF-i∧v19=.int .i64 i∧BfIn (xD m bl F) (yw m bl F) nF i l∧RowsAt PN rows (((yw m bl F).take i).map (rowT m bl F))∧i<=256 ∧
  St w [] [blk b1 (.cells #[.int .i64 m.start,.slice (some ⟨gc,oc,none⟩) 256 cc,.slice (some ⟨gn,on_,none⟩) n cn,.slice (some ⟨ga,oa,none⟩) n ca] 27),blk b6 (.cells #[.int .i64 0,.slice none 0 0,.slice none 0 0,.slice none 0 0] 27),blk b7 (.cells #[.int .i64 0,.slice (some ⟨gl,0,none⟩) 256 256,vn,va] 27),zi q7 3 1 (.slice (some ⟨gl,0,none⟩) 256 256) (fnL 256 (clP m bl F 256)),zi q7 3 1 vcol ((wv m bl F).map m.cl),zi q7 3 1 (.slice (some ⟨gu,0,none⟩) nF nF) (fnL nF (nbF l)),zi q7 3 1 v18 l,zi xt 23 1 vn rows,zi xI 4 1 va (((yw m bl F).take i).map fun b=>m.ac (F.getD b 0)),zx PN] wr
def NuRelD (w:World) (b1 b6 b7 gc oc cc gn on_ cn ga oa ca n gl gu gr9 nF nc:Nat) (vcol vn va:Value) (m:Mch) (bl:Nat->Nat) (F:List Nat) (i b:Nat) (rows:List SlT) (accs:List Bool) (PN:zT) (mm:Nat) (v18 v121:Value) (wr:World):Prop :=
 ∃ (j:Nat) (l kb:List Nat),mm=nc-j∧j<=nc∧v121=.int .i64 j∧BfJn (xD m bl F) (yw m bl F) nF i j b l∧KeyAt (rowT m bl F b) kb j ∧
  St w [] [blk b1 (.cells #[.int .i64 m.start,.slice (some ⟨gc,oc,none⟩) 256 cc,.slice (some ⟨gn,on_,none⟩) n cn,.slice (some ⟨ga,oa,none⟩) n ca] 27),blk b6 (.cells #[.int .i64 0,.slice none 0 0,.slice none 0 0,.slice none 0 0] 27),blk b7 (.cells #[.int .i64 0,.slice (some ⟨gl,0,none⟩) 256 256,vn,va] 27),zi q7 3 1 (.slice (some ⟨gl,0,none⟩) 256 256) (fnL 256 (clP m bl F 256)),zi q7 3 1 vcol ((wv m bl F).map m.cl),zi q7 3 1 (.slice (some ⟨gu,0,none⟩) nF nF) (fnL nF (nbF l)),zi q7 3 1 v18 l,zi xt 23 1 vn rows,zi xI 4 1 va accs,zi q7 3 1 (.slice (some ⟨gr9,0,none⟩) nc nc) kb,zx PN] wr
attribute [local go_sem] StStep Jj Zi in
theorem number_c {P:zT} {vc vn va vb vf:Value} {m:Mch} {n k:Nat} {bl:Nat->Nat} {F st:List Nat} (h:MchIn P vc vn va m) (hm:m.Ok n k) (hn256:n<=256) (hk256:k<=256) (hS:Sts m n st) (hB:Blk m st bl F) (hb:RowIn P q7 1 vb (fnL n bl)) (hf:RowIn P q7 1 vf F) (w:World) (hp:(zx P).ho w) :
  Calls z6 46 #[.agg #[.int .i64 m.start,vc,vn,va],vb,vf] w fun e w'=>∃ vc' vn' va' P',e=.returned (.agg #[.int .i64 0,vc',vn',va'])∧MchIn P' vc' vn' va' (J6 m bl F)∧St w [] [zx P'] w':=by
 have H:=St.nil w [];have HK:Ks w [] [zx P]:=Ks.one hp;have h0:0<n:=(by have:=hm.start;omega);have hFl:F.length<=n:=by
  have hnd:F.Nodup:=by
   rw [kS,List.pairwise_iff_getElem];intro i j hi hj hij e;have a1:=hB.nums.num i _ (zg hi);have a2:=hB.nums.num j _ (zg hj);rw [e] at a1;omega
  exact xU hnd fun q hq=>hS.lt q (hB.nums.sub q hq)
 have hF0:0<F.length:=(by have:=hB.nums.lt _ hS.start;omega);obtain ⟨rows,hr1,hr2,hr3⟩:=h.nxt;rw [hm.nxt] at hr2;have hcl:=h.cls;obtain ⟨gc,oc,cc,rfl,_⟩:=h.cls.has (by rw [hm.cls];omega);rw [hm.cls] at hcl ⊢;obtain ⟨gn,on_,cn,rfl,_⟩:=hr1.has (by omega);rw [hr2] at hr1 ⊢;have hacl:=hm.acc;obtain ⟨ga,oa,ca,rfl,_⟩:=h.acc.has (by omega);have hacI:=h.acc;rw [hacl] at hacI ⊢;obtain ⟨gb,ob,cb,rfl,_⟩:=hb.has (by rw [j8];exact h0);rw [j8] at hb ⊢;obtain ⟨gf,of,cf,rfl,_⟩:=hf.has hF0;obtain ⟨nF,hnF⟩:∃ z,F.length=z:=⟨_,rfl⟩
 rw [hnF] at hf hFl hF0 ⊢;have HROW:Hid (∀ s c,s<n->c<k->∃ gr or cr,(∀ w,(zx P).ho w->w.cell? ⟨gn,on_+s,none⟩=some (.slice (some ⟨gr,or,none⟩) k cr))∧∀ w,(zx P).ho w->w.cell? ⟨gr,or+c,none⟩=some (.int .i64 (m.ent s c:Nat))):=zh fun s c hs hck=>by
  obtain ⟨r,hr⟩:∃ r,rows[s]?=some r:=⟨_,zg (by omega)⟩
  obtain ⟨x,hx⟩:∃ x,m.nxt[s]?=some x:=⟨_,zg (by rw [hm.nxt];exact hs)⟩
  have hxl:=hm.row x (zc hx);have hrr:=hr3 s r x hr hx;obtain ⟨gr,or,cr,rfl,_⟩:=hrr.has (by omega);rw [hxl] at hrr hr;refine ⟨gr,or,cr,fun w h=>by have:=hr1.cell h kh hr rfl;exact this,fun w h=>?_⟩;have he:x[c]?=some (m.ent s c):=by
   unfold Mch.ent;rw [ze (l:=m.nxt),hx];simp only [qV];rw [ze,zg (by omega)];rfl
  exact hrr.cell h zL he rfl
 have HIN:Hid (m.Ok n k∧Sts m n st∧Blk m st bl F∧F.length=nF):=zh ⟨hm,hS,hB,hnF⟩;have HCL:Hid (∀ x,x<256->m.cl x<k∧∀ w,(zx P).ho w->w.cell? ⟨gc,oc+x,none⟩=some (.int .i64 (m.cl x:Nat))):=zh fun x hx=>⟨hm.clt hx,fun w h=>by
  have he:m.cls[x]?=some (m.cl x):=by
   unfold Mch.cl;rw [ze,zg (by rw [hm.cls];exact hx)];rfl
  exact hcl.cell h zL he rfl⟩
 have HAC:Hid (∀ q,q<n->∀ w,(zx P).ho w->w.cell? ⟨ga,oa+q,none⟩=some (.bool (m.ac q))):=zh fun q hq w h=>by
  have he:m.acc[q]?=some (m.ac q):=by
   unfold Mch.ac;rw [ze,zg (by omega)];rfl
  exact hacI.cell h yW he rfl
 have HBL:Hid (∀ q,q<n->∀ w,(zx P).ho w->w.cell? ⟨gb,ob+q,none⟩=some (.int .i64 (bl q:Nat))):=zh fun q hq w h=>hb.cell h zL (xy hq) rfl
 have HF:Hid (∀ i q,F[i]?=some q->∀ w,(zx P).ho w->w.cell? ⟨gf,of+i,none⟩=some (.int .i64 (q:Nat))):=zh fun i q hi w h=>hf.cell h zL hi rfl
 have HST:Hid (∀ q x,q∈F->x<256->m.ent q (m.cl x)<n∧bl (m.ent q (m.cl x))<nF):=zh fun q x hq hx=>by
  have h1:=hS.step q (hB.nums.sub q hq) x hx;exact ⟨hS.lt _ h1,by rw [← hnF];exact hB.nums.lt _ h1⟩
 have HQN:Hid (∀ q∈F,q<n):=zh fun q hq=>hS.lt q (hB.nums.sub q hq)
 clear h hr1 hr2 hr3 hm hS hB hp hb hf hnF hcl hacI hacl;go_enter Tryd.func46,Tryd.ntmps46;go_wp2_with (first|refine sL ?_|(refine sS ?_;clear H;intros;rename_i H)|((with_reducible refine jl ?_);refine AtMk1.row (enc:=q7) H rfl rfl 256 rfl rfl rfl rfl rfl 0 rfl zL (by omega) (by omega) ?_;clear H;intro gl _ H;simp only [Act.put,puA,puB,puC])|((with_reducible refine vK ?_);refine AtMakeMap.go 9 H rfl rfl ?_;clear H;intro mb _ H;simp only [Act.put,puA,puB,puC])|((with_reducible refine jl ?_);refine AtMk1.row (enc:=kH) H rfl rfl nF rfl rfl rfl rfl rfl 0 rfl jH (by omega) (by omega) ?_;clear H;intro gk _ H;simp only [Act.put,puA,puB,puC]));rename_i b1 _ b6 _ _ b7 _ _ _ _ _ _;have hl0:zI 256 0=fnL 256 (clP m bl F 0):=by
  rw [← ko];exact x8 fun j _=>by unfold clP;rw [if_neg (by omega)]
 rw [hl0] at H;clear hl0;replace H:=H.empty (A:=zi q7 3 1 (.slice none 0 0) []) (yS _) (by rw [q9];rfl);have HSK:(esK []:List (Value×Value))=[]:=rfl;rw [← HSK] at H;clear HSK;go_loopg [9,34] 256 (fun mm v9 v34 wr=>NuRelA w b1 b6 b7 gc oc cc gn on_ cn ga oa ca n gl gk mb nF m bl F mm v9 v34 wr);case atStart=>exact ⟨0,[],zI nF 0,rfl,zH _,rfl,(by rw [List.range_zero,news]),(by simp),H.picks (.cons pk (.cons pk (.cons pk (.cons pk (.cons pk (.cons pk (.cons pk .nil)))))))⟩
 case round =>
  clear H;obtain ⟨i,acc,kb,rfl,hi,rfl,hacc,hkb,H⟩:=hrel;have hsub:∀ x∈acc,x<i:=fun x hx=>by
   rw [hacc] at hx;exact zo.1 ((xo (f:=yx m bl F) (zl i)).sub x hx)
  have hanL:acc.length<=256:=by
   have hN:=xo (f:=yx m bl F) (zl i);have hnd:acc.Nodup:=by
    rw [hacc];exact (vd.1 hN.nd).imp fun h e=>h (by rw [e])
   have:=xU hnd hsub;omega
  obtain ⟨ad9,c9,e9,_⟩:=zW (H.get (A:=zi q7 3 1 _ (acc.map m.cl)) pk);rw [zE] at e9;subst e9;obtain ⟨an,han⟩:∃ z,acc.length=z:=⟨_,rfl⟩
  have HAN:=zh han;have HACC:=zh hacc;have HSUB:=zh hsub;rw [han] at H hanL ⊢;clear han hacc hsub;by_cases hlt:i<256
  ·have e1:decide ((i:Int)<256)=true:=(by simp;omega);have e1n:decide (i<256)=true:=(by simp;omega);obtain ⟨hck,hcc⟩:=HCL.out i hlt;obtain ⟨c,hc⟩:∃ z,m.cl i=z:=⟨_,rfl⟩
   rw [hc] at hck hcc;have HC0:=zh hc;have HCC:=zh hcc;have hK0:KeyAt (yx m bl F i) kb 0:=⟨by rw [hkb,ku,HIN.out.2.2.2],rfl⟩
   have HK0:=zh hK0;clear hc hcc hK0 hkb;go_wp2_with (first|refine sL ?_|(refine sS ?_;clear H;intros;rename_i H));go_loopg [41] nF (fun mm v41 wr=>NuRelB w b1 b6 b7 gc oc cc gn on_ cn ga oa ca n gl gk mb nF (.slice ad9 an c9) m bl F acc i mm v41 wr);case atStart=>exact ⟨0,kb,rfl,zH _,rfl,HK0.out,H⟩
   case round =>
    clear H HK0;obtain ⟨j,kb,rfl,hj,rfl,hka,H⟩:=hrel;have HKA:=zh hka;by_cases hjl:j<nF
    ·have f1:decide ((j:Int)<(nF:Int))=true:=(by simp;omega);have f1n:decide (j<nF)=true:=(by simp;omega);obtain ⟨q,hq⟩:∃ q,F[j]?=some q:=⟨_,zg (by rw [HIN.out.2.2.2];exact hjl)⟩
     have HQ:=zh hq;have HF1:=zh (HF.out j q hq);have hqn:=HQN.out q (zc hq);obtain ⟨hs1,hs2⟩:=HST.out q i (zc hq) hlt;rw [HC0.out] at hs1 hs2;obtain ⟨gr,or,cr,hc1,hc2⟩:=HROW.out q c hqn hck;have HR1:=zh hc1;obtain ⟨s,hs⟩:∃ z,m.ent q c=z:=⟨_,rfl⟩
     rw [hs] at hc2 hs1 hs2;have HR2:=zh hc2;have HS:=zh hs;have hb3:=HBL.out s hs1;obtain ⟨bs,hbs⟩:∃ z,bl s=z:=⟨_,rfl⟩
     rw [hbs] at hb3 hs2;have HBS:=zh hbs;have HB3:=zh hb3;obtain ⟨kj,hkj⟩:=hka.get (i:=j) (by rw [ku,HIN.out.2.2.2];exact hjl);have HKJ:=zh hkj;have hbs256:bs<256:=(by omega);clear hq hc1 hc2 hs hb3 hbs hka hkj;have f2:decide ((c:Int)<(k:Int))=true:=(by simp;omega);have f2n:decide (c<k)=true:=(by simp;omega);have f3:decide ((s:Int)<(n:Int))=true:=(by simp;omega);have f3n:decide (s<n)=true:=(by simp;omega);have f4:decide ((q:Int)<(n:Int))=true:=(by simp;omega);have f4n:decide (q<n)=true:=(by simp;omega);go_wp2_with (first|refine sL ?_|(refine sS ?_;clear H;intros;rename_i H)|((with_reducible refine yy ?_);refine AtStore.rowAk (enc:=kH) (k:=1) (i:=j) (j:=0) H rfl rfl rfl rfl rfl rfl pk jH (HKJ.out) (by omega) (by simp) bs rfl ?_;clear H;intro _ H;simp only [Act.put,puA,puB,puC]));go_roundg (nF-(j+1));case measure=>omega
     case rel=>exact ⟨j+1,kb.set j bs,rfl,by omega,by go_num,HKA.out.set (by rw [keyL_get HQ.out,HC0.out,HS.out,HBS.out]),H.picks (.cons pk (.cons pk (.cons pk (.cons pk (.cons pk (.cons pk (.cons pk .nil)))))))⟩
    ·have f1:decide ((j:Int)<(nF:Int))=false:=(by simp;omega);have f1n:decide (j<nF)=false:=(by simp;omega);obtain rfl:nF=j:=by omega
     obtain rfl:=hka.all (by rw [ku,HIN.out.2.2.2];exact zp _);clear hka HKA;have hkeyb:∀ x,x<256->∀ y∈yx m bl F x,y<256:=fun x hx y hy=>by
      unfold yx at hy;obtain ⟨q,hq,rfl⟩:=zC.1 hy;have:=(HST.out q x hq hx).2;omega
     have hkey:∀ y∈yx m bl F i,y<256:=hkeyb i hlt;have HC:Hid (∀ (v:Value) w,(zi kH 5 1 v (yx m bl F i)).ho w->(convert 53 9 v).run z6 w=.ok (.string (strB (yx m bl F i))) w):=zh fun v w h=>Yj hkey h
     have hbs:∀ x∈acc.map (yx m bl F),∀ y∈x,y<256:=fun x hx y hy=>by
      obtain ⟨z,hz,rfl⟩:=zC.1 hx;exact hkeyb z (by have:=HSUB.out z hz;omega) y hy
     have HBS:=zh hbs;have hpart:=JT (m:=m) (bl:=bl) (F:=F) hlt;have hrs:zl (i+1)=zl i++[i]:=List.range_succ;have hsy:yx m bl F i∈acc.map (yx m bl F)->news (yx m bl F) [] (zl (i+1))=acc:=fun h=>by
      rw [hrs,J1 (by rw [← HACC.out];exact h),← HACC.out]
     have hsn:yx m bl F i ∉ acc.map (yx m bl F)->news (yx m bl F) [] (zl (i+1))=acc++[i]:=fun h=>by
      rw [hrs,KR (by rw [← HACC.out];exact h),← HACC.out]
     have hng:yx m bl F i∈acc.map (yx m bl F)->(acc.map (yx m bl F))[xO (yx m bl F) acc i]?=some (yx m bl F i):=J3;have hlen:(yx m bl F i).length<=257:=(by rw [ku,HIN.out.2.2.2];omega);obtain ⟨key,hkq⟩:∃ z,yx m bl F i=z:=⟨_,rfl⟩
     have HKQ:=zh hkq;rw [hkq] at H HC hkey hlen hsn hsy hng;have HLEN:=zh hlen;have HKEY2:=zh hkey;clear hkey hlen hbs hkq hrs hkeyb;by_cases hin:key∈acc.map (yx m bl F)
     ·replace hsn:=hsy hin;replace hng:=hng hin;clear hsy;obtain ⟨x,hx⟩:∃ z,xO (yx m bl F) acc i=z:=⟨_,rfl⟩
      rw [hx] at hng;have hnum:xO (yx m bl F) (wv m bl F) i=x:=by
       rw [hsn] at hpart;rw [J5 hpart (by rw [HKQ.out];exact hin)];exact hx
      have HLK:Hid (∀ w,(wX z6 9 mb (esK (acc.map (yx m bl F)))).ho w->(Instr.lookup 118 (.map (some mb)) (.string (strB key)) true).run z6 w=.ok (.tuple #[.int .i64 (x:Nat),.bool true]) w):=zh fun w h=>Xv h HBS.out (by rw [HACC.out];exact (xo (f:=yx m bl F) (zl i)).nd) hng HLEN.out
      have HSN:=zh (za hnum hsn);have HG1:Hid ((fnL 256 (clP m bl F i))[i]?=some (clP m bl F i i)):=zh (xy hlt);clear hx hng hnum hsn hpart hin;go_wp2_with (first|refine sL ?_|(refine sS ?_;clear H;intros;rename_i H)|((with_reducible refine Q7 ?_);refine AtConv.go rfl rfl rfl (HC.out _ _ (H.get pk)) ?_;simp only [Act.put,puA,puB,puC])|((with_reducible refine vo ?_);refine AtLook.go rfl rfl rfl _ (HLK.out _ (H.get pk)) rfl ?_;simp only [Act.put,puA,puB,puC])|((with_reducible refine yy ?_);refine AtStore.rowAk (enc:=q7) (k:=1) (i:=i) (j:=0) H rfl rfl rfl rfl rfl rfl pk zL (HG1.out) (by omega) (by simp) x rfl ?_;clear H;intro _ H;simp only [Act.put,puA,puB,puC]));rw [Ku HSN.out.1] at H;go_roundg (256-(i+1));case measure=>omega
      case rel=>exact ⟨i+1,acc,key,rfl,by omega,by go_num,HSN.out.2.symm,by rw [← HKQ.out,ku];exact HIN.out.2.2.2,H.picks (.cons pk (.cons pk (.cons pk (.cons pk (.cons pk (.cons pk (.cons pk .nil)))))))⟩
     ·replace hsn:=hsn hin;clear hsy hng;have hnum:xO (yx m bl F) (wv m bl F) i=an:=by
       rw [hsn] at hpart;rw [J4 hpart (by rw [HKQ.out];exact hin)];exact HAN.out
      have HLK:Hid (∀ w,(wX z6 9 mb (esK (acc.map (yx m bl F)))).ho w->(Instr.lookup 118 (.map (some mb)) (.string (strB key)) true).run z6 w=.ok (.tuple #[.int .i64 0,.bool false]) w):=zh fun w h=>Yv h HBS.out hin HKEY2.out HLEN.out
      have HKY:Hid ((∃ l,keyOf z6 9 (.string (strB key))=some l)∧∀ e∈esK (acc.map (yx m bl F)),e.1≠.string (strB key)):=zh ⟨Y1 HLEN.out,esK_no HBS.out HKEY2.out hin⟩;have HSN:=zh (za hnum hsn);have HG1:Hid ((fnL 256 (clP m bl F i))[i]?=some (clP m bl F i i)):=zh (xy hlt);have HX4:Hid ((acc.map m.cl).length=an∧an<=256):=zh ⟨by rw [zE];exact HAN.out,hanL⟩;clear hnum hsn hpart hin;go_wp2_with (first|refine sL ?_|(refine sS ?_;clear H;intros;rename_i H)|((with_reducible refine Q7 ?_);refine AtConv.go rfl rfl rfl (HC.out _ _ (H.get pk)) ?_;simp only [Act.put,puA,puB,puC])|((with_reducible refine vo ?_);refine AtLook.go rfl rfl rfl _ (HLK.out _ (H.get pk)) rfl ?_;simp only [Act.put,puA,puB,puC])|((with_reducible refine ZA ?_);refine AtUpdate.new (k:=.string (strB key)) (v:=.int .i64 (an:Nat)) QV XW H rfl rfl rfl pk rfl rfl HKY.out.1.choose_spec HKY.out.2 ?_;clear H;intro _ H;simp only [Act.put,puA,puB,puC])|((with_reducible refine ym ?_);refine AtSlice.one H rfl rfl rfl rfl rfl rfl rfl rfl rfl ?_;clear H;intro b9 _ H;simp only [Act.put,puA,puB,puC])|((with_reducible refine xm ?_);refine AtAppend.go (enc:=q7) H rfl rfl rfl rfl rfl (by decide) (by decide) rfl (xs:=acc.map m.cl) pk rfl (H.at pk) [c] rfl (by simp [zX,q7]) zL vj (by have:=HX4.out;simp at this ⊢;omega) ?_;clear H;intro ad9 cp9 _ H;simp only [Act.put,puA,puB,puC])|((with_reducible refine yy ?_);refine AtStore.rowAk (enc:=q7) (k:=1) (i:=i) (j:=0) H rfl rfl rfl rfl rfl rfl pk zL (HG1.out) (by omega) (by simp) an rfl ?_;clear H;intro _ H;simp only [Act.put,puA,puB,puC]));rw [Ku HSN.out.1] at H;have hes:esK (acc.map (yx m bl F))++[(Value.string (strB key),Value.int .i64 (an:Nat))]=esK ((acc++[i]).map (yx m bl F)):=by
       rw [qQ,QI,HKQ.out,WP,zE,HAN.out]
      have hcs:acc.map m.cl++[c]=(acc++[i]).map m.cl:=(by rw [qQ,QI,HC0.out]);rw [hes,hcs] at H;clear hes hcs;try rw [HX4.out.1] at H
      try rw [HX4.out.1]
      try rw [HAN.out] at H
      try rw [HAN.out]
      go_roundg (256-(i+1));case measure=>omega
      case rel=>exact ⟨i+1,acc++[i],key,rfl,by omega,by go_num,HSN.out.2.symm,by rw [← HKQ.out,ku];exact HIN.out.2.2.2,H.picks (.cons pk (.cons pk (.cons pk (.cons pk (.cons pk (.cons pk (.cons pk .nil)))))))⟩
  ·have e1:decide ((i:Int)<256)=false:=(by simp;omega);have e1n:decide (i<256)=false:=(by simp;omega);obtain rfl:i=256:=by omega
   obtain rfl:acc=wv m bl F:=by
    have:=HACC.out;unfold wv;exact this
   have hst:=HIN.out.1.start;have hb0:=HBL.out m.start hst;have hb0l:bl m.start<nF:=(by rw [← HIN.out.2.2.2];exact HIN.out.2.2.1.nums.lt _ HIN.out.2.1.start);obtain ⟨bs,hbs⟩:∃ z,bl m.start=z:=⟨_,rfl⟩
   rw [hbs] at hb0 hb0l;have HBS:=zh hbs;have HB0:=zh hb0;have d1:decide ((m.start:Int)<(n:Int))=true:=(by simp;omega);have d1n:decide (m.start<n)=true:=(by simp;omega);have d2:decide ((bs:Int)<(nF:Int))=true:=(by simp;omega);have d2n:decide (bs<nF)=true:=(by simp;omega);have HG0:Hid ((zI nF 0)[bs]?=some 0):=zh (by rw [yT,if_pos hb0l]);clear hb0 hbs;go_wp2_with (first|refine sL ?_|(refine sS ?_;clear H;intros;rename_i H)|((with_reducible refine jl ?_);refine AtMk1.row (enc:=q7) H rfl rfl nF rfl rfl rfl rfl rfl 0 rfl zL (by omega) (by omega) ?_;clear H;intro gu _ H;simp only [Act.put,puA,puB,puC])|((with_reducible refine yy ?_);refine AtStore.rowAk (enc:=q7) (k:=1) (i:=bs) (j:=0) H rfl rfl rfl rfl rfl rfl pk zL (HG0.out) (by omega) (by simp) 1 rfl ?_;clear H;intro _ H;simp only [Act.put,puA,puB,puC])|((with_reducible refine ym ?_);refine AtSlice.one H rfl rfl rfl rfl rfl rfl rfl rfl rfl ?_;clear H;intro b9 _ H;simp only [Act.put,puA,puB,puC]));rw [nbF_one hb0l] at H;replace H:=blk_rows (enc:=q7) (k:=1) (n:=1) (c:=1) (xs:=[bs]) zL (H.pick (A:=blk b9 (.cells #[.int .i64 (bs:Nat)] 3)) pk) (zp _) (by simp [maxLen]) rfl rfl rfl;replace H:=H.empty (A:=zi xt 23 1 (.slice none 0 0) []) (yS _) (by rw [q9];rfl);replace H:=H.empty (A:=zi xI 4 1 (.slice none 0 0) []) (yS _) (by rw [q9];rfl);replace H:=H.empty (A:=zx []) (ky _) (by rw [xf];rfl);have HBI:Hid (BfIn (xD m bl F) (yw m bl F) nF 0 [bs]):=zh ⟨by
    unfold yw;rw [HBS.out,HIN.out.2.2.2];rfl,by simp,by simpa using hb0l,zH _⟩
   have han0:0<an:=by
    rw [← HAN.out];have h1:yx m bl F 0∈(wv m bl F).map (yx m bl F):=(lets_of (m:=m) (bl:=bl) (F:=F)).all 0 (zo.2 (by omega));have:=List.length_pos_of_mem h1;rwa [zE] at this
   obtain ⟨gco,cco,ec,_⟩:=qF (H.get (A:=zi q7 3 1 _ ((wv m bl F).map m.cl)) pk) (by rw [zE,HAN.out];exact han0);rw [zE,HAN.out] at ec;injection ec with ec _ ec2
   subst ec ec2;have HLETS:Hid (∀ x∈wv m bl F,x<256):=zh HSUB.out;have HCO:Hid (∀ j x,(wv m bl F)[j]?=some x->∀ w,(zi q7 3 1 (.slice (some ⟨gco,0,none⟩) an c9) ((wv m bl F).map m.cl)).ho w->w.cell? ⟨gco,j,none⟩=some (.int .i64 (m.cl x:Nat))):=zh fun j x hj w h=>by
    have hg:((wv m bl F).map m.cl)[j]?=some (m.cl x):=(by rw [zq,hj];rfl);have:=qL h zL hg (j:=0) rfl;simpa using this
   have HBSL:Hid (∀ b j x,(wv m bl F)[j]?=some x->(xD m bl F b)[j]?=some (bl (m.ent (F.getD b 0) (m.cl x)))):=zh fun b j x hj=>by
    unfold xD;rw [zq,hj];rfl
   have HBLN:Hid (∀ b,(xD m bl F b).length=an):=zh fun b=>by
    unfold xD;rw [zE];exact HAN.out
   have HRT:Hid (∀ b,(rowT m bl F b).length=an):=zh fun b=>by
    unfold rowT;rw [zE];exact HBLN.out b
   have HRTG:Hid (∀ b j d,(xD m bl F b)[j]?=some d->(rowT m bl F b)[j]?=some ((yw m bl F).idxOf d)):=zh fun b j d hj=>by
    unfold rowT;rw [zq,hj];rfl
   clear HB0 HG0 HBS;go_loopg [18,19] nF (fun mm v18 v19 wr=>NuRelC w b1 b6 b7 gc oc cc gn on_ cn ga oa ca n gl gu nF (.slice (some ⟨gco,0,none⟩) an c9) m bl F mm v18 v19 wr);case atStart=>exact ⟨0,[bs],[],[],.slice none 0 0,.slice none 0 0,rfl,rfl,HBI.out,(by rw [jG];exact RowsAt.nil),zH _,H.picks (.cons pk (.cons pk (.cons pk (.cons pk (.cons pk (.cons pk (.cons pk (.cons pk (.cons pk (.cons pk .nil))))))))))⟩
   case round =>
    clear H HBI;obtain ⟨i,l,PN,rows,vn,va,rfl,rfl,hbi,hrows,hi256,H⟩:=hrel;have HBI:=zh hbi;have HRO:=zh hrows;obtain ⟨adl,cl,rfl,_⟩:=zW (H.get (A:=zi q7 3 1 _ l) pk);obtain ⟨ll,hll⟩:∃ z,l.length=z:=⟨_,rfl⟩
    have HLL:=zh hll;rw [hll] at H ⊢;have hlln:ll<=nF:=(by rw [← hll];exact xU hbi.nd hbi.lt);clear hbi hrows hll;by_cases hlt:i<ll
    ·have e1:decide ((i:Int)<(ll:Int))=true:=(by simp;omega);have e1n:decide (i<ll)=true:=(by simp;omega);obtain ⟨b,hb⟩:∃ b,l[i]?=some b:=⟨_,zg (by rw [HLL.out];exact hlt)⟩
     have hbl:=HBI.out.lt b (zc hb);have hbord:(yw m bl F)[i]?=some b:=by
      obtain ⟨x,hx⟩:=HBI.out.pre;rw [hx,zv (zP hb)];exact hb
     have HBO:=zh hbord;have HJ0:=zh (HBI.out.enter hb);obtain ⟨q,hq⟩:∃ q,F[b]?=some q:=⟨_,zg (by rw [HIN.out.2.2.2];exact hbl)⟩
     have HQD:Hid (F.getD b 0=q):=zh (by rw [ze,hq];rfl);have hqn:=HQN.out q (zc hq);have HQM:Hid (q∈F):=zh (zc hq);have HF1:=zh (HF.out b q hq);obtain ⟨gor,cor,eo,_⟩:=qF (H.get (A:=zi q7 3 1 _ l) pk) (by rw [HLL.out];omega);rw [HLL.out] at eo;injection eo with eo _ eo2
     subst eo eo2;have HOR:Hid (∀ w,(zi q7 3 1 (.slice (some ⟨gor,0,none⟩) ll cl) l).ho w->w.cell? ⟨gor,i,none⟩=some (.int .i64 (b:Nat))):=zh fun w h=>by
      have:=qL h zL hb (j:=0) rfl;simpa using this
     obtain ⟨ab,hab⟩:∃ z,m.ac q=z:=⟨_,rfl⟩
     have HAB:=zh hab;have ha6:=HAC.out q hqn;rw [hab] at ha6;have HA6:=zh ha6;clear hb hq hbord hab ha6;have e2:decide ((b:Int)<(nF:Int))=true:=(by simp;omega);have e2n:decide (b<nF)=true:=(by simp;omega);have e3:decide ((q:Int)<(n:Int))=true:=(by simp;omega);have e3n:decide (q<n)=true:=(by simp;omega);go_wp2_with (first|refine sL ?_|(refine sS ?_;clear H;intros;rename_i H)|((with_reducible refine jl ?_);refine AtMk1.row (enc:=q7) H rfl rfl an rfl rfl rfl rfl rfl 0 rfl zL (by omega) (by omega) ?_;clear H;intro gr9 _ H;simp only [Act.put,puA,puB,puC]));have HK0:Hid (KeyAt (rowT m bl F b) (zI an 0) 0):=zh ⟨by rw [HRT.out];simp,rfl⟩;go_loopg [18,121] an (fun mm v18 v121 wr=>NuRelD w b1 b6 b7 gc oc cc gn on_ cn ga oa ca n gl gu gr9 nF an (.slice (some ⟨gco,0,none⟩) an c9) vn va m bl F i b rows (((yw m bl F).take i).map fun b=>m.ac (F.getD b 0)) PN mm v18 v121 wr);case atStart=>exact ⟨0,l,zI an 0,rfl,zH _,rfl,HJ0.out,HK0.out,H.picks (.cons pk (.cons pk (.cons pk (.cons pk (.cons pk (.cons pk (.cons pk (.cons pk (.cons pk (.cons pk (.cons pk .nil)))))))))))⟩
     case round =>
      clear H HK0 HJ0 HOR HLL;obtain ⟨j,l,kb,rfl,hj,rfl,hbj,hka,H⟩:=hrel;have HBJ:=zh hbj;have HKA:=zh hka;obtain ⟨adl,cl,rfl,_⟩:=zW (H.get (A:=zi q7 3 1 _ l) pk);obtain ⟨l2,hl2⟩:∃ z,l.length=z:=⟨_,rfl⟩
      have HL2:=zh hl2;rw [hl2] at H ⊢;have hl2n:l2<=nF:=(by rw [← hl2];exact xU hbj.nd hbj.lt);clear hbj hl2;by_cases hjl:j<an
      ·have f1:decide ((j:Int)<(an:Int))=true:=(by simp;omega);have f1n:decide (j<an)=true:=(by simp;omega);obtain ⟨x,hx⟩:∃ x,(wv m bl F)[j]?=some x:=⟨_,zg (by rw [HAN.out];exact hjl)⟩
       have hx256:=HLETS.out x (zc hx);have hco:=HCO.out j x hx;obtain ⟨hck,_⟩:=HCL.out x hx256;obtain ⟨c,hc⟩:∃ z,m.cl x=z:=⟨_,rfl⟩
       obtain ⟨hs1,hs2⟩:=HST.out q x HQM.out hx256;have hbs:=HBSL.out b j x hx;rw [HQD.out] at hbs;rw [hc] at hco hck hs1 hs2 hbs;have HC1:=zh hco;obtain ⟨gr,or,cr,hc1,hc2⟩:=HROW.out q c hqn hck;have HR1:=zh hc1;obtain ⟨s,hs⟩:∃ z,m.ent q c=z:=⟨_,rfl⟩
       rw [hs] at hc2 hs1 hs2 hbs;have HR2:=zh hc2;have hb3:=HBL.out s hs1;obtain ⟨d,hd⟩:∃ z,bl s=z:=⟨_,rfl⟩
       rw [hd] at hb3 hs2 hbs;have HB3:=zh hb3;have HNX:=zh (HBJ.out.next hbs hs2);have HRG:=zh (HRTG.out b j d hbs);obtain ⟨kj,hkj⟩:=hka.get (i:=j) (by rw [HRT.out];exact hjl);have HKJ:=zh hkj;clear hx hco hc hbs hc1 hc2 hs hb3 hd hkj hka;have f2:decide ((c:Int)<(k:Int))=true:=(by simp;omega);have f2n:decide (c<k)=true:=(by simp;omega);have f3:decide ((s:Int)<(n:Int))=true:=(by simp;omega);have f3n:decide (s<n)=true:=(by simp;omega);have f4:decide ((d:Int)<(nF:Int))=true:=(by simp;omega);have f4n:decide (d<nF)=true:=(by simp;omega);have HG1:Hid ((fnL nF (nbF l))[d]?=some (nbF l d)):=zh (xy hs2);by_cases hin:d∈l
       ·obtain ⟨p,hp⟩:∃ z,l.idxOf d=z:=⟨_,rfl⟩
        have hpl:p<l2:=(by rw [← hp,← HL2.out];exact yY hin);obtain ⟨pp,hpp⟩:∃ z,p+1=z:=⟨_,rfl⟩
        have hnb:nbF l d=pp:=by
         unfold nbF;rw [if_pos hin,hp,hpp]
        have HN1:Hid (∀ w,(zi q7 3 1 (.slice (some ⟨gu,0,none⟩) nF nF) (fnL nF (nbF l))).ho w->w.cell? ⟨gu,d,none⟩=some (.int .i64 (pp:Nat))):=zh fun w h=>by
         have:=qL h zL HG1.out (j:=0) rfl;rw [hnb] at this;simpa using this
        have g1:((pp:Int)==0)=false:=(by simp;omega);have g1n:(pp==0)=false:=(by simp;omega);have g2:(pp:Int)-1=(p:Nat):=(by omega);have hins:ins l d=l:=(by unfold ins;rw [if_pos hin]);have hix:(yw m bl F).idxOf d=p:=by
         obtain ⟨r,hr⟩:=HBJ.out.pre;rw [hr,yU,if_pos hin,hp]
        have HIX:=zh (za hins hix);clear hin hp hpp hnb hins hix HG1;go_wp2_with (first|refine sL ?_|(refine sS ?_;clear H;intros;rename_i H)|((with_reducible refine yy ?_);refine AtStore.rowAk (enc:=q7) (k:=1) (i:=j) (j:=0) H rfl rfl rfl rfl rfl rfl pk zL (HKJ.out) (by omega) (by simp) p rfl ?_;clear H;intro _ H;simp only [Act.put,puA,puB,puC]));go_roundg (an-(j+1));case measure=>omega
        case rel=>exact ⟨j+1,l,kb.set j p,rfl,by omega,by go_num,by have:=HNX.out;rwa [HIX.out.1] at this,HKA.out.set (by rw [HRG.out,HIX.out.2]),H.picks (.cons pk (.cons pk (.cons pk (.cons pk (.cons pk (.cons pk (.cons pk (.cons pk (.cons pk (.cons pk (.cons pk .nil)))))))))))⟩
       ·have hnb:nbF l d=0:=by
         unfold nbF;rw [if_neg hin]
        have HN1:Hid (∀ w,(zi q7 3 1 (.slice (some ⟨gu,0,none⟩) nF nF) (fnL nF (nbF l))).ho w->w.cell? ⟨gu,d,none⟩=some (.int .i64 0)):=zh fun w h=>by
         have:=qL h zL HG1.out (j:=0) rfl;rw [hnb] at this;simpa using this
        have HN2:Hid (∀ w,(zi q7 3 1 (.slice (some ⟨gu,0,none⟩) nF nF) ((fnL nF (nbF l)).set d (l2+1))).ho w->w.cell? ⟨gu,d,none⟩=some (.int .i64 ((l2:Int)+1))):=zh fun w h=>by
         have:=qL (i:=d) (x:=l2+1) h zL (by rw [jg];simp [j8,hs2]) (j:=0) rfl;simpa using this
        have g2:(l2:Int)+1-1=(l2:Nat):=(by omega);have hins:ins l d=l++[d]:=(by unfold ins;rw [if_neg hin]);have hix:(yw m bl F).idxOf d=l2:=by
         obtain ⟨r,hr⟩:=HNX.out.pre;rw [hins] at hr;rw [hr,yU,if_pos (by simp),yU,if_neg hin,HL2.out];simp
        have HIX:=zh (za hins hix);have HNI:=zh hin;have HX4:Hid (l.length=l2∧l2<=256):=zh ⟨HL2.out,by omega⟩;clear hin hnb hins hix;go_wp2_with (first|refine sL ?_|(refine sS ?_;clear H;intros;rename_i H)|((with_reducible refine ym ?_);refine AtSlice.one H rfl rfl rfl rfl rfl rfl rfl rfl rfl ?_;clear H;intro b9 _ H;simp only [Act.put,puA,puB,puC])|((with_reducible refine xm ?_);refine AtAppend.goN (enc:=q7) H rfl rfl rfl rfl rfl (by decide) (by decide) rfl (xs:=l) pk rfl (H.at pk) [d] rfl (by simp [zX,q7]) zL vj (by have:=HX4.out;simp at this ⊢;omega) HX4.out.1 ?_;clear H;intro ad9 cp9 _ H;simp only [Act.put,puA,puB,puC])|((with_reducible refine yy ?_);refine AtStore.rowAk (enc:=q7) (k:=1) (i:=d) (j:=0) H rfl rfl rfl rfl rfl rfl pk zL (HG1.out) (by omega) (by simp) (l2+1) rfl ?_;clear H;intro _ H;simp only [Act.put,puA,puB,puC])|((with_reducible refine yy ?_);refine AtStore.rowAk (enc:=q7) (k:=1) (i:=j) (j:=0) H rfl rfl rfl rfl rfl rfl pk zL (HKJ.out) (by omega) (by simp) l2 rfl ?_;clear H;intro _ H;simp only [Act.put,puA,puB,puC]));try rw [HL2.out] at H
        try rw [HL2.out]
        have hset:=KQ (l:=l) (x:=d) (n:=nF) HNI.out;rw [HL2.out] at hset;rw [hset] at H;clear hset;go_roundg (an-(j+1));case measure=>omega
        case rel=>exact ⟨j+1,l++[d],kb.set j l2,rfl,by omega,by go_num,by have:=HNX.out;rwa [HIX.out.1] at this,HKA.out.set (by rw [HRG.out,HIX.out.2]),H.picks (.cons pk (.cons pk (.cons pk (.cons pk (.cons pk (.cons pk (.cons pk (.cons pk (.cons pk (.cons pk (.cons pk .nil)))))))))))⟩
      ·have f1:decide ((j:Int)<(an:Int))=false:=(by simp;omega);have f1n:decide (j<an)=false:=(by simp;omega);obtain rfl:an=j:=by omega
       obtain rfl:=hka.all (by rw [HRT.out];exact zp _);clear hka HKA;have HLV:=zh (HBJ.out.leave (by rw [HBLN.out];exact zp _));obtain ⟨PR,hPR,H⟩:=(H.pick (A:=zi q7 3 1 _ (rowT m bl F b)) pk).to_pool zL;replace H:=(H.pick2 (A:=zx PR) (B:=zx PN) pk pk).pool_add;have HSN:=zh (HRO.out.snoc (r:=((some ⟨gr9,0,none⟩,an,an):SlT)) hPR);have hrl:rows.length=i:=by
        rw [HRO.out.1,zE,yD,wi (by have:=zP HBO.out;omega)]
       have HRL:=zh hrl;obtain ⟨adn,cnn,rfl,_⟩:=zW (H.get (A:=zi xt 23 1 _ rows) pk);rw [hrl] at H;obtain ⟨accs,hac⟩:∃ z,((yw m bl F).take i).map (fun b=>m.ac (F.getD b 0))=z:=⟨_,rfl⟩
       have HACS:=zh hac;have hacl:accs.length=i:=by
        rw [← hac,zE,yD,wi (by have:=zP HBO.out;omega)]
       rw [hac] at H;have HAL:Hid (accs.length=i∧i<=256):=zh ⟨hacl,hi256⟩;have HAL2:Hid ((accs++[ab]).length=i+1):=zh (by simp [hacl]);clear hPR hrl hac hacl;go_wp2_with (first|refine sL ?_|(refine sS ?_;clear H;intros;rename_i H)|((with_reducible refine ym ?_);refine AtSlice.one H rfl rfl rfl rfl rfl rfl rfl rfl rfl ?_;clear H;intro b9 _ H;simp only [Act.put,puA,puB,puC])|((with_reducible refine xm ?_);refine AtAppend.goN (enc:=xt) H rfl rfl rfl rfl rfl (by decide) (by decide) rfl (xs:=rows) pk rfl (H.at pk) [((some ⟨gr9,0,none⟩,an,an):SlT)] rfl (by simp [zX,xt]) vF Xl (by have:=HRL.out;simp;omega) HRL.out ?_;clear H;intro ad9 cp9 _ H;simp only [Act.put,puA,puB,puC]));replace H:=H.picks (.cons (A:=zi xI 4 1 va accs) pk (.cons (A:=blk b1 (.cells #[.int .i64 m.start,.slice (some ⟨gc,oc,none⟩) 256 cc,.slice (some ⟨gn,on_,none⟩) n cn,.slice (some ⟨ga,oa,none⟩) n ca] 27)) pk (.cons (A:=blk b6 (.cells #[.int .i64 0,.slice none 0 0,.slice none 0 0,.slice none 0 0] 27)) pk (.cons (A:=blk b7 (.cells #[.int .i64 0,.slice (some ⟨gl,0,none⟩) 256 256,(.slice ad9 (i+1) cp9),va] 27)) pk (.cons (A:=zi q7 3 1 (.slice (some ⟨gl,0,none⟩) 256 256) (fnL 256 (clP m bl F 256))) pk (.cons (A:=zi q7 3 1 (.slice (some ⟨gco,0,none⟩) an c9) ((wv m bl F).map m.cl)) pk (.cons (A:=zi q7 3 1 (.slice (some ⟨gu,0,none⟩) nF nF) (fnL nF (nbF l))) pk (.cons (A:=zi q7 3 1 (.slice adl l2 cl) l) pk (.cons (A:=zi xt 23 1 (.slice ad9 (i+1) cp9) (rows++[((some ⟨gr9,0,none⟩,an,an):SlT)])) pk (.cons (A:=zx (PR++PN)) pk .nil))))))))));refine wl 10 [⟨[],fun v _=>v=.pointer (some ⟨b7,3,none⟩)⟩,⟨[0],fun v _=>v=va⟩,⟨[],fun v _=>v=.pointer (some ⟨b1,3,none⟩)⟩,⟨[2],fun v _=>v=.slice (some ⟨ga,oa,none⟩) n ca⟩,⟨[],fun v _=>v=.int .i64 (q:Nat)⟩,⟨[3,4],fun v _=>v=.pointer (some ⟨ga,oa+q,none⟩)⟩,⟨[5],fun v _=>v=.bool ab⟩,⟨[6],fun v _=>∃ bn:Nat,v=.slice (some ⟨bn,0,none⟩) 1 1⟩,⟨[1,7],fun _ _=>True⟩,⟨[],fun v _=>v=.pointer (some ⟨b7,3,none⟩)⟩] [7,8] [[0,1],[0,1],[0],[0],[0],[0],[0],[0],[1],[2]] [fun _ wx=>St w [] [zi xI 4 1 va accs,blk b1 (.cells #[.int .i64 m.start,.slice (some ⟨gc,oc,none⟩) 256 cc,.slice (some ⟨gn,on_,none⟩) n cn,.slice (some ⟨ga,oa,none⟩) n ca] 27),blk b6 (.cells #[.int .i64 0,.slice none 0 0,.slice none 0 0,.slice none 0 0] 27),blk b7 (.cells #[.int .i64 0,.slice (some ⟨gl,0,none⟩) 256 256,(.slice ad9 (i+1) cp9),va] 27),zi q7 3 1 (.slice (some ⟨gl,0,none⟩) 256 256) (fnL 256 (clP m bl F 256)),zi q7 3 1 (.slice (some ⟨gco,0,none⟩) an c9) ((wv m bl F).map m.cl),zi q7 3 1 (.slice (some ⟨gu,0,none⟩) nF nF) (fnL nF (nbF l)),zi q7 3 1 (.slice adl l2 cl) l,zi xt 23 1 (.slice ad9 (i+1) cp9) (rows++[((some ⟨gr9,0,none⟩,an,an):SlT)]),zx (PR++PN)] wx,fun vals wx=>∃ bn:Nat,vals 7=.slice (some ⟨bn,0,none⟩) 1 1∧St w [] [zi xI 4 1 va accs,zi xI 4 1 (.slice (some ⟨bn,0,none⟩) 1 1) [ab],blk b1 (.cells #[.int .i64 m.start,.slice (some ⟨gc,oc,none⟩) 256 cc,.slice (some ⟨gn,on_,none⟩) n cn,.slice (some ⟨ga,oa,none⟩) n ca] 27),blk b6 (.cells #[.int .i64 0,.slice none 0 0,.slice none 0 0,.slice none 0 0] 27),blk b7 (.cells #[.int .i64 0,.slice (some ⟨gl,0,none⟩) 256 256,(.slice ad9 (i+1) cp9),va] 27),zi q7 3 1 (.slice (some ⟨gl,0,none⟩) 256 256) (fnL 256 (clP m bl F 256)),zi q7 3 1 (.slice (some ⟨gco,0,none⟩) an c9) ((wv m bl F).map m.cl),zi q7 3 1 (.slice (some ⟨gu,0,none⟩) nF nF) (fnL nF (nbF l)),zi q7 3 1 (.slice adl l2 cl) l,zi xt 23 1 (.slice ad9 (i+1) cp9) (rows++[((some ⟨gr9,0,none⟩,an,an):SlT)]),zx (PR++PN)] wx,fun vals wx=>∃ (ad8:Option Addr) (cp8:Nat),vals 8=.slice ad8 (i+1) cp8∧St w [] [zi xI 4 1 (.slice ad8 (i+1) cp8) (accs++[ab]),blk b1 (.cells #[.int .i64 m.start,.slice (some ⟨gc,oc,none⟩) 256 cc,.slice (some ⟨gn,on_,none⟩) n cn,.slice (some ⟨ga,oa,none⟩) n ca] 27),blk b6 (.cells #[.int .i64 0,.slice none 0 0,.slice none 0 0,.slice none 0 0] 27),blk b7 (.cells #[.int .i64 0,.slice (some ⟨gl,0,none⟩) 256 256,(.slice ad9 (i+1) cp9),va] 27),zi q7 3 1 (.slice (some ⟨gl,0,none⟩) 256 256) (fnL 256 (clP m bl F 256)),zi q7 3 1 (.slice (some ⟨gco,0,none⟩) an c9) ((wv m bl F).map m.cl),zi q7 3 1 (.slice (some ⟨gu,0,none⟩) nF nF) (fnL nF (nbF l)),zi q7 3 1 (.slice adl l2 cl) l,zi xt 23 1 (.slice ad9 (i+1) cp9) (rows++[((some ⟨gr9,0,none⟩,an,an):SlT)]),zx (PR++PN)] wx]
        [[],[(0,166)],[],[(2,168)],[],[(3,169),(4,170)],[(5,171)],[(6,172)],[(1,167),(7,173)],[]] [(0,166),(1,167),(2,168),(3,169),(4,170),(5,171),(6,172),(7,173),(8,174),(9,175)] (by kernel_rfl) (by kernel_rfl) H.drew ⟨⟨qo,qo,trivial⟩,⟨ql,ql,trivial⟩,⟨qo,trivial⟩,⟨ql,trivial⟩,⟨qo,trivial⟩,⟨qo,trivial⟩,⟨ql,trivial⟩,⟨?_,trivial⟩,⟨?_,trivial⟩,⟨qo,trivial⟩,trivial⟩ ?_
       ·intro vals wx hd HC;simp only [GF] at hd;have H:=HC;simp only [CA] at H;simp only [PS,hd];clear HC;refine StStep.slice1 (enc:=xI) H rfl rfl rfl rfl rfl rfl rfl rfl rfl ab rfl yW ?_;intro bn wz H;exact ⟨⟨bn,rfl⟩,bn,rfl,H.picks (.cons pk (.cons pk (.cons pk (.cons pk (.cons pk (.cons pk (.cons pk (.cons pk (.cons pk (.cons pk (.cons pk .nil)))))))))))⟩
       ·intro vals wx hd HC;simp only [GF] at hd;have H:=HC;simp only [CA] at H;obtain ⟨bn,hv,H⟩:=H;simp only [PS,hd,hv];refine StStep.append (enc:=xI) rfl rfl rfl rfl rfl (by decide) (by decide) rfl rfl H (H.get (A:=zi xI 4 1 (.slice (some ⟨bn,0,none⟩) 1 1) [ab]) pk) yW WJ (by have:=HAL.out;simp;omega) ?_;intro v' wz H;obtain ⟨ad8,cp8,e9,_⟩:=zW (H.get (A:=zi xI 4 1 v' (accs++[ab])) pk);rw [HAL2.out] at e9;subst e9;exact ⟨trivial,ad8,cp8,rfl,H.picks (.cons pk (.cons pk (.cons pk (.cons pk (.cons pk (.cons pk (.cons pk (.cons pk (.cons pk (.cons pk .nil))))))))))⟩
       intro vals wx hd HC;have h7:=hd.2.2.2.2.2.2.2.1;simp only [CA] at HC;obtain ⟨ad8,cp8,hv,H⟩:=HC;simp only [GF] at hd;simp only [PS,hd,hv];clear hd;go_wp2_with (first|refine sL ?_|(refine sS ?_;clear H;intros;rename_i H));go_roundg (nF-(i+1));case measure=>omega
       case rel=>exact ⟨i+1,l,PR++PN,rows++[((some ⟨gr9,0,none⟩,an,an):SlT)],.slice ad9 (i+1) cp9,.slice ad8 (i+1) cp8,rfl,by go_num,HLV.out,(by
        have:=HSN.out;rw [yK HBO.out,qQ];exact this),(by have:=HLV.out.le;have h2:=HL2.out;omega),(by
        have e:((yw m bl F).take (i+1)).map (fun b=>m.ac (F.getD b 0))=accs++[ab]:=by
         rw [yK HBO.out,qQ,HACS.out,QI,HQD.out,HAB.out]
        rw [e];exact H.picks (.cons pk (.cons pk (.cons pk (.cons pk (.cons pk (.cons pk (.cons pk (.cons pk (.cons pk (.cons pk .nil)))))))))))⟩
    ·have e1:decide ((i:Int)<(ll:Int))=false:=(by simp;omega);have e1n:decide (i<ll)=false:=(by simp;omega);have hG:yw m bl F=l:=HBI.out.done (by rw [HLL.out];omega);have hil:i=l.length:=(by have:=HBI.out.le;rw [HLL.out] at this ⊢;omega);have hta:(yw m bl F).take i=yw m bl F:=(by rw [hG,hil,vX]);have HRO2:=HRO.out;rw [hta] at H HRO2;have HRO3:=zh HRO2;clear hG hil hta HRO2;obtain ⟨adn,cnn,rfl,_⟩:=zW (H.get (A:=zi xt 23 1 _ rows) pk);obtain ⟨ada,caa,rfl,_⟩:=zW (H.get (A:=zi xI 4 1 _ ((yw m bl F).map fun b=>m.ac (F.getD b 0))) pk);go_wp2_with (first|refine sL ?_|(refine sS ?_;clear H;intros;rename_i H));obtain ⟨P1,hP1,H⟩:=(H.pick (A:=zi q7 3 1 (.slice (some ⟨gl,0,none⟩) 256 256) (fnL 256 (clP m bl F 256))) pk).to_pool zL;obtain ⟨P2,hP2,H⟩:=(H.pick (A:=zi xt 23 1 _ rows) pk).to_pool vF;obtain ⟨P3,hP3,H⟩:=(H.pick (A:=zi xI 4 1 _ ((yw m bl F).map fun b=>m.ac (F.getD b 0))) pk).to_pool yW;replace H:=(H.pick2 (A:=zx P1) (B:=zx P2) pk pk).pool_add;replace H:=(H.pick2 (A:=zx (P1++P2)) (B:=zx P3) pk pk).pool_add;replace H:=(H.pick2 (A:=zx (P1++P2++P3)) (B:=zx PN) pk pk).pool_add;refine bodyPost_ret (qy (g:=b6) rfl H rfl pk rfl) rfl ?_;refine ⟨_,_,_,rfl,P1++P2++P3++PN,?_,H.picks (.cons pk .nil)⟩;rw [numM_is];refine ⟨hP1.mono (by intro x hx;simp [hx]),hP3.mono (by intro x hx;simp [hx]),rows.map slV,hP2.ofSl.mono (by intro x hx;simp [hx]),?_,fun i r x h1 h2=>?_⟩
     ·rw [zE];exact HRO3.out.1
     ·rw [zq] at h1;cases hr:rows[i]? with
      |none=>rw [hr] at h1;simp at h1
      |some t =>
       rw [hr] at h1;injection h1 with h1
       subst h1;exact (HRO3.out.2 i t x hr h2).mono (by intro x hx;simp [hx])
end
section
open Go.RowKit Go.Maps
attribute [local go_sem] qM
structure MCells (P:zT) (m:Mch) (n k gc oc gn on_ ga oa:Nat):Prop where
 row:∀ s c,s<n->c<k->∃ gr or cr,(∀ w,(zx P).ho w->w.cell? ⟨gn,on_+s,none⟩=some (.slice (some ⟨gr,or,none⟩) k cr))∧∀ c w,c<k->(zx P).ho w->w.cell? ⟨gr,or+c,none⟩=some (.int .i64 (m.ent s c:Nat))
 cl:∀ x,x<256->∀ w,(zx P).ho w->w.cell? ⟨gc,oc+x,none⟩=some (.int .i64 (m.cl x:Nat))
 ac:∀ q,q<n->∀ w,(zx P).ho w->w.cell? ⟨ga,oa+q,none⟩=some (.bool (m.ac q))
theorem MchIn.cells {P:zT} {vc vn va:Value} {m:Mch} {n k:Nat} (h:MchIn P vc vn va m) (hm:m.Ok n k) :
  ∃ gc oc cc gn on_ cn ga oa ca,vc=.slice (some ⟨gc,oc,none⟩) 256 cc∧vn=.slice (some ⟨gn,on_,none⟩) n cn∧va=.slice (some ⟨ga,oa,none⟩) n ca∧MCells P m n k gc oc gn on_ ga oa:=by
 have h0:0<n:=(by have:=hm.start;omega);obtain ⟨rows,hr1,hr2,hr3⟩:=h.nxt;rw [hm.nxt] at hr2;have hcl:=h.cls;obtain ⟨gc,oc,cc,rfl,_⟩:=h.cls.has (by rw [hm.cls];omega);rw [hm.cls] at hcl ⊢;obtain ⟨gn,on_,cn,rfl,_⟩:=hr1.has (by omega);rw [hr2] at hr1 ⊢;have hacl:=hm.acc;obtain ⟨ga,oa,ca,rfl,_⟩:=h.acc.has (by omega);have hacI:=h.acc;rw [hacl] at hacI ⊢;refine ⟨gc,oc,cc,gn,on_,cn,ga,oa,ca,rfl,rfl,rfl,fun s c hs hck=>?_,fun x hx w h=>?_,fun q hq w h=>?_⟩
 ·obtain ⟨r,hr⟩:∃ r,rows[s]?=some r:=⟨_,zg (by omega)⟩
  obtain ⟨x,hx⟩:∃ x,m.nxt[s]?=some x:=⟨_,zg (by rw [hm.nxt];exact hs)⟩
  have hxl:=hm.row x (zc hx);have hrr:=hr3 s r x hr hx;obtain ⟨gr,or,cr,rfl,_⟩:=hrr.has (by omega);rw [hxl] at hrr hr;refine ⟨gr,or,cr,fun w h=>by have:=hr1.cell h kh hr rfl;exact this,fun c w hck h=>?_⟩;have he:x[c]?=some (m.ent s c):=by
   unfold Mch.ent;rw [ze (l:=m.nxt),hx];simp only [qV];rw [ze,zg (by omega)];rfl
  exact hrr.cell h zL he rfl
 ·have he:m.cls[x]?=some (m.cl x):=by
   unfold Mch.cl;rw [ze,zg (by rw [hm.cls];exact hx)];rfl
  exact hcl.cell h zL he rfl
 ·have he:m.acc[q]?=some (m.ac q):=by
   unfold Mch.ac;rw [ze,zg (by omega)];rfl
  exact hacI.cell h yW he rfl
theorem MchIn.mono {P Q:zT} {vc vn va:Value} {m:Mch} (h:MchIn P vc vn va m) (hs:∀ x∈P,x∈Q):MchIn Q vc vn va m:=by
 obtain ⟨rows,h1,h2,h3⟩:=h.nxt;exact ⟨h.cls.mono hs,h.acc.mono hs,rows,h1.mono hs,h2,fun i r x a b=>(h3 i r x a b).mono hs⟩
theorem Mch.Ok.kpos {m:Mch} {n k:Nat} (hm:m.Ok n k):0<k:=by
 have:=hm.clt (b:=0) (by omega);omega
def CkRel (w:World) (b1 gc oc cc gn on_ cn ga oa ca n z:Nat) (m:Mch) (mm:Nat) (v:Value) (wr:World):Prop :=
 ∃ i:Nat,mm=z-i∧i<=z∧v=.int .i64 i∧St w [] [blk b1 (.cells #[.int .i64 m.start,.slice (some ⟨gc,oc,none⟩) 256 cc,.slice (some ⟨gn,on_,none⟩) n cn,.slice (some ⟨ga,oa,none⟩) n ca] 27)] wr
theorem Kt {P:zT} {vc vn va:Value} {m:Mch} {n k:Nat} (h:MchIn P vc vn va m) (hm:m.Ok n k) (hn256:n<=256) (hk256:k<=256) (w:World) (hp:(zx P).ho w) :
  Calls z6 27 #[.agg #[.int .i64 m.start,vc,vn,va]] w fun e w'=>e=.returned .nilIface∧St w [] [] w':=by
 have H:=St.nil w [];have HK:Ks w [] [zx P]:=Ks.one hp;have h0:0<n:=(by have:=hm.start;omega);have hk0:=hm.kpos;have hst:=hm.start;obtain ⟨gc,oc,cc,gn,on_,cn,ga,oa,ca,rfl,rfl,rfl,hcells⟩:=h.cells hm;have HM:=zh hm;have HCS:=zh hcells;obtain ⟨g0,o0,c0,hr0,_⟩:=hcells.row 0 0 h0 hk0;rw [Nat.add_zero] at hr0;have HR0:=zh hr0;clear h hp hm hcells hr0;have d1:((n:Int)==0)=false:=(by simp;omega);have d1n:(n==0)=false:=(by simp;omega);have d2:decide ((n:Int)<=(m.start:Int))=false:=(by simp;omega);have d2n:decide (n<=m.start)=false:=(by simp;omega);have d3:decide ((0:Int)<(n:Int))=true:=(by simp;omega);have d3n:decide (0<n)=true:=(by simp;omega);have d4:decide ((k:Int)<1)=false:=(by simp;omega);have d4n:decide (k<1)=false:=(by simp;omega);have d5:decide ((256:Int)<(k:Int))=false:=(by simp;omega);have d5n:decide (256<k)=false:=(by simp;omega);have d6:decide ((256:Int)<(n:Int))=false:=(by simp;omega);have d6n:decide (256<n)=false:=(by simp;omega);have d7:decide ((m.start:Int)<0)=false:=decide_eq_false (by omega);go_enter Tryd.func27,Tryd.ntmps27;go_wp2_with (first|refine sL ?_|(refine sS ?_;clear H;intros;rename_i H));rename_i b1 _ _ _;go_loopg [56] n (fun mm v wr=>CkRel w b1 gc oc cc gn on_ cn ga oa ca n n m mm v wr);case atStart=>exact ⟨0,rfl,zH _,rfl,H⟩
 case round =>
  clear H;obtain ⟨s,rfl,hs,rfl,H⟩:=hrel;by_cases hlt:s<n
  ·have e1:decide ((s:Int)<(n:Int))=true:=(by simp;omega);have e1n:decide (s<n)=true:=(by simp;omega);obtain ⟨gr,or,cr,hc1,hc2⟩:=HCS.out.row s 0 hlt hk0;have HC1:=zh hc1;have HC2:=zh hc2;clear hc1 hc2;go_wp2_with (first|refine sL ?_|(refine sS ?_;clear H;intros;rename_i H));go_loopg [67] k (fun mm v wr=>CkRel w b1 gc oc cc gn on_ cn ga oa ca n k m mm v wr);case atStart=>exact ⟨0,rfl,zH _,rfl,H⟩
   case round =>
    clear H;obtain ⟨c,rfl,hc,rfl,H⟩:=hrel;by_cases hck:c<k
    ·have f1:decide ((c:Int)<(k:Int))=true:=(by simp;omega);have f1n:decide (c<k)=true:=(by simp;omega);have HC3:=zh fun w hw=>HC2.out c w hck hw
     have hq:=HM.out.entlt hlt hck;obtain ⟨q,hqe⟩:∃ z,m.ent s c=z:=⟨_,rfl⟩
     rw [hqe] at HC3 hq;clear hqe;have f2:decide ((q:Int)<0)=false:=decide_eq_false (by omega);have f3:decide ((n:Int)<=(q:Int))=false:=(by simp;omega);have f3n:decide (n<=q)=false:=(by simp;omega);go_wp2_with (first|refine sL ?_|(refine sS ?_;clear H;intros;rename_i H));go_roundg (k-(c+1));case measure=>omega
     case rel=>exact ⟨c+1,rfl,by omega,by go_num,H⟩
    ·have f1:decide ((c:Int)<(k:Int))=false:=(by simp;omega);have f1n:decide (c<k)=false:=(by simp;omega);obtain rfl:k=c:=by omega
     go_wp2_with (first|refine sL ?_|(refine sS ?_;clear H;intros;rename_i H));go_roundg (n-(s+1));case measure=>omega
     case rel=>exact ⟨s+1,rfl,by omega,by go_num,H⟩
  ·have e1:decide ((s:Int)<(n:Int))=false:=(by simp;omega);have e1n:decide (s<n)=false:=(by simp;omega);obtain rfl:n=s:=by omega
   go_wp2_with (first|refine sL ?_|(refine sS ?_;clear H;intros;rename_i H));go_loopg [84] 256 (fun mm v wr=>CkRel w b1 gc oc cc gn on_ cn ga oa ca n 256 m mm v wr);case atStart=>exact ⟨0,rfl,zH _,rfl,H⟩
   case round =>
    clear H;obtain ⟨x,rfl,hx,rfl,H⟩:=hrel;by_cases hlx:x<256
    ·have f1:decide ((x:Int)<256)=true:=(by simp;omega);have f1n:decide (x<256)=true:=(by simp;omega);have HC3:=zh (HCS.out.cl x hlx);have hq:=HM.out.clt hlx;obtain ⟨q,hqe⟩:∃ z,m.cl x=z:=⟨_,rfl⟩
     rw [hqe] at HC3 hq;clear hqe;have f2:decide ((q:Int)<0)=false:=decide_eq_false (by omega);have f3:decide ((k:Int)<=(q:Int))=false:=(by simp;omega);have f3n:decide (k<=q)=false:=(by simp;omega);go_wp2_with (first|refine sL ?_|(refine sS ?_;clear H;intros;rename_i H));go_roundg (256-(x+1));case measure=>omega
     case rel=>exact ⟨x+1,rfl,by omega,by go_num,H⟩
    ·have f1:decide ((x:Int)<256)=false:=(by simp;omega);have f1n:decide (x<256)=false:=(by simp;omega);obtain rfl:x=256:=by omega
     go_wp2_with (first|refine sL ?_|(refine sS ?_;clear H;intros;rename_i H));go_ret;exact ⟨rfl,H.nix⟩
theorem mini_c {P:zT} {vc vn va:Value} {m:Mch} {n k:Nat} (h:MchIn P vc vn va m) (hm:m.Ok n k) (hn256:n<=256) (hk256:k<=256) (w:World) (hp:(zx P).ho w) :
  Calls z6 28 #[.agg #[.int .i64 m.start,vc,vn,va]] w fun e w'=>∃ vc' vn' va' P',e=.returned (.agg #[.int .i64 0,vc',vn',va'])∧MchIn P' vc' vn' va' m.mini∧St w [] [zx P'] w':=by
 have H:=St.nil w [];have HK:Ks w [] [zx P]:=Ks.one hp;obtain ⟨gc,oc,cc,gn,on_,cn,ga,oa,ca,rfl,rfl,rfl,_⟩:=h.cells hm;have hc256:∀ r∈m.nxt,r.length=k:=hm.row;go_enter Tryd.func28,Tryd.ntmps28;go_wp2_with (first|refine sL ?_|(refine sS ?_;clear H;intros;rename_i H));refine zm (occ_c h hm.cls hm.nxt (by have:=hm.start;omega) hm.row hk256 hm.cl _ (H.known (A:=zx P) HK pk)) ?_;rintro e9 wc ⟨v1,rfl,hb⟩;replace H:=zn (H.call0 hb);clear hb;obtain ⟨P1,hP1,H9⟩:=(H.pick (A:=zi q7 3 1 _ m.occ) pk).to_pool zL;clear H;have H:=H9;clear H9;obtain ⟨ad1,c1,rfl,_⟩:=hP1.shape;have hoccl:∀ c∈m.occ,c<k:=fun c hc=>by
  obtain ⟨b,hb,rfl⟩:=Yz hm hc;exact hm.clt hb
 have hocl:m.occ.length<=256:=by
  have:=XV m.cls [];rw [hm.cls] at this;simpa [Mch.occ] using this
 have hpp1:∀ x∈P,x∈P++P1:=fun x hx=>q6 _ hx
 go_wp2_with (first|refine sL ?_|(refine sS ?_;clear H;intros;rename_i H));refine zm (reach_c (P:=P++P1) (h.mono hpp1) hm hn256 (hP1.mono fun x hx=>qx _ hx) hoccl hocl _ (xX (H.known (A:=zx P) HK pk) (H.get (A:=zx P1) pk))) ?_;rintro e9 wc ⟨v2,rfl,hb⟩;replace H:=zn (H.call0 hb);clear hb;have hreq:bfs (m.succs m.occ) n 0 [m.start]=m.reachL:=(by unfold Mch.reachL;rw [hm.nxt]);rw [hreq] at H;obtain ⟨P2,hP2,H9⟩:=(H.pick (A:=zi q7 3 1 _ m.reachL) pk).to_pool zL;clear H;have H:=H9;clear H9;obtain ⟨ad2,c2,rfl,_⟩:=hP2.shape;replace H:=(H.pick2 (A:=zx P1) (B:=zx P2) pk pk).pool_add;go_wp2_with (first|refine sL ?_|(refine sS ?_;clear H;intros;rename_i H));refine zm (refine_c (P:=P++(P1++P2)) (h.mono fun x hx=>q6 _ hx) hm hn256 hk256 (hP1.mono fun x hx=>by simp [hx]) (hP2.mono fun x hx=>by simp [hx]) _ (xX (H.known (A:=zx P) HK pk) (H.get (A:=zx (P1++P2)) pk))) ?_;rintro e9 wc ⟨v3,v4,rfl,hb⟩;replace H:=zn (H.call0 hb);clear hb;obtain ⟨P3,hP3,H9⟩:=(H.pick (A:=zi q7 3 1 _ (fnL n m.refine.1)) pk).to_pool zL;clear H;have H:=H9;clear H9;obtain ⟨P4,hP4,H9⟩:=(H.pick (A:=zi q7 3 1 _ m.refine.2) pk).to_pool zL;clear H;have H:=H9;clear H9;obtain ⟨ad3,c3,rfl,_⟩:=hP3.shape;obtain ⟨ad4,c4,rfl,_⟩:=hP4.shape;rw [j8] at hP3 ⊢;replace H:=(H.pick2 (A:=zx P3) (B:=zx P4) pk pk).pool_add;go_wp2_with (first|refine sL ?_|(refine sS ?_;clear H;intros;rename_i H));refine zm (number_c (P:=P++(P3++P4)) (h.mono fun x hx=>q6 _ hx) hm hn256 hk256 (vR hm) (XF hm) (hP3.mono fun x hx=>by simp [hx]) (hP4.mono fun x hx=>by simp [hx]) _ (xX (H.known (A:=zx P) HK pk) (H.get (A:=zx (P3++P4)) pk))) ?_;rintro e9 wc ⟨vc',vn',va',P',rfl,hM,hb⟩;obtain ⟨a1,a2,hv1,_⟩:=hM.cls.shape;obtain ⟨a3,a4,hv2,_⟩:=hM.acc.shape;obtain ⟨rows,hr,hrl,_⟩:=hM.nxt;obtain ⟨a5,a6,hv3,_⟩:=hr.shape;rw [hrl] at hv3;clear hrl;subst hv1 hv2 hv3;replace H:=zn (H.call0 hb);clear hb;clear hr;have HMI:=zh hM;clear hM;go_wp2_with (first|refine sL ?_|(refine sS ?_;clear H;intros;rename_i H));refine bodyPost_ret (qy rfl H rfl pk rfl) rfl ?_;exact ⟨_,_,_,P',rfl,HMI.out,H.picks (.cons pk .nil)⟩
theorem Mini_c {P:zT} {vc vn va:Value} {m:Mch} {n k:Nat} (h:MchIn P vc vn va m) (hm:m.Ok n k) (hn256:n<=256) (hk256:k<=256) (w:World) (hp:(zx P).ho w) :
  Calls z6 14 #[.agg #[.int .i64 m.start,vc,vn,va]] w fun e w'=>∃ vc' vn' va' P',e=.returned (.tuple #[.agg #[.int .i64 0,vc',vn',va'],.nilIface])∧MchIn P' vc' vn' va' m.mini∧St w [] [zx P'] w':=by
 have H:=St.nil w [];have HK:Ks w [] [zx P]:=Ks.one hp;obtain ⟨gc,oc,cc,gn,on_,cn,ga,oa,ca,rfl,rfl,rfl,_⟩:=h.cells hm;have HCH:=zh (Kt h hm hn256 hk256);go_enter Tryd.func14,Tryd.ntmps14;go_wp2_with (first|refine sL ?_|(refine sS ?_;clear H;intros;rename_i H)|(go_at_call 27;with_reducible refine zm (HCH.out _ (H.known (A:=zx P) HK pk)) ?_;rintro e wc ⟨rfl,hb⟩;replace H:=H.grew hb.below;clear hb));refine zm (mini_c h hm hn256 hk256 _ (H.known (A:=zx P) HK pk)) ?_;rintro e9 wc ⟨vc',vn',va',P',rfl,hM,hb⟩;obtain ⟨a1,a2,hv1,_⟩:=hM.cls.shape;obtain ⟨a3,a4,hv2,_⟩:=hM.acc.shape;obtain ⟨rows,hr,hrl,_⟩:=hM.nxt;obtain ⟨a5,a6,hv3,_⟩:=hr.shape;rw [hrl] at hv3;clear hrl;subst hv1 hv2 hv3;replace H:=H.call0 hb;clear hb hr;simp only [z7,z8] at H;have HMI:=zh hM;clear hM;go_wp2_with (first|refine sL ?_|(refine sS ?_;clear H;intros;rename_i H));refine bodyPost_ret (yv rfl H rfl pk rfl rfl) rfl ?_;exact ⟨_,_,_,P',rfl,HMI.out,H.picks (.cons pk .nil)⟩
end
section
open Go.RowKit Go.Maps
attribute [local go_sem] qM
theorem run_snoc {m:Mch} {q b:Nat} {t:List Nat}:m.run q (t++[b])=m.step (m.run q t) b:=by
 rw [Mch.run_append];rfl
def RnRel (w:World) (b1 gc oc cc gn on_ cn ga oa ca n z:Nat) (m:Mch) (q0:Nat) (t:List Nat) (mm:Nat) (v1 v:Value) (wr:World):Prop :=
 ∃ i:Nat,mm=z-i∧i<=z∧v=.int .i64 i∧v1=.int .i64 (m.run q0 (t.take i):Nat)∧St w [] [blk b1 (.cells #[.int .i64 m.start,.slice (some ⟨gc,oc,none⟩) 256 cc,.slice (some ⟨gn,on_,none⟩) n cn,.slice (some ⟨ga,oa,none⟩) n ca] 27)] wr
theorem run_c {P:zT} {vc vn va vt:Value} {m:Mch} {n k q0:Nat} {t:List Nat} (h:MchIn P vc vn va m) (hm:m.Ok n k) (hn256:n<=256) (hk256:k<=256) (hq0:q0<n) (ht:RowIn P kH 1 vt t) (hb:Lts t) (w:World) (hp:(zx P).ho w) :
  Calls z6 32 #[.agg #[.int .i64 m.start,vc,vn,va],.int .i64 (q0:Nat),vt] w fun e w'=>e=.returned (.tuple #[.int .i64 (m.run q0 t:Nat),.nilIface])∧St w [] [] w':=by
 have H:=St.nil w [];have HK:Ks w [] [zx P]:=Ks.one hp;have h0:0<n:=(by have:=hm.start;omega);have hk0:=hm.kpos;have hst:=hm.start;have HCH:=zh (Kt h hm hn256 hk256);obtain ⟨gc,oc,cc,gn,on_,cn,ga,oa,ca,rfl,rfl,rfl,hcells⟩:=h.cells hm;have HM:=zh (za hm hb);have HCS:=zh hcells;obtain ⟨at_,ct,rfl,hml⟩:=ht.shape;obtain ⟨nt,hnt⟩:∃ z,t.length=z:=⟨_,rfl⟩
 have HT:=zh (za ht hnt);rw [hnt] at hml ⊢;simp only [maxLen] at hml;clear h hp hm hcells hb ht hnt;have d2:decide ((n:Int)<=(q0:Int))=false:=(by simp;omega);have d2n:decide (n<=q0)=false:=(by simp;omega);have d7:decide ((q0:Int)<0)=false:=decide_eq_false (by omega);go_enter Tryd.func32,Tryd.ntmps32;go_wp2_with (first|refine sL ?_|(refine sS ?_;clear H;intros;rename_i H)|(go_at_call 27;with_reducible refine zm (HCH.out _ (H.known (A:=zx P) HK pk)) ?_;rintro e wc ⟨rfl,hb⟩;replace H:=H.grew hb.below;clear hb));rename_i b1 _ _ _;go_loopg [1,28] nt (fun mm v1 v wr=>RnRel w b1 gc oc cc gn on_ cn ga oa ca n nt m q0 t mm v1 v wr);case atStart=>exact ⟨0,rfl,zH _,rfl,rfl,H⟩
 case round =>
  clear H;obtain ⟨i,rfl,hi,rfl,rfl,H⟩:=hrel;have hlts:Lts (t.take i):=fun b hb=>HM.out.2 b (List.mem_of_mem_take hb)
  have hq:=HM.out.1.runlt (t.take i) hq0 hlts;obtain ⟨q,hqe⟩:∃ z,m.run q0 (t.take i)=z:=⟨_,rfl⟩
  have HQE:=zh hqe;rw [hqe] at hq ⊢;clear hlts hqe;by_cases hlt:i<nt
  ·have e1:decide ((i:Int)<(nt:Int))=true:=(by simp;omega);have e1n:decide (i<nt)=true:=(by simp;omega);obtain ⟨b,hbi⟩:∃ b,t[i]?=some b:=⟨_,zg (by rw [HT.out.2];exact hlt)⟩
   have hb256:=HM.out.2 b (zc hbi);obtain ⟨gt,ot,rfl,htc⟩:∃ g o,at_=some ⟨g,o,none⟩∧∀ w,(zx P).ho w->w.cell? ⟨g,o+i,none⟩=some (.int .u8 (b:Nat)):=by
    have hr:=HT.out.1;rw [HT.out.2] at hr;obtain ⟨ad',c',e1,_,h3⟩:=id hr;obtain ⟨b',o,rfl,_⟩:=h3 (by have:=zP hbi;omega);injection e1 with e1 _ _
    subst e1;exact ⟨b',o,rfl,fun w h=>hr.cell h jH hbi rfl⟩
   have HTC:=zh htc;have HCL:=zh (HCS.out.cl b hb256);have hck:=HM.out.1.clt hb256;obtain ⟨c,hc⟩:∃ z,m.cl b=z:=⟨_,rfl⟩
   rw [hc] at HCL hck;obtain ⟨gr,or,cr,hc1,hc2⟩:=HCS.out.row q c hq hck;have HC1:=zh hc1;have HC2:=zh fun w hw=>hc2 c w hck hw
   obtain ⟨s,hs⟩:∃ z,m.ent q c=z:=⟨_,rfl⟩
   rw [hs] at HC2;have hnx:m.run q0 (t.take (i+1))=s:=by
    rw [yK hbi,run_snoc,HQE.out];unfold Mch.step;rw [hc,hs]
   have HNX:=zh hnx;clear htc hbi hc hc1 hc2 hs hnx;have f1:decide ((b:Int)<256)=true:=(by simp;omega);have f1n:decide (b<256)=true:=(by simp;omega);have f2:decide ((c:Int)<(k:Int))=true:=(by simp;omega);have f2n:decide (c<k)=true:=(by simp;omega);have f3:decide ((q:Int)<(n:Int))=true:=(by simp;omega);have f3n:decide (q<n)=true:=(by simp;omega);go_wp2_with (first|refine sL ?_|(refine sS ?_;clear H;intros;rename_i H));refine zr H 12 [] [] (by kernel_rfl) (by kernel_rfl) ?_;apply Exists.intro;refine ⟨fun w1 hw1 HX=>?_,fun bs wr Hr=>?_⟩
   ·refine sG ?_;repeat (first|go_big_quiet_skip|refine sQ ?_|fail|go_big_quiet_step (fail))
    exact wpQuiet_nil rfl
   clear H;have H:=Hr;clear Hr;replace H:=sH H;refine sT ?_;go_wp2_with (first|refine sL ?_|(refine sS ?_;clear H;intros;rename_i H));go_roundg (nt-(i+1));case measure=>omega
   case rel=>exact ⟨i+1,rfl,by omega,by go_num,by rw [HNX.out],H⟩
  ·have e1:decide ((i:Int)<(nt:Int))=false:=(by simp;omega);have e1n:decide (i<nt)=false:=(by simp;omega);obtain rfl:nt=i:=by omega
   have hall:m.run q0 t=q:=(by rw [← HQE.out,zM (by rw [HT.out.2];exact zp _)]);have HALL:=zh hall;clear hall;go_wp2_with (first|refine sL ?_|(refine sS ?_;clear H;intros;rename_i H));refine bodyPost_ret (results_tmp2 rfl _ _ _) rfl ?_;rw [HALL.out];exact ⟨rfl,H.nix⟩
theorem acc_c {P:zT} {vc vn va vt:Value} {m:Mch} {n k:Nat} {t:List Nat} (h:MchIn P vc vn va m) (hm:m.Ok n k) (hn256:n<=256) (hk256:k<=256) (ht:RowIn P kH 1 vt t) (hb:Lts t) (w:World) (hp:(zx P).ho w) :
  Calls z6 18 #[.agg #[.int .i64 m.start,vc,vn,va],vt] w fun e w'=>e=.returned (.tuple #[.bool (m.lang t),.nilIface])∧St w [] [] w':=by
 have H:=St.nil w [];have HK:Ks w [] [zx P]:=Ks.one hp;have HRN:=zh (run_c h hm hn256 hk256 hm.start ht hb);have hq:=hm.runlt t hm.start hb;obtain ⟨gc,oc,cc,gn,on_,cn,ga,oa,ca,rfl,rfl,rfl,hcells⟩:=h.cells hm;have HCS:=zh (hcells.ac _ hq);obtain ⟨at_,ct,rfl,hml⟩:=ht.shape;have hlang:m.lang t=m.ac (m.run m.start t):=rfl;rw [hlang];clear h hp hm hcells hb ht hlang;obtain ⟨q,hqe⟩:∃ z,m.run m.start t=z:=⟨_,rfl⟩
 rw [hqe] at HRN HCS hq ⊢;clear hqe;have f3:decide ((q:Int)<(n:Int))=true:=(by simp;omega);have f3n:decide (q<n)=true:=(by simp;omega);go_enter Tryd.func18,Tryd.ntmps18;go_wp2_with (first|refine sL ?_|(refine sS ?_;clear H;intros;rename_i H)|(go_at_call 32;with_reducible refine zm (HRN.out _ (H.known (A:=zx P) HK pk)) ?_;rintro e wc ⟨rfl,hb⟩;replace H:=H.grew hb.below;clear hb));refine bodyPost_ret (results_tmp2 rfl _ _ _) rfl ?_;exact ⟨rfl,H.nix⟩
end
section
open Go.RowKit Go.Maps
attribute [local go_sem] qM
def yP (w:World) (g:Nat):Prop:=∃ ca ta,w.heap[g]?=some (.cells ca ta (0,0))
def zw (P:zT):As:=⟨(zx P).fp,fun w=>(zx P).ho w∧∀ x∈P,yP w x.1,
 fun w w' h hw=>⟨(zx P).loc w w' h hw.1,fun x hx=>by
  obtain ⟨ca,ta,h1⟩:=hw.2 x hx;exact ⟨ca,ta,(h x.1 (by rw [xf];exact zC.2 ⟨x,hx,rfl⟩)).trans h1⟩⟩,
 fun w hw=>(zx P).lt w hw.1⟩
theorem kz (P:zT):(zw P).fp=P.map (·.1):=by unfold zw;rw [← xf]
theorem jm (P:zT) (w:World):(zw P).ho w=((zx P).ho w∧∀ x∈P,yP w x.1):=rfl
theorem VL (w:World):(zw []).ho w:=by rw [jm];exact ⟨ky w,by simp⟩
attribute [irreducible] zw
theorem xB {P:zT} {w:World} (h:(zw P).ho w):(zx P).ho w:=by rw [jm] at h;exact h.1
theorem vv {P:zT} {w:World} (h:(zw P).ho w) {g:Nat} (hg:g∈P.map (·.1)):yP w g:=by
 rw [jm] at h;obtain ⟨x,hx,rfl⟩:=zC.1 hg;exact h.2 x hx
theorem jv {P Q:zT} {w:World} (h1:(zw P).ho w) (h2:(zw Q).ho w):(zw (P++Q)).ho w:=by
 rw [jm] at h1 h2 ⊢;refine ⟨xX h1.1 h2.1,fun x hx=>?_⟩;rcases zt.1 hx with hx|hx
 ·exact h1.2 x hx
 ·exact h2.2 x hx
theorem St.toG {w0 w:World} {M:List Nat} {P:zT} {R:List As} (h:St w0 M (zx P::R) w) (hp:∀ x∈P,yP w x.1):St w0 M (zw P::R) w :=
 h.conv (by rw [kz,xf]) fun h1=>by rw [jm];exact ⟨h1,hp⟩
theorem St.ofG {w0 w:World} {M:List Nat} {P:zT} {R:List As} (h:St w0 M (zw P::R) w):St w0 M (zx P::R) w :=
 h.conv (by rw [kz,xf]) fun h1=>xB h1
theorem St.poolG_add {w0 w:World} {M:List Nat} {P Q:zT} {R:List As} (h:St w0 M (zw P::zw Q::R) w):St w0 M (zw (P++Q)::R) w:=by
 have h1:=h.ho (zw P) (by simp);have h2:=h.ho (zw Q) (by simp);have ha:=h.ofG;have hb:St w0 M (zx Q::zx P::R) w:=(ha.perm (yd.swap ..)).ofG;have hc:=(hb.perm (yd.swap ..)).pool_add;refine hc.toG fun x hx=>?_
 rcases zt.1 hx with hx|hx
 ·rw [jm] at h1;exact h1.2 x hx
 ·rw [jm] at h2;exact h2.2 x hx
theorem Jd {α:Type} {enc:α->List Value} {e k:Nat} {v:Value} {xs:List α} {w:World} (h:(zi enc e k v xs).ho w):∀ b∈(zi enc e k v xs).fp,yP w b:=by
 intro b hb;rw [q9] at hb;rw [xp] at h;obtain ⟨_,h4⟩:=h;rcases h4 with ⟨h',_⟩|⟨g',cap,cur,h',_,hg,_⟩
 ·subst h';simp [Value.ownBlock] at hb
 ·subst h';simp [Value.ownBlock] at hb;subst hb;exact ⟨_,_,hg⟩
theorem St.blk_poolG {e:TypeId} {g:Nat} {cs:Array Value} {w0 w:World} {M:List Nat} {R:List As} (h:St w0 M (blk g (.cells cs e)::R) w):St w0 M (zw [(g,0,cs.toList)]::R) w:=by
 have hg:=h.ho _ zS;rw [yB] at hg;refine (h.blk_pool).toG fun x hx=>?_
 simp only [zV] at hx;subst hx;exact ⟨_,_,hg⟩
structure R8 where
 h:Hd
 pv:Value
def xE (x:R8):List Value:=[.int .i64 x.h.k,.int .u64 (x.h.s0:Nat),.int .u64 (x.h.s1:Nat),.int .u64 (x.h.s2:Nat),.int .u64 (x.h.s3:Nat),.int .i64 x.h.lo,.int .i64 x.h.hi,x.pv]
theorem wJ (x:R8):(xE x).length=8:=rfl
structure Hd.Fit (h:Hd):Prop where
 s0:h.s0<18446744073709551616
 s1:h.s1<18446744073709551616
 s2:h.s2<18446744073709551616
 s3:h.s3<18446744073709551616
inductive RxIn (P:zT):R8->Rx->Prop
 |mk (x:R8) (l:List Rx) (rows:List R8) (hf:x.h.Fit) (hr:RowIn P xE 8 x.pv rows) (hl:rows.length=l.length) (hs:∀ (i:Nat) (r:R8) (p:Rx),rows[i]?=some r->l[i]?=some p->RxIn P r p):RxIn P x (.mk x.h l)
theorem RxIn.inv {P:zT} {x:R8} {r:Rx} (h:RxIn P x r):∃ rows:List R8,r.hd=x.h∧x.h.Fit∧RowIn P xE 8 x.pv rows∧rows.length=r.ps.length∧∀ (i:Nat) (y:R8) (p:Rx),rows[i]?=some y->r.ps[i]?=some p->RxIn P y p:=by
 cases h with
 |mk _ l rows hf hr hl hs=>exact ⟨rows,rfl,hf,hr,hl,hs⟩
theorem RxIn.mono {P Q:zT} {x:R8} {r:Rx} (h:RxIn P x r) (hs:∀ y∈P,y∈Q):RxIn Q x r:=by
 induction h with
 |mk x l rows hf hr hl _ ih=>exact .mk x l rows hf (hr.mono hs) hl fun i r p a b=>ih i r p a b
structure NodeAt (P:zT) (g o:Nat) (x:R8) (r:Rx):Prop where
 rng:∀ w,(zw P).ho w->w.rangeAt g o (xE x)
 blk:g∈P.map (·.1)
 rx:RxIn P x r
theorem NodeAt.cell {P:zT} {g o:Nat} {x:R8} {r:Rx} (h:NodeAt P g o x r) {j:Nat} {u:Value} (hj:(xE x)[j]?=some u):∀ w,(zw P).ho w->w.cell? ⟨g,o+j,none⟩=some u:=fun w hw=>h.rng w hw j u hj
theorem NodeAt.parts {P:zT} {g o:Nat} {x:R8} {r:Rx} (h:NodeAt P g o x r):∃ (ad:Option Addr) (c:Nat),x.pv=.slice ad r.ps.length c∧r.ps.length<=maxLen∧∀ (i:Nat) (p:Rx),r.ps[i]?=some p->∃ gp op,ad=some ⟨gp,op,none⟩∧∃ y,NodeAt P gp (op+i*8) y p:=by
 obtain ⟨rows,h1,h2,h3,h4,h5⟩:=h.rx.inv;obtain ⟨ad,c,e,hm⟩:=h3.shape;rw [h4] at e hm;refine ⟨ad,c,e,hm,fun i p hi=>?_⟩;have hil:=zP hi;have h3':=id h3;obtain ⟨ad',c',e',_,h6⟩:=h3';rw [e] at e';injection e' with e1 _ _
 subst e1;obtain ⟨gp,op,e2,hmem⟩:=h6 (by omega);subst e2;obtain ⟨y,hy⟩:∃ y,rows[i]?=some y:=⟨_,zg (by omega)⟩
 refine ⟨gp,op,rfl,y,⟨fun w hw=>?_,zC.2 ⟨_,hmem,rfl⟩,h5 i y p hy hi⟩⟩;rw [e] at h3;exact h3.rng (xB hw) wJ hy
def adV (a:Nat×Nat):Value:=.pointer (some ⟨a.1,a.2,none⟩)
def ji (m:Nat) (ks:List (Nat×Nat)):As:=⟨[m],fun w=>∃ (arr:Array MapEntry) (clock:Nat),w.heap[m]?=some (.map arr clock)∧arr.toList.map (fun e=>(e.key,e.val))=ks.map fun a=>(adV a,.bool true),
 fun w w' h hw=>by obtain ⟨arr,c,h1,h2⟩:=hw;exact ⟨arr,c,(h m (by simp)).trans h1,h2⟩,
 fun w hw b hb=>by obtain ⟨arr,c,h1,_⟩:=hw;simp at hb;subst hb;exact lt_of_block h1⟩
theorem Yd (m:Nat) (ks:List (Nat×Nat)):(ji m ks).fp=[m]:=rfl
theorem Zs (m:Nat) (ks:List (Nat×Nat)) (w:World):(ji m ks).ho w=∃ (arr:Array MapEntry) (clock:Nat),w.heap[m]?=some (.map arr clock)∧arr.toList.map (fun e=>(e.key,e.val))=ks.map fun a=>(adV a,.bool true):=rfl
attribute [irreducible] ji
section
variable {w:World} {P:Program} {kt te:TypeId} {j:TypeInfo}
theorem JH (hp:P.underlying kt=some (.pointer te)) (hte:P.info? te=some j) (a:Addr):(Op.equal kt (.pointer (some a)) (.pointer (some a))).run P w=.ok true w:=by
 have h:∀ d:Nat,(Op.equalIn (d+1) kt (.pointer (some a)) (.pointer (some a))).run P w=.ok true w:=fun d=>by
  simp [Op.equalIn,run_underlying hp,sizeOf,typeInfo,hte,run_sameAddr_same]
 simp [Op.equal,Op.maxDepth,h 9999]
theorem WN (hp:P.underlying kt=some (.pointer te)) (hte:P.info? te=some j) (hsz:j.size≠0) {a b:Nat×Nat} (hne:a≠b) (ha:yP w a.1) (hb:yP w b.1):(Op.equal kt (adV a) (adV b)).run P w=.ok false w:=by
 obtain ⟨ca,ta,ha⟩:=ha;obtain ⟨cb,tb,hb⟩:=hb;have hne':(⟨a.1,a.2,none⟩:Addr)≠⟨b.1,b.2,none⟩:=fun e=>hne (by
  injection e with e1 e2
  exact Prod.ext e1 e2)
 have h:∀ d:Nat,(Op.equalIn (d+1) kt (adV a) (adV b)).run P w=.ok false w:=fun d=>by
  simp [adV,Op.equalIn,run_underlying hp,sizeOf,typeInfo,hte,hsz,run_sameAddr_other w hne' ha hb]
 simp [Op.equal,Op.maxDepth,h 9999]
theorem Qv (hp:P.underlying kt=some (.pointer te)) (hte:P.info? te=some j) (hsz:j.size≠0) {a:Nat×Nat} (ha:yP w a.1):∀ (es:List MapEntry) (ks:List (Nat×Nat)) (i:Nat),es.map (fun e=>(e.key,e.val))=ks.map (fun a=>(adV a,.bool true))->(∀ b∈ks,yP w b.1) ->
  ∃ r,(Instr.findAsking kt (adV a) es i).run P w=.ok r w∧((a∈ks∧∃ n,r=some (n,.bool true))∨(a ∉ ks∧r=none))
 |[],ks,i,h,_=>by
  cases ks with
  |nil=>exact ⟨none,rfl,.inr ⟨by simp,rfl⟩⟩
  |cons k ks=>simp at h
 |e::es,[],i,h,_=>by simp at h
 |e::es,k::ks,i,h,hk=>by
  simp only [qU,je.injEq,Prod.mk.injEq] at h;obtain ⟨⟨h1,h2⟩,h3⟩:=h;unfold Instr.findAsking;by_cases he:a=k
  ·subst he;refine ⟨some (i,.bool true),?_,.inl ⟨by simp,i,rfl⟩⟩;rw [h1,h2];simp [adV,JH hp hte]
  ·obtain ⟨r,hr,hc⟩:=Qv hp hte hsz ha es ks (i+1) h3 fun b hb=>hk b (by simp [hb])
   refine ⟨r,?_,?_⟩
   ·rw [h1];simp [WN hp hte hsz he ha (hk k (by simp)),hr]
   ·rcases hc with ⟨c1,c2⟩|⟨c1,c2⟩
    ·exact .inl ⟨by simp [c1],c2⟩
    ·exact .inr ⟨by simp [c1,he],c2⟩
theorem WR (hp:P.underlying kt=some (.pointer te)) (hte:P.info? te=some j) (hsz:j.size≠0) {a:Nat×Nat} (ha:yP w a.1) {es:List MapEntry} {ks:List (Nat×Nat)} (h:es.map (fun e=>(e.key,e.val))=ks.map (fun a=>(adV a,.bool true))) (hk:∀ b∈ks,yP w b.1) :
  ∃ r,(Instr.findKey kt (adV a) es).run P w=.ok r w∧((a∈ks∧∃ n,r=some (n,.bool true))∨(a ∉ ks∧r=none)):=by
 cases es with
 |nil =>
  cases ks with
  |nil =>
   refine ⟨none,?_,.inr ⟨by simp,rfl⟩⟩;unfold Instr.findKey;simp [run_underlying hp,Instr.findNow]
  |cons k ks=>simp at h
 |cons e es =>
  cases ks with
  |nil=>simp at h
  |cons k ks =>
   obtain ⟨r,hr,hc⟩:=Qv hp hte hsz ha (e::es) (k::ks) 0 h hk;refine ⟨r,?_,hc⟩;have h1:e.key=adV k:=by
    simp only [qU,je.injEq,Prod.mk.injEq] at h;exact h.1.1
   have hs:Instr.sameNow (.pointer te) (adV a) (adV k)=none:=rfl;have hn:Instr.findNow (.pointer te) (adV a) (e::es) 0=none:=by
    unfold Instr.findNow;rw [h1,hs]
   unfold Instr.findKey;simp [run_underlying hp,hn,hr]
theorem Q0 (hp:P.underlying kt=some (.pointer te)) (em:Bool) (a:Nat×Nat):(Instr.checkKey em 10000 kt (adV a)).run P w=.ok () w:=by
 unfold Instr.checkKey;simp [run_underlying hp,adV]
theorem look_ptr (hp:P.underlying kt=some (.pointer te)) (hte:P.info? te=some j) (hsz:j.size≠0) {T bt:TypeId} (hu:P.underlying T=some (.map kt bt)) (hz:∀ w,(zeroValue bt).run P w=.ok (.bool false) w) {m:Nat} {ks:List (Nat×Nat)} (h:(ji m ks).ho w) {a:Nat×Nat} (ha:yP w a.1) (hk:∀ b∈ks,yP w b.1) :
  (Instr.lookup T (.map (some m)) (adV a) false).run P w=.ok (.bool (decide (a∈ks))) w:=by
 rw [Zs] at h;obtain ⟨arr,c,h1,h2⟩:=h;obtain ⟨r,hr,hc⟩:=WR hp hte hsz ha h2 hk;unfold Instr.lookup;rcases hc with ⟨c1,n,rfl⟩|⟨c1,rfl⟩
 ·simp [run_underlying hu,MapKept.run_getObj_map h1,Q0 hp,hr,Result.andThen,c1]
 ·simp [run_underlying hu,MapKept.run_getObj_map h1,Q0 hp,hr,hz,Result.andThen,c1]
theorem YS (hp:P.underlying kt=some (.pointer te)) (hte:P.info? te=some j) (hsz:j.size≠0) {T bt:TypeId} (hu:P.underlying T=some (.map kt bt)) {m:Nat} {ks:List (Nat×Nat)} (h:(ji m ks).ho w) {a:Nat×Nat} (hn:a ∉ ks) (ha:yP w a.1) (hk:∀ b∈ks,yP w b.1) :
  ∃ w',(Instr.mapUpdate T (.map (some m)) (adV a) (.bool true)).run P w=.ok () w'∧St w (ji m ks).fp [ji m (ks++[a])] w':=by
 have h':=h;rw [Zs] at h;obtain ⟨arr,c,h1,h2⟩:=h;obtain ⟨r,hr,hc⟩:=WR hp hte hsz ha h2 hk;rcases hc with ⟨c1,_⟩|⟨c1,rfl⟩
 ·exact absurd c1 hn
 ·refine ⟨{ w with heap:=w.heap.setIfInBounds m (.map (arr.push { key:=adV a,val:=.bool true,born:=c }) (c+1)) },?_,?_⟩
  ·unfold Instr.mapUpdate;simp [run_underlying hu,MapKept.run_getObj_map h1,Q0 hp,hr,MapKept.run_setObj_map _ h1,Result.andThen]
  ·have hm:=lt_of_block h1;refine ⟨rfl,rfl,rfl,by simp,fun b hb hne=>?_,fun A hA=>?_,fun A hA b hb=>?_,by simp⟩
   ·rw [Yd] at hne;simp at hne;simp [YX,Ne.symm hne]
   ·simp at hA;subst hA;rw [Zs];exact ⟨arr.push { key:=adV a,val:=.bool true,born:=c },c+1,by simp [hm],by simp [h2]⟩
   ·simp at hA;subst hA;rw [Yd] at hb ⊢;exact .inr hb
theorem St.new_amap {w0:World} {M:List Nat} {L:List As} (h:St w0 M L w):St w0 M (ji w.heap.size []::L) (w.alloc (.map #[] 0)):=by
 have h2:=h.alloc (.map #[] 0);exact h2.conv (by rw [Yd,qi]) fun hb=>by
  rw [Zs];rw [yB] at hb;exact ⟨#[],0,hb,rfl⟩
end
end
section
open Go.RowKit Go.Maps
attribute [local go_sem] qM
theorem YI {P:Program} (w:World) (d:Nat) (e:TypeId) (xs ys:Array Value) (f:Nat->Bool):∀ (is:List Nat),
  (∀ i∈is,∃ a b,(part e xs (i*1)).run P w=.ok a w∧(part e ys (i*1)).run P w=.ok b w∧(Op.equalIn d e a b).run P w=.ok (f i) w) ->
  (Op.eqItems d e 1 xs ys is).run P w=.ok (is.all f) w
 |[],_=>by simp [Op.eqItems]
 |i::is,h=>by
  have ih:=YI w d e xs ys f is fun j hj=>h j (qv _ hj)
  obtain ⟨a,b,h1,h2,h3⟩:=h i (zS ..);simp only [Op.eqItems,Sem.run_bind,h1,h2,h3,Result.andThen_ok];cases hb:f i with
  |true=>simpa [hb] using ih
  |false=>simp [hb]
def w4 (a0 a1 a2 a3:Int):Array Value:=#[.int .u64 a0,.int .u64 a1,.int .u64 a2,.int .u64 a3]
theorem w4_eq (a0 a1 a2 a3 b0 b1 b2 b3:Int) (w:World):(Op.equalIn 10000 34 (.agg (w4 a0 a1 a2 a3)) (.agg (w4 b0 b1 b2 b3))).run z6 w=.ok (a0==b0&&a1==b1&&a2==b2&&a3==b3) w:=by
 obtain ⟨i,hi⟩:∃ i,z6.info? 32=some i:=⟨_,rfl⟩
 have hu:z6.underlying 34=some (.array 4 32):=(by kernel_rfl);have hu2:z6.underlying 32=some (.int .u64):=(by kernel_rfl);rw [run_equalIn_array w 9999 _ _ hu hi];have hc:z6.cellsOf 32=1:=(by kernel_rfl);rw [hc];have hp:∀ (c0 c1 c2 c3:Int) (i:Nat),i<4->(part 32 (w4 c0 c1 c2 c3) (i*1)).run z6 w=.ok (.int .u64 ([c0,c1,c2,c3].getD i 0)) w:=fun c0 c1 c2 c3 i hi=>by
  have hcell:wG z6 32=true:=(by kernel_rfl);refine Z2 hcell ?_ w;rw [Zf]
  match i,hi with
  |0,_=>rfl
  |1,_=>rfl
  |2,_=>rfl
  |3,_=>rfl
 rw [YI w 9999 32 _ _ (fun i=>[a0,a1,a2,a3].getD i 0==[b0,b1,b2,b3].getD i 0) (zl 4) fun i hi=>⟨_,_,hp a0 a1 a2 a3 i (zo.1 hi),hp b0 b1 b2 b3 i (zo.1 hi),run_equalIn_int w 9998 32 _ _ _ _ hu2⟩];congr 1
 simp [List.range_succ,Bool.and_assoc]
theorem w4_neq (a0 a1 a2 a3 b0 b1 b2 b3:Int) (x y:Operand) (w:World):(do eqGuard .neq 34 x y (.agg (w4 a0 a1 a2 a3)) (.agg (w4 b0 b1 b2 b3));binOp .neq 34 (.agg (w4 a0 a1 a2 a3)) (.agg (w4 b0 b1 b2 b3)):Sem Value).run z6 w=.ok (.bool (!(a0==b0&&a1==b1&&a2==b2&&a3==b3))) w:=by
 have hg:z6.eqGuardType z6.depth 34=false:=(by kernel_rfl);rw [Sem.run_bind,run_eqGuard_agg w .neq 34 x y _ _ hg,Result.andThen_ok];have h:=w4_eq a0 a1 a2 a3 b0 b1 b2 b3 w;simp only [binOp];simp [Op.equal,Op.maxDepth,h]
section
variable {ops:Array Oper} {Q:Exit->Act->World->Prop} {rest:List Oper} {a:Act} {w:World} {dst:Option Tmp} {ty0:TypeId} {pos:String} {aft:Array Edge} {gd:Option (Nat×Bool)}
def AtNeq (P:Program) (ops:Array Oper) (Q:Exit->Act->World->Prop) (o:Oper) (_:TypeId) (_ _:Operand) (rest:List Oper) (a:Act) (w:World):Prop:=wpList P ops Q (o::rest) a w
theorem xu {t t2:TypeId} {x y:Operand} (h:AtNeq z6 ops Q ⟨dst,.binOp .neq t x y t2,ty0,pos,aft,gd⟩ t x y rest a w):wpList z6 ops Q (⟨dst,.binOp .neq t x y t2,ty0,pos,aft,gd⟩::rest) a w:=h
theorem AtNeq.w4 {o1:Oper} {t2:TypeId} {x y:Operand} (hw:Region.wanted o1 (yielded ops a.tmps)=true) (ho:o1.op=.binOp .neq 34 x y t2) (a0 a1 a2 a3 b0 b1 b2 b3:Int) (hx:a.eval x=.agg (w4 a0 a1 a2 a3)) (hy:a.eval y=.agg (w4 b0 b1 b2 b3)) {z:Bool} (hz:(!(a0==b0&&a1==b1&&a2==b2&&a3==b3))=z)
  (h:wpList z6 ops Q rest (a.put o1.dst (.bool z)) w):AtNeq z6 ops Q o1 34 x y rest a w :=
 wpList_step fun _ hK=>by
  rw [if_pos hw];unfold Oper.wp execOp;simp only [ho,hx,hy];have:=w4_neq a0 a1 a2 a3 b0 b1 b2 b3 x y w;rw [Sem.run_bind,this,Result.andThen_ok,hz];exact hK _ _ h
end
theorem vnode_c {P:zT} {g o:Nat} {x:R8} {r:Rx} (h:NodeAt P g o x r) (w:World) (hp:(zw P).ho w) :
  Calls z6 58 #[.pointer (some ⟨g,o,none⟩)] w fun e w'=>e=.returned (.bool (r.hd.okN r.ps.length))∧St w [] [] w':=by
 have H:=St.nil w [];have HK:Ks w [] [zw P]:=Ks.one hp;obtain ⟨rows,hhd,hfit,_⟩:=h.rx.inv;obtain ⟨ad,c,epv,hml,_⟩:=h.parts;obtain ⟨n,hn⟩:∃ z,r.ps.length=z:=⟨_,rfl⟩
 rw [hn] at epv hml ⊢;rw [hhd];simp only [maxLen] at hml;obtain ⟨⟨k,s0,s1,s2,s3,lo,hi⟩,pv⟩:=x;simp only at epv;subst epv;have HRG:Hid (∀ w,(zw P).ho w->w.rangeAt g (o+1) [.int .u64 (s0:Nat),.int .u64 (s1:Nat),.int .u64 (s2:Nat),.int .u64 (s3:Nat)]):=zh fun w hw j u hj=>by
  have:=h.rng w hw (1+j) u (by
   rw [show xE _=[.int .i64 k]++[.int .u64 (s0:Nat),.int .u64 (s1:Nat),.int .u64 (s2:Nat),.int .u64 (s3:Nat)]++[.int .i64 lo,.int .i64 hi,.slice ad n c] from rfl];rw [y7,qu (by simp),zv (by have:=zP hj;simp at this ⊢;omega)];simpa using hj)
  rw [Nat.add_assoc];exact this
 have HX0:Hid (∀ w,(zw P).ho w->w.cell? ⟨g,o,none⟩=some (.int .i64 k)):=zh (h.cell (j:=0) rfl);have HX5:Hid (∀ w,(zw P).ho w->w.cell? ⟨g,o+5,none⟩=some (.int .i64 lo)):=zh (h.cell (j:=5) rfl);have HX6:Hid (∀ w,(zw P).ho w->w.cell? ⟨g,o+6,none⟩=some (.int .i64 hi)):=zh (h.cell (j:=6) rfl);have HX7:Hid (∀ w,(zw P).ho w->w.cell? ⟨g,o+7,none⟩=some (.slice ad n c)):=zh (h.cell (j:=7) rfl);clear h hp hfit hhd hn;obtain ⟨ok,hok⟩:∃ z,(Hd.mk k s0 s1 s2 s3 lo hi).okN n=z:=⟨_,rfl⟩
 rw [hok];have HOK:=zh hok;clear hok;obtain ⟨z,hz⟩:∃ z,(!(((s0:Nat):Int)==0&&((s1:Nat):Int)==0&&((s2:Nat):Int)==0&&((s3:Nat):Int)==0))=z:=⟨_,rfl⟩
 have HZ:=zh hz;clear hz;obtain ⟨ql,hql⟩:∃ z,(lo != 0)=z:=⟨_,rfl⟩
 have HQL:=zh hql;obtain ⟨qh,hqh⟩:∃ z,(hi != 0)=z:=⟨_,rfl⟩
 have HQH:=zh hqh;by_cases hk2:k=2
 ·subst hk2;cases ql
  ·cases qh
   ·skip
    go_enter qw,qg;go_wp2_with (first|refine sL ?_|(refine sS ?_;clear H;intros;rename_i H)|((with_reducible refine qN ?_);refine AtLoad.rngT rfl rfl rfl (HRG.out _ (H.known (A:=zw P) HK pk)) rfl ?_;simp only [Act.put,puA,puB,puC])|((with_reducible refine xu ?_);refine AtNeq.w4 rfl rfl s0 s1 s2 s3 0 0 0 0 rfl rfl HZ.out ?_;simp only [Act.put,puA,puB,puC]));go_ret;refine ⟨?_,H.nix⟩;have hq:=HOK.out;rw [← hq];have hz:=HZ.out;simp only [bne,qf,qa,zU,qC,qn] at hql hqh hz;simp_all [Hd.okN]
    all_goals first|omega|(rw [← hq,q5];simp;done)
   ·skip
    go_enter qw,qg;go_wp2_with (first|refine sL ?_|(refine sS ?_;clear H;intros;rename_i H)|((with_reducible refine qN ?_);refine AtLoad.rngT rfl rfl rfl (HRG.out _ (H.known (A:=zw P) HK pk)) rfl ?_;simp only [Act.put,puA,puB,puC])|((with_reducible refine xu ?_);refine AtNeq.w4 rfl rfl s0 s1 s2 s3 0 0 0 0 rfl rfl HZ.out ?_;simp only [Act.put,puA,puB,puC]));go_ret;refine ⟨?_,H.nix⟩;have hq:=HOK.out;rw [← hq];have hz:=HZ.out;simp only [bne,qf,qa,zU,qC,qn] at hql hqh hz;simp_all [Hd.okN]
    all_goals first|omega|(rw [← hq,q5];simp;done)
  ·skip
   go_enter qw,qg;go_wp2_with (first|refine sL ?_|(refine sS ?_;clear H;intros;rename_i H)|((with_reducible refine qN ?_);refine AtLoad.rngT rfl rfl rfl (HRG.out _ (H.known (A:=zw P) HK pk)) rfl ?_;simp only [Act.put,puA,puB,puC])|((with_reducible refine xu ?_);refine AtNeq.w4 rfl rfl s0 s1 s2 s3 0 0 0 0 rfl rfl HZ.out ?_;simp only [Act.put,puA,puB,puC]));go_ret;refine ⟨?_,H.nix⟩;have hq:=HOK.out;rw [← hq];have hz:=HZ.out;simp only [bne,qf,qa,zU,qC,qn] at hql hqh hz;simp_all [Hd.okN]
   all_goals first|omega|(rw [← hq,q5];simp;done)
 ·have n2:(k != 2)=true:=(by simp [hk2]);have n2e:(k==2)=false:=(by simp [hk2]);by_cases hk5:k=5
  ·subst hk5;cases z
   ·skip
    by_cases hn1:n=1
    ·subst hn1;by_cases hl0:lo<0
     ·have d1:decide (lo<0)=true:=(by simp [hl0]);go_enter qw,qg;go_wp2_with (first|refine sL ?_|(refine sS ?_;clear H;intros;rename_i H)|((with_reducible refine qN ?_);refine AtLoad.rngT rfl rfl rfl (HRG.out _ (H.known (A:=zw P) HK pk)) rfl ?_;simp only [Act.put,puA,puB,puC])|((with_reducible refine xu ?_);refine AtNeq.w4 rfl rfl s0 s1 s2 s3 0 0 0 0 rfl rfl HZ.out ?_;simp only [Act.put,puA,puB,puC]));go_ret;refine ⟨?_,H.nix⟩;have hq:=HOK.out;rw [← hq];have hz:=HZ.out;simp only [bne,qf,qa,zU,qC,qn] at hql hqh hz;first|(simp_all [Hd.okN];done)|(simp_all [Hd.okN];omega)
     ·have d1:decide (lo<0)=false:=(by simp;omega);by_cases hl64:64<lo
      ·have d2:decide (64<lo)=true:=(by simp [hl64]);go_enter qw,qg;go_wp2_with (first|refine sL ?_|(refine sS ?_;clear H;intros;rename_i H)|((with_reducible refine qN ?_);refine AtLoad.rngT rfl rfl rfl (HRG.out _ (H.known (A:=zw P) HK pk)) rfl ?_;simp only [Act.put,puA,puB,puC])|((with_reducible refine xu ?_);refine AtNeq.w4 rfl rfl s0 s1 s2 s3 0 0 0 0 rfl rfl HZ.out ?_;simp only [Act.put,puA,puB,puC]));go_ret;refine ⟨?_,H.nix⟩;have hq:=HOK.out;rw [← hq];have hz:=HZ.out;simp only [bne,qf,qa,zU,qC,qn] at hql hqh hz;first|(simp_all [Hd.okN];done)|(simp_all [Hd.okN];omega)
      ·have d2:decide (64<lo)=false:=(by simp;omega);obtain ⟨zz,hzz⟩:∃ zz,(hi == -1 || (decide (lo<=hi)&&decide (hi<=64)))=zz:=⟨_,rfl⟩
       have hok5:ok=zz:=by
        rw [← HOK.out,← hzz];have hz:=HZ.out;simp only [zU,qn] at hz;simp [Hd.okN];simp at hz;simp [hz];omega
       by_cases hm:hi = -1
       ·subst hm;go_enter qw,qg;go_wp2_with (first|refine sL ?_|(refine sS ?_;clear H;intros;rename_i H)|((with_reducible refine qN ?_);refine AtLoad.rngT rfl rfl rfl (HRG.out _ (H.known (A:=zw P) HK pk)) rfl ?_;simp only [Act.put,puA,puB,puC])|((with_reducible refine xu ?_);refine AtNeq.w4 rfl rfl s0 s1 s2 s3 0 0 0 0 rfl rfl HZ.out ?_;simp only [Act.put,puA,puB,puC]));refine zr H 23 [] [] (by kernel_rfl) (by kernel_rfl) ?_;apply Exists.intro;refine ⟨fun w1 hw1 HX=>?_,fun bs wr Hr=>?_⟩
        ·refine sG ?_;repeat (first|go_big_quiet_skip|refine sQ ?_|fail|go_big_quiet_step (fail))
         exact wpQuiet_nil rfl
        clear H;have H:=Hr;clear Hr;replace H:=sH H;refine sT ?_;go_wp2_with (first|refine sL ?_|(refine sS ?_;clear H;intros;rename_i H));go_ret;refine ⟨?_,H.nix⟩;rw [hok5,← hzz];simp
       ·have g1:(hi == -1)=false:=(by simp [hm]);by_cases hlh:lo<=hi
        ·have g2:decide (lo<=hi)=true:=(by simp [hlh]);by_cases hh64:hi<=64
         ·have g3:decide (hi<=64)=true:=(by simp [hh64]);go_enter qw,qg;go_wp2_with (first|refine sL ?_|(refine sS ?_;clear H;intros;rename_i H)|((with_reducible refine qN ?_);refine AtLoad.rngT rfl rfl rfl (HRG.out _ (H.known (A:=zw P) HK pk)) rfl ?_;simp only [Act.put,puA,puB,puC])|((with_reducible refine xu ?_);refine AtNeq.w4 rfl rfl s0 s1 s2 s3 0 0 0 0 rfl rfl HZ.out ?_;simp only [Act.put,puA,puB,puC]));refine zr H 23 [] [] (by kernel_rfl) (by kernel_rfl) ?_;apply Exists.intro;refine ⟨fun w1 hw1 HX=>?_,fun bs wr Hr=>?_⟩
          ·refine sG ?_;repeat (first|go_big_quiet_skip|refine sQ ?_|fail|go_big_quiet_step (fail))
           exact wpQuiet_nil rfl
          clear H;have H:=Hr;clear Hr;replace H:=sH H;refine sT ?_;go_wp2_with (first|refine sL ?_|(refine sS ?_;clear H;intros;rename_i H));go_ret;refine ⟨?_,H.nix⟩;rw [hok5,← hzz];simp [g1,hlh,hh64]
         ·have g3:decide (hi<=64)=false:=(by simp [hh64]);go_enter qw,qg;go_wp2_with (first|refine sL ?_|(refine sS ?_;clear H;intros;rename_i H)|((with_reducible refine qN ?_);refine AtLoad.rngT rfl rfl rfl (HRG.out _ (H.known (A:=zw P) HK pk)) rfl ?_;simp only [Act.put,puA,puB,puC])|((with_reducible refine xu ?_);refine AtNeq.w4 rfl rfl s0 s1 s2 s3 0 0 0 0 rfl rfl HZ.out ?_;simp only [Act.put,puA,puB,puC]));refine zr H 23 [] [] (by kernel_rfl) (by kernel_rfl) ?_;apply Exists.intro;refine ⟨fun w1 hw1 HX=>?_,fun bs wr Hr=>?_⟩
          ·refine sG ?_;repeat (first|go_big_quiet_skip|refine sQ ?_|fail|go_big_quiet_step (fail))
           exact wpQuiet_nil rfl
          clear H;have H:=Hr;clear Hr;replace H:=sH H;refine sT ?_;go_wp2_with (first|refine sL ?_|(refine sS ?_;clear H;intros;rename_i H));go_ret;refine ⟨?_,H.nix⟩;rw [hok5,← hzz];simp [g1,hlh,hh64]
        ·have g2:decide (lo<=hi)=false:=(by simp [hlh]);go_enter qw,qg;go_wp2_with (first|refine sL ?_|(refine sS ?_;clear H;intros;rename_i H)|((with_reducible refine qN ?_);refine AtLoad.rngT rfl rfl rfl (HRG.out _ (H.known (A:=zw P) HK pk)) rfl ?_;simp only [Act.put,puA,puB,puC])|((with_reducible refine xu ?_);refine AtNeq.w4 rfl rfl s0 s1 s2 s3 0 0 0 0 rfl rfl HZ.out ?_;simp only [Act.put,puA,puB,puC]));refine zr H 23 [] [] (by kernel_rfl) (by kernel_rfl) ?_;apply Exists.intro;refine ⟨fun w1 hw1 HX=>?_,fun bs wr Hr=>?_⟩
         ·refine sG ?_;repeat (first|go_big_quiet_skip|refine sQ ?_|fail|go_big_quiet_step (fail))
          exact wpQuiet_nil rfl
         clear H;have H:=Hr;clear Hr;replace H:=sH H;refine sT ?_;go_wp2_with (first|refine sL ?_|(refine sS ?_;clear H;intros;rename_i H));go_ret;refine ⟨?_,H.nix⟩;rw [hok5,← hzz];simp [g1];omega
    ·have m1:((n:Int) != 1)=true:=(by simp;omega);go_enter qw,qg;go_wp2_with (first|refine sL ?_|(refine sS ?_;clear H;intros;rename_i H)|((with_reducible refine qN ?_);refine AtLoad.rngT rfl rfl rfl (HRG.out _ (H.known (A:=zw P) HK pk)) rfl ?_;simp only [Act.put,puA,puB,puC])|((with_reducible refine xu ?_);refine AtNeq.w4 rfl rfl s0 s1 s2 s3 0 0 0 0 rfl rfl HZ.out ?_;simp only [Act.put,puA,puB,puC]));go_ret;refine ⟨?_,H.nix⟩;have hq:=HOK.out;rw [← hq];have hz:=HZ.out;simp only [bne,qf,qa,zU,qC,qn] at hql hqh hz;first|(simp_all [Hd.okN];done)|(simp_all [Hd.okN];omega)
   ·skip
    go_enter qw,qg;go_wp2_with (first|refine sL ?_|(refine sS ?_;clear H;intros;rename_i H)|((with_reducible refine qN ?_);refine AtLoad.rngT rfl rfl rfl (HRG.out _ (H.known (A:=zw P) HK pk)) rfl ?_;simp only [Act.put,puA,puB,puC])|((with_reducible refine xu ?_);refine AtNeq.w4 rfl rfl s0 s1 s2 s3 0 0 0 0 rfl rfl HZ.out ?_;simp only [Act.put,puA,puB,puC]));go_ret;refine ⟨?_,H.nix⟩;have hz:=HZ.out;have e:(s0==0&&s1==0&&s2==0&&s3==0)=false:=by
     rw [Qj];intro c;simp at c hz;omega
    rw [← HOK.out];unfold Hd.okN;simp [e,hk2]
  ·have n5:(k != 5)=true:=(by simp [hk5]);have n5e:(k==5)=false:=(by simp [hk5]);cases z
   ·skip
    by_cases hk1:k=1
    ·subst hk1;cases ql
     ·cases qh
      ·skip
       go_enter qw,qg;go_wp2_with (first|refine sL ?_|(refine sS ?_;clear H;intros;rename_i H)|((with_reducible refine qN ?_);refine AtLoad.rngT rfl rfl rfl (HRG.out _ (H.known (A:=zw P) HK pk)) rfl ?_;simp only [Act.put,puA,puB,puC])|((with_reducible refine xu ?_);refine AtNeq.w4 rfl rfl s0 s1 s2 s3 0 0 0 0 rfl rfl HZ.out ?_;simp only [Act.put,puA,puB,puC]));go_ret;refine ⟨?_,H.nix⟩;have hq:=HOK.out;rw [← hq];have hz:=HZ.out;simp only [bne,qf,qa,zU,qC,qn] at hql hqh hz;simp_all [Hd.okN]
       all_goals first|omega|(rw [← hq,q5];simp;done)
      ·skip
       go_enter qw,qg;go_wp2_with (first|refine sL ?_|(refine sS ?_;clear H;intros;rename_i H)|((with_reducible refine qN ?_);refine AtLoad.rngT rfl rfl rfl (HRG.out _ (H.known (A:=zw P) HK pk)) rfl ?_;simp only [Act.put,puA,puB,puC])|((with_reducible refine xu ?_);refine AtNeq.w4 rfl rfl s0 s1 s2 s3 0 0 0 0 rfl rfl HZ.out ?_;simp only [Act.put,puA,puB,puC]));go_ret;refine ⟨?_,H.nix⟩;have hq:=HOK.out;rw [← hq];have hz:=HZ.out;simp only [bne,qf,qa,zU,qC,qn] at hql hqh hz;simp_all [Hd.okN]
       all_goals first|omega|(rw [← hq,q5];simp;done)
     ·skip
      go_enter qw,qg;go_wp2_with (first|refine sL ?_|(refine sS ?_;clear H;intros;rename_i H)|((with_reducible refine qN ?_);refine AtLoad.rngT rfl rfl rfl (HRG.out _ (H.known (A:=zw P) HK pk)) rfl ?_;simp only [Act.put,puA,puB,puC])|((with_reducible refine xu ?_);refine AtNeq.w4 rfl rfl s0 s1 s2 s3 0 0 0 0 rfl rfl HZ.out ?_;simp only [Act.put,puA,puB,puC]));go_ret;refine ⟨?_,H.nix⟩;have hq:=HOK.out;rw [← hq];have hz:=HZ.out;simp only [bne,qf,qa,zU,qC,qn] at hql hqh hz;simp_all [Hd.okN]
      all_goals first|omega|(rw [← hq,q5];simp;done)
    ·have n1e:(k==1)=false:=(by simp [hk1]);by_cases hk3:k=3
     ·subst hk3;cases ql
      ·cases qh
       ·skip
        go_enter qw,qg;go_wp2_with (first|refine sL ?_|(refine sS ?_;clear H;intros;rename_i H)|((with_reducible refine qN ?_);refine AtLoad.rngT rfl rfl rfl (HRG.out _ (H.known (A:=zw P) HK pk)) rfl ?_;simp only [Act.put,puA,puB,puC])|((with_reducible refine xu ?_);refine AtNeq.w4 rfl rfl s0 s1 s2 s3 0 0 0 0 rfl rfl HZ.out ?_;simp only [Act.put,puA,puB,puC]));go_ret;refine ⟨?_,H.nix⟩;have hq:=HOK.out;rw [← hq];have hz:=HZ.out;simp only [bne,qf,qa,zU,qC,qn] at hql hqh hz;simp_all [Hd.okN]
        all_goals first|omega|(rw [← hq,q5];simp;done)
       ·skip
        go_enter qw,qg;go_wp2_with (first|refine sL ?_|(refine sS ?_;clear H;intros;rename_i H)|((with_reducible refine qN ?_);refine AtLoad.rngT rfl rfl rfl (HRG.out _ (H.known (A:=zw P) HK pk)) rfl ?_;simp only [Act.put,puA,puB,puC])|((with_reducible refine xu ?_);refine AtNeq.w4 rfl rfl s0 s1 s2 s3 0 0 0 0 rfl rfl HZ.out ?_;simp only [Act.put,puA,puB,puC]));go_ret;refine ⟨?_,H.nix⟩;have hq:=HOK.out;rw [← hq];have hz:=HZ.out;simp only [bne,qf,qa,zU,qC,qn] at hql hqh hz;simp_all [Hd.okN]
        all_goals first|omega|(rw [← hq,q5];simp;done)
      ·skip
       go_enter qw,qg;go_wp2_with (first|refine sL ?_|(refine sS ?_;clear H;intros;rename_i H)|((with_reducible refine qN ?_);refine AtLoad.rngT rfl rfl rfl (HRG.out _ (H.known (A:=zw P) HK pk)) rfl ?_;simp only [Act.put,puA,puB,puC])|((with_reducible refine xu ?_);refine AtNeq.w4 rfl rfl s0 s1 s2 s3 0 0 0 0 rfl rfl HZ.out ?_;simp only [Act.put,puA,puB,puC]));go_ret;refine ⟨?_,H.nix⟩;have hq:=HOK.out;rw [← hq];have hz:=HZ.out;simp only [bne,qf,qa,zU,qC,qn] at hql hqh hz;simp_all [Hd.okN]
       all_goals first|omega|(rw [← hq,q5];simp;done)
     ·have n3e:(k==3)=false:=(by simp [hk3]);by_cases hk4:k=4
      ·subst hk4;cases ql
       ·cases qh
        ·skip
         go_enter qw,qg;go_wp2_with (first|refine sL ?_|(refine sS ?_;clear H;intros;rename_i H)|((with_reducible refine qN ?_);refine AtLoad.rngT rfl rfl rfl (HRG.out _ (H.known (A:=zw P) HK pk)) rfl ?_;simp only [Act.put,puA,puB,puC])|((with_reducible refine xu ?_);refine AtNeq.w4 rfl rfl s0 s1 s2 s3 0 0 0 0 rfl rfl HZ.out ?_;simp only [Act.put,puA,puB,puC]));go_ret;refine ⟨?_,H.nix⟩;have hq:=HOK.out;rw [← hq];have hz:=HZ.out;simp only [bne,qf,qa,zU,qC,qn] at hql hqh hz;simp_all [Hd.okN]
         all_goals first|omega|(rw [← hq,q5];simp;done)
        ·skip
         go_enter qw,qg;go_wp2_with (first|refine sL ?_|(refine sS ?_;clear H;intros;rename_i H)|((with_reducible refine qN ?_);refine AtLoad.rngT rfl rfl rfl (HRG.out _ (H.known (A:=zw P) HK pk)) rfl ?_;simp only [Act.put,puA,puB,puC])|((with_reducible refine xu ?_);refine AtNeq.w4 rfl rfl s0 s1 s2 s3 0 0 0 0 rfl rfl HZ.out ?_;simp only [Act.put,puA,puB,puC]));go_ret;refine ⟨?_,H.nix⟩;have hq:=HOK.out;rw [← hq];have hz:=HZ.out;simp only [bne,qf,qa,zU,qC,qn] at hql hqh hz;simp_all [Hd.okN]
         all_goals first|omega|(rw [← hq,q5];simp;done)
       ·skip
        go_enter qw,qg;go_wp2_with (first|refine sL ?_|(refine sS ?_;clear H;intros;rename_i H)|((with_reducible refine qN ?_);refine AtLoad.rngT rfl rfl rfl (HRG.out _ (H.known (A:=zw P) HK pk)) rfl ?_;simp only [Act.put,puA,puB,puC])|((with_reducible refine xu ?_);refine AtNeq.w4 rfl rfl s0 s1 s2 s3 0 0 0 0 rfl rfl HZ.out ?_;simp only [Act.put,puA,puB,puC]));go_ret;refine ⟨?_,H.nix⟩;have hq:=HOK.out;rw [← hq];have hz:=HZ.out;simp only [bne,qf,qa,zU,qC,qn] at hql hqh hz;simp_all [Hd.okN]
        all_goals first|omega|(rw [← hq,q5];simp;done)
      ·have n4e:(k==4)=false:=(by simp [hk4]);cases ql
       ·cases qh
        ·skip
         go_enter qw,qg;go_wp2_with (first|refine sL ?_|(refine sS ?_;clear H;intros;rename_i H)|((with_reducible refine qN ?_);refine AtLoad.rngT rfl rfl rfl (HRG.out _ (H.known (A:=zw P) HK pk)) rfl ?_;simp only [Act.put,puA,puB,puC])|((with_reducible refine xu ?_);refine AtNeq.w4 rfl rfl s0 s1 s2 s3 0 0 0 0 rfl rfl HZ.out ?_;simp only [Act.put,puA,puB,puC]));go_ret;refine ⟨?_,H.nix⟩;have hq:=HOK.out;rw [← hq];have hz:=HZ.out;simp only [bne,qf,qa,zU,qC,qn] at hql hqh hz;simp_all [Hd.okN]
         all_goals first|omega|(rw [← hq,q5];simp;done)
        ·skip
         go_enter qw,qg;go_wp2_with (first|refine sL ?_|(refine sS ?_;clear H;intros;rename_i H)|((with_reducible refine qN ?_);refine AtLoad.rngT rfl rfl rfl (HRG.out _ (H.known (A:=zw P) HK pk)) rfl ?_;simp only [Act.put,puA,puB,puC])|((with_reducible refine xu ?_);refine AtNeq.w4 rfl rfl s0 s1 s2 s3 0 0 0 0 rfl rfl HZ.out ?_;simp only [Act.put,puA,puB,puC]));go_ret;refine ⟨?_,H.nix⟩;have hq:=HOK.out;rw [← hq];have hz:=HZ.out;simp only [bne,qf,qa,zU,qC,qn] at hql hqh hz;simp_all [Hd.okN]
         all_goals first|omega|(rw [← hq,q5];simp;done)
       ·skip
        go_enter qw,qg;go_wp2_with (first|refine sL ?_|(refine sS ?_;clear H;intros;rename_i H)|((with_reducible refine qN ?_);refine AtLoad.rngT rfl rfl rfl (HRG.out _ (H.known (A:=zw P) HK pk)) rfl ?_;simp only [Act.put,puA,puB,puC])|((with_reducible refine xu ?_);refine AtNeq.w4 rfl rfl s0 s1 s2 s3 0 0 0 0 rfl rfl HZ.out ?_;simp only [Act.put,puA,puB,puC]));go_ret;refine ⟨?_,H.nix⟩;have hq:=HOK.out;rw [← hq];have hz:=HZ.out;simp only [bne,qf,qa,zU,qC,qn] at hql hqh hz;simp_all [Hd.okN]
        all_goals first|omega|(rw [← hq,q5];simp;done)
   ·skip
    go_enter qw,qg;go_wp2_with (first|refine sL ?_|(refine sS ?_;clear H;intros;rename_i H)|((with_reducible refine qN ?_);refine AtLoad.rngT rfl rfl rfl (HRG.out _ (H.known (A:=zw P) HK pk)) rfl ?_;simp only [Act.put,puA,puB,puC])|((with_reducible refine xu ?_);refine AtNeq.w4 rfl rfl s0 s1 s2 s3 0 0 0 0 rfl rfl HZ.out ?_;simp only [Act.put,puA,puB,puC]));go_ret;refine ⟨?_,H.nix⟩;have hz:=HZ.out;have e:(s0==0&&s1==0&&s2==0&&s3==0)=false:=by
     rw [Qj];intro c;simp at c hz;omega
    rw [← HOK.out];unfold Hd.okN;simp [e,hk2]
end
section
open Go.RowKit Go.Maps
attribute [local go_sem] qM
theorem VR {α:Type} {enc:α->List Value} {e k g n c:Nat} {xs:List α} {x:α} {w:World} (hk:∀ x,(enc x).length=k) (hn:xs.length=n) (h:(zi enc e k (.slice (some ⟨g,0,none⟩) (n+1) c) (xs++[x])).ho w):(zi enc e k (.slice (some ⟨g,0,none⟩) n c) xs).ho w:=by
 rw [xp] at h ⊢;obtain ⟨h1,h2⟩:=h;rcases h2 with ⟨h',_⟩|⟨g',cap,cur,h',h3,h4,h5,h6,h7,h8⟩
 ·cases h'
 ·injection h' with e1 e2 e3
  injection e1 with e1
  injection e1 with e1
  subst e1 e3;subst hn;refine ⟨qz enc k hk xs,.inr ⟨g,c,cur,rfl,h3,h4,by simp at h5;omega,h6,h7,?_⟩⟩;have:zX enc (xs++[x])=zX enc xs++enc x:=Yq enc xs x;rw [this] at h8;have h9:=congrArg (List.take (xs.length*k)) h8;rw [List.take_take,List.take_left' (qz enc k hk xs)] at h9;rw [← h9,wi];exact kV _ (by simp)
theorem St.cut {α:Type} {enc:α->List Value} {e k g n c:Nat} {xs:List α} {x:α} {w0 w:World} {M:List Nat} {R:List As} (h:St w0 M (zi enc e k (.slice (some ⟨g,0,none⟩) (n+1) c) (xs++[x])::R) w) (hk:∀ x,(enc x).length=k) (hn:xs.length=n):St w0 M (zi enc e k (.slice (some ⟨g,0,none⟩) n c) xs::R) w :=
 h.conv (by rw [q9,q9];rfl) (VR hk hn)
def Q3 (a:Nat×Nat):List Value:=[adV a]
theorem Zw (a:Nat×Nat):(Q3 a).length=1:=rfl
theorem encP_one (a:Nat×Nat):∀ u∈Q3 a,u.oneCell'=true:=by
 intro u hu;simp only [Q3,zV] at hu;subst hu;rfl
section
variable {ops:Array Oper} {Q:Exit->Act->World->Prop} {rest:List Oper} {a:Act} {w w0:World} {M:List Nat} {L R:List As} {o1:Oper} {dst:Option Tmp} {ty0:TypeId} {pos:String} {aft:Array Edge} {gd:Option (Nat×Bool)}
theorem AtMakeMap.am {o1:Oper} {t:TypeId} (H:St w0 M L w) (hw:Region.wanted o1 (yielded ops a.tmps)=true) (ho:o1.op=.makeMap t none)
  (h:∀ m w',St w0 M (ji m []::L) w'->wpList z6 ops Q rest (a.put o1.dst (.map (some m))) w'):AtMakeMap z6 ops Q o1 t rest a w :=
 wpList_step fun _ hK=>by
  rw [if_pos hw];unfold Oper.wp execOp;have hr:(Instr.makeMap t none).run z6 w=.ok (.map (some w.heap.size)) (w.alloc (.map #[] 0)):=rfl;simp only [ho,Option.map_none,Sem.run_bind,hr,Result.andThen_ok,Sem.run_pure];exact hK _ _ (h _ _ H.new_amap)
def AtIns (P:Program) (ops:Array Oper) (Q:Exit->Act->World->Prop) (o:Oper) (_:TypeId) (_ _ _:Operand) (rest:List Oper) (a:Act) (w:World):Prop:=wpList P ops Q (o::rest) a w
theorem isIns {P:Program} {t:TypeId} {x y z:Operand} (h:AtIns P ops Q ⟨dst,.insert t x y z,ty0,pos,aft,gd⟩ t x y z rest a w):wpList P ops Q (⟨dst,.insert t x y z,ty0,pos,aft,gd⟩::rest) a w:=h
theorem K3:z6.underlying 64=some (.pointer 37):=by kernel_rfl
theorem XZ:z6.underlying 116=some (.map 64 4):=by kernel_rfl
theorem Wc:∃ j,z6.info? 37=some j∧j.size≠0:=by
 have h:(z6.info? 37).map (·.size)=some 8:=(by kernel_rfl);cases hj:z6.info? 37 with
 |none=>rw [hj] at h;simp at h
 |some j=>rw [hj] at h;simp at h;exact ⟨j,rfl,by omega⟩
theorem AtIns.ptr {x y z:Operand} (H:St w0 M L w) (hw:Region.wanted o1 (yielded ops a.tmps)=true) (ho:o1.op=.insert 116 x y z) {m:Nat} (hx:a.eval x=.map (some m)) {ks:List (Nat×Nat)} (hp:Pick L (ji m ks) R)
  (k:Nat×Nat) (hy:a.eval y=adV k) (hz:xL a z=some (.bool true)) (hn:k ∉ ks) (hk:yP w k.1) (hks:∀ b∈ks,yP w b.1)
  (h:∀ w',St w0 M (ji m (ks++[k])::R) w'->wpList z6 ops Q rest (a.put o1.dst undef) w'):AtIns z6 ops Q o1 116 x y z rest a w :=
 wpList_step fun _ hK=>by
  rw [if_pos hw];have H':=H.pick hp;obtain ⟨j,hj,hj0⟩:=Wc;obtain ⟨w',hr,hst⟩:=YS K3 hj hj0 XZ (H'.ho _ zS) hn hk hks;unfold Oper.wp execOp;simp only [ho,hx,hy,xR hz,Sem.run_bind,hr,Result.andThen_ok,Sem.run_pure];exact hK _ _ (h w' (H'.call hst))
theorem AtUpdate.ptr {x y z:Operand} (H:St w0 M L w) (hw:Region.wanted o1 (yielded ops a.tmps)=true) (ho:o1.op=.mapUpdate 116 x y z) {m:Nat} (hx:a.eval x=.map (some m)) {ks:List (Nat×Nat)} (hp:Pick L (ji m ks) R)
  (k:Nat×Nat) (hy:a.eval y=adV k) (hz:xL a z=some (.bool true)) (hn:k ∉ ks) (hk:yP w k.1) (hks:∀ b∈ks,yP w b.1)
  (h:∀ w',St w0 M (ji m (ks++[k])::R) w'->wpList z6 ops Q rest (a.put o1.dst undef) w'):AtUpdate z6 ops Q o1 116 x y z rest a w :=
 wpList_step fun _ hK=>by
  rw [if_pos hw];have H':=H.pick hp;obtain ⟨j,hj,hj0⟩:=Wc;obtain ⟨w',hr,hst⟩:=YS K3 hj hj0 XZ (H'.ho _ zS) hn hk hks;unfold Oper.wp execOp;simp only [ho,hx,hy,xR hz,Sem.run_bind,hr,Result.andThen_ok,Sem.run_pure];exact hK _ _ (h w' (H'.call hst))
theorem look_am {m:Nat} {ks:List (Nat×Nat)} (h:(ji m ks).ho w) {k:Nat×Nat} (hk:yP w k.1) (hks:∀ b∈ks,yP w b.1):(Instr.lookup 116 (.map (some m)) (adV k) false).run z6 w=.ok (.bool (decide (k∈ks))) w:=by
 obtain ⟨j,hj,hj0⟩:=Wc;exact look_ptr K3 hj hj0 XZ (YV (t:=4) rfl) h hk hks
end
theorem WM {x y:R8} (h:xE x=xE y):x=y:=by
 obtain ⟨⟨k,a,b,c,d,l,u⟩,pv⟩:=x;obtain ⟨⟨k',a',b',c',d',l',u'⟩,pv'⟩:=y;simp only [xE,je.injEq,Value.int.injEq,true_and,and_true] at h;obtain ⟨rfl,h1,h2,h3,h4,rfl,rfl,rfl⟩:=h;have e1:a=a':=(by omega);have e2:b=b':=(by omega);have e3:c=c':=(by omega);have e4:d=d':=(by omega);subst e1 e2 e3 e4;rfl
theorem rng_eq {w:World} {g o:Nat} {xs ys:List Value} (h:w.rangeAt g o xs) (k:w.rangeAt g o ys) (hl:xs.length=ys.length):xs=ys:=by
 apply yF;intro i;rcases zD i xs.length with hi|hi
 ·have h1:=h i _ (zg hi);have h2:=k i _ (zg (by omega:i<ys.length));rw [h1] at h2;rw [zg hi,zg (by omega:i<ys.length)];exact h2
 ·rw [zu hi,zu (by omega)]
theorem Xo:∀ (xs ys:List R8),xs.length=ys.length->zX xE xs=zX xE ys->xs=ys
 |[],[],_,_=>rfl
 |[],y::ys,h,_=>by simp at h
 |x::xs,[],h,_=>by simp at h
 |x::xs,y::ys,h,he=>by
  have hx:zX xE (x::xs)=xE x++zX xE xs:=rfl;have hy:zX xE (y::ys)=xE y++zX xE ys:=rfl;rw [hx,hy] at he;obtain ⟨g1,g2⟩:=List.append_inj he (by rw [wJ,wJ]);rw [WM g1,Xo xs ys (by simpa using h) g2]
theorem RowIn.uniq8 {P:zT} {v:Value} {xs ys:List R8} {w:World} (hw:(zx P).ho w) (h:RowIn P xE 8 v xs) (k:RowIn P xE 8 v ys):xs=ys:=by
 obtain ⟨ad,c,e1,_,h3⟩:=h;obtain ⟨ad',c',e2,_,k3⟩:=k;rw [e1] at e2;injection e2 with e2 e3 _
 subst e2;rcases qR xs.length with h0|h0
 ·have hx:xs=[]:=qI h0;have hy:ys=[]:=qI (by omega);rw [hx,hy]
 ·obtain ⟨g,o,rfl,hm⟩:=h3 h0;obtain ⟨g',o',e4,km⟩:=k3 (by omega);injection e4 with e4
  injection e4 with e5 e6
  subst e5 e6;have hl:(zX xE xs).length=(zX xE ys).length:=(by rw [qz xE 8 wJ,qz xE 8 wJ,e3]);exact Xo xs ys e3 (rng_eq (ZJ hw hm) (ZJ hw km) hl)
theorem RxIn.uniq {P:zT} {w:World} (hw:(zw P).ho w) {x:R8} {r:Rx} (h:RxIn P x r):∀ {r':Rx},RxIn P x r'->r=r':=by
 induction h with
 |mk x l rows hf hr hl hs ih =>
  intro r' h';obtain ⟨rows',e1,_,hr',hl',hs'⟩:=h'.inv;have:=RowIn.uniq8 (xB hw) hr hr';subst this;obtain ⟨h9,l9⟩:=r';simp only [Rx.hd,Rx.ps] at e1 hl' hs';subst e1;congr 1
  apply yF;intro i;rcases zD i l.length with hi|hi
  ·have g1:=zg hi;have g2:l9[i]?=some l9[i]:=zg (by omega);have g3:rows[i]?=some rows[i]:=zg (by omega);rw [g1,g2,ih i _ _ g3 g1 (hs' i _ _ g3 g2)]
  ·rw [zu hi,zu (by omega)]
theorem NodeAt.uniq {P:zT} {w:World} (hw:(zw P).ho w) {g o:Nat} {x x':R8} {r r':Rx} (h:NodeAt P g o x r) (k:NodeAt P g o x' r'):x=x'∧r=r':=by
 have:x=x':=WM (rng_eq (h.rng w hw) (k.rng w hw) rfl);subst this;exact ⟨rfl,h.rx.uniq hw k.rx⟩
def xq (P:zT):List (Nat×Nat):=P.flatMap fun e=>(zl e.2.2.length).map fun i=>(e.1,e.2.1+i*8)
theorem NodeAt.kid {P:zT} {g o:Nat} {x:R8} {r:Rx} (h:NodeAt P g o x r):∃ (ad:Option Addr) (c:Nat),x.pv=.slice ad r.ps.length c∧r.ps.length<=maxLen∧∀ (i:Nat) (p:Rx),r.ps[i]?=some p->∃ gp op,ad=some ⟨gp,op,none⟩∧(gp,op+i*8)∈xq P∧∃ y,NodeAt P gp (op+i*8) y p:=by
 obtain ⟨ad,c,e,hm,hk⟩:=h.parts;obtain ⟨rows,h1,h2,h3,h4,h5⟩:=h.rx.inv;refine ⟨ad,c,e,hm,fun i p hi=>?_⟩;obtain ⟨gp,op,e2,y,hy⟩:=hk i p hi;have hil:=zP hi;refine ⟨gp,op,e2,?_,y,hy⟩;obtain ⟨ad',c',e',_,h6⟩:=h3;rw [e] at e';injection e' with e1 _ _
 subst e1;obtain ⟨gp',op',e3,hmem⟩:=h6 (by omega);rw [e2] at e3;injection e3 with e3
 injection e3 with e3 e4
 subst e3 e4;unfold xq;refine qP.2 ⟨_,hmem,zC.2 ⟨i,zo.2 ?_,rfl⟩⟩;show i<(zX xE rows).length
 rw [qz xE 8 wJ];omega
def DoneN (P:zT) (seen:List (Nat×Nat)) (a:Nat×Nat):Prop:=∀ x r,NodeAt P a.1 a.2 x r->r.hd.okN r.ps.length=true∧∀ (i:Nat) (p:Rx),r.ps[i]?=some p->∃ b∈seen,∃ y,NodeAt P b.1 b.2 y p
structure VaIn (P:zT) (a0:Nat×Nat) (r0:Rx) (seen todo:List (Nat×Nat)):Prop where
 nd:seen.Nodup
 root:a0∈seen
 sub:∀ a∈todo,a∈seen
 node:∀ a∈seen,∃ x r,NodeAt P a.1 a.2 x r∧(r0.valid=true->r.valid=true)
 done:∀ a∈seen,a ∉ todo->DoneN P seen a
 fin:∀ a∈seen,a∈a0::xq P
structure VaJn (P:zT) (a0:Nat×Nat) (r0:Rx) (a:Nat×Nat) (r:Rx) (i:Nat) (seen todo:List (Nat×Nat)):Prop where
 nd:seen.Nodup
 root:a0∈seen
 sub:∀ b∈todo,b∈seen
 node:∀ b∈seen,∃ x r,NodeAt P b.1 b.2 x r∧(r0.valid=true->r.valid=true)
 done:∀ b∈seen,b ∉ todo->b≠a->DoneN P seen b
 fin:∀ b∈seen,b∈a0::xq P
 kids:∀ (j:Nat) (p:Rx),j<i->r.ps[j]?=some p->∃ b∈seen,∃ y,NodeAt P b.1 b.2 y p
theorem DoneN.mono {P:zT} {s t:List (Nat×Nat)} {a:Nat×Nat} (h:DoneN P s a) (hs:∀ b∈s,b∈t):DoneN P t a:=fun x r hx=>⟨(h x r hx).1,fun i p hi=>by
 obtain ⟨b,hb,hy⟩:=(h x r hx).2 i p hi;exact ⟨b,hs b hb,hy⟩⟩
def vaM (P:zT) (seen todo:List (Nat×Nat)):Nat:=2*((xq P).length+1-seen.length)+todo.length
theorem VaIn.enter {P:zT} {a0 a:Nat×Nat} {r0 r:Rx} {seen todo:List (Nat×Nat)} (h:VaIn P a0 r0 seen (todo++[a])):VaJn P a0 r0 a r 0 seen todo :=
 ⟨h.nd,h.root,fun b hb=>h.sub b (q6 _ hb),h.node,fun b hb hn hne=>h.done b hb (by simp [hn,hne]),h.fin,fun j p hj=>by omega⟩
theorem VaJn.leave {P:zT} {w:World} (hw:(zw P).ho w) {a0 a:Nat×Nat} {r0 r:Rx} {x:R8} {seen todo:List (Nat×Nat)} (h:VaJn P a0 r0 a r r.ps.length seen todo) (hn:NodeAt P a.1 a.2 x r) (hok:r.hd.okN r.ps.length=true):VaIn P a0 r0 seen todo:=by
 refine ⟨h.nd,h.root,h.sub,h.node,fun b hb hnt=>?_,h.fin⟩;by_cases hba:b=a
 ·subst hba;intro x' r' h';obtain ⟨_,rfl⟩:=hn.uniq hw h';exact ⟨hok,fun i p hi=>h.kids i p (zP hi) hi⟩
 ·exact h.done b hb hnt hba
theorem VaJn.old {P:zT} {a0 a b:Nat×Nat} {r0 r p:Rx} {y:R8} {i:Nat} {seen todo:List (Nat×Nat)} (h:VaJn P a0 r0 a r i seen todo) (hi:r.ps[i]?=some p) (hb:b∈seen) (hy:NodeAt P b.1 b.2 y p):VaJn P a0 r0 a r (i+1) seen todo :=
 ⟨h.nd,h.root,h.sub,h.node,h.done,h.fin,fun j q hj hq=>by
  rcases zD j i with g|g
  ·exact h.kids j q g hq
  ·obtain rfl:j=i:=by omega
   rw [hi] at hq;injection hq with hq
   subst hq;exact ⟨b,hb,y,hy⟩⟩
theorem VaJn.new {P:zT} {a0 a b:Nat×Nat} {r0 r p:Rx} {y:R8} {i:Nat} {seen todo:List (Nat×Nat)} (h:VaJn P a0 r0 a r i seen todo) (hi:r.ps[i]?=some p) (hb:b ∉ seen) (hy:NodeAt P b.1 b.2 y p) (had:b∈xq P) (hv:r0.valid=true->r.valid=true):VaJn P a0 r0 a r (i+1) (seen++[b]) (todo++[b]):=by
 have hs:∀ c∈seen,c∈seen++[b]:=fun c hc=>q6 _ hc
 refine ⟨?_,hs _ h.root,fun c hc=>?_,fun c hc=>?_,fun c hc hn hne=>?_,fun c hc=>?_,fun j q hj hq=>?_⟩
 ·rw [jr];exact ⟨h.nd,by simp,fun x hx z hz=>by simp at hz;subst hz;intro e;subst e;exact hb hx⟩
 ·rcases zt.1 hc with hc|hc
  ·exact hs c (h.sub c hc)
  ·exact qx _ hc
 ·rcases zt.1 hc with hc|hc
  ·exact h.node c hc
  ·simp at hc;subst hc;exact ⟨y,p,hy,fun e=>(Rx.valid_iff.1 (hv e)).2 p (zc hi)⟩
 ·rcases zt.1 hc with hc|hc
  ·exact (h.done c hc (fun e=>hn (q6 _ e)) hne).mono hs
  ·exact absurd (qx _ hc) hn
 ·rcases zt.1 hc with hc|hc
  ·exact h.fin c hc
  ·simp at hc;subst hc;exact qv _ had
 ·rcases zD j i with g|g
  ·obtain ⟨c,hc,hz⟩:=h.kids j q g hq;exact ⟨c,hs c hc,hz⟩
  ·obtain rfl:j=i:=by omega
   rw [hi] at hq;injection hq with hq
   subst hq;exact ⟨b,by simp,y,hy⟩
theorem VaIn.start {P:zT} {a0:Nat×Nat} {r0:Rx} {x:R8} (h:NodeAt P a0.1 a0.2 x r0):VaIn P a0 r0 [a0] [a0] :=
 ⟨by simp,by simp,fun a ha=>ha,fun a ha=>by simp at ha;subst ha;exact ⟨x,r0,h,fun e=>e⟩,fun a ha hn=>absurd ha hn,fun a ha=>by simp at ha;subst ha;simp⟩
theorem VaIn.valid {P:zT} {w:World} (hw:(zw P).ho w) {a0:Nat×Nat} {r0:Rx} {seen:List (Nat×Nat)} (h:VaIn P a0 r0 seen []):∀ (r:Rx) (a:Nat×Nat) (x:R8),a∈seen->NodeAt P a.1 a.2 x r->r.valid=true
 |.mk hd l,a,x,ha,hx=>by
  obtain ⟨h1,h2⟩:=h.done a ha (by simp) x (.mk hd l) hx;rw [Rx.valid_iff];refine ⟨h1,fun p hp=>?_⟩;have hp':p∈l:=hp;obtain ⟨i,hi⟩:=yj.1 hp;obtain ⟨b,hb,y,hy⟩:=h2 i p hi;exact VaIn.valid hw h p b y hb hy
theorem YK {P:zT} {a0:Nat×Nat} {seen:List (Nat×Nat)} (hn:seen.Nodup) (h:∀ a∈seen,a∈a0::xq P):seen.length<=(xq P).length+1:=by
 have:=hn.length_le_of_subset h;simpa using this
def VaRel (w:World) (mp:Nat) (P:zT) (a0:Nat×Nat) (r0:Rx) (mm:Nat) (v4:Value) (wr:World):Prop :=
 ∃ (seen todo:List (Nat×Nat)),mm=vaM P seen todo∧VaIn P a0 r0 seen todo∧todo.length<=seen.length∧St w [] [ji mp seen,zi Q3 64 1 v4 todo] wr
def VaRelJ (w:World) (mp:Nat) (P:zT) (a0:Nat×Nat) (r0:Rx) (a:Nat×Nat) (r:Rx) (n lim:Nat) (mm:Nat) (v4 v35:Value) (wr:World):Prop :=
 ∃ (i:Nat) (seen todo:List (Nat×Nat)),mm=n-i∧i<=n∧v35=.int .i64 i∧VaJn P a0 r0 a r i seen todo∧todo.length<=seen.length∧vaM P seen todo+1<=lim∧St w [] [ji mp seen,zi Q3 64 1 v4 todo] wr
attribute [local irreducible] vaM
theorem valid_c {P:zT} {g o:Nat} {x:R8} {r:Rx} (h:NodeAt P g o x r) (hlim:(xq P).length<=1099511627776) (w:World) (hp:(zw P).ho w) :
  Calls z6 42 #[.pointer (some ⟨g,o,none⟩)] w fun e w'=>e=.returned (.bool r.valid)∧St w [] [] w':=by
 have H:=St.nil w [];have HK:Ks w [] [zw P]:=Ks.one hp;have H0:=zh h;have hpl0:∀ (w:World),(zw P).ho w->yP w g:=fun w hw=>vv hw h.blk
 have HPL0:=zh hpl0;have HW:=zh hp;clear h hp hpl0;go_enter Tryd.func42,Tryd.ntmps42;go_wp2_with (first|refine sL ?_|(refine sS ?_;clear H;intros;rename_i H)|((with_reducible refine vK ?_);refine AtMakeMap.am H rfl rfl ?_;clear H;intro mp _ H;simp only [Act.put,puA,puB,puC])|((with_reducible refine isIns ?_);refine AtIns.ptr H rfl rfl rfl pk (g,o) rfl rfl (by simp) (HPL0.out _ (H.known (A:=zw P) HK pk)) (by simp) ?_;clear H;intro _ H;simp only [Act.put,puA,puB,puC])|((with_reducible refine ym ?_);refine AtSlice.one H rfl rfl rfl rfl rfl rfl rfl rfl rfl ?_;clear H;intro b9 _ H;simp only [Act.put,puA,puB,puC]));rw [z8] at H;replace H:=blk_rows (enc:=Q3) (k:=1) (n:=1) (c:=1) (xs:=[(g,o)]) Zw (H.pick (A:=blk b9 (.cells #[.pointer (some ⟨g,o,none⟩)] 64)) pk) (zp _) (by simp [maxLen]) rfl rfl rfl;have HV0:Hid (VaIn P (g,o) r [(g,o)] [(g,o)]):=zh (VaIn.start H0.out);go_loopg [4] (vaM P [(g,o)] [(g,o)]) (fun mm v4 wr=>VaRel w mp P (g,o) r mm v4 wr);case atStart=>exact ⟨[(g,o)],[(g,o)],rfl,HV0.out,zp _,H.picks (.cons pk (.cons pk .nil))⟩
 case round =>
  clear H HV0;obtain ⟨seen,todo,rfl,hva,hts,H⟩:=hrel;have HVA:=zh hva;have hsl:=YK hva.nd hva.fin;obtain ⟨ad4,c4,e4,_⟩:=zW (H.get (A:=zi Q3 64 1 _ todo) pk);rcases List.eq_nil_or_concat todo with rfl|⟨td,a,rfl⟩
  ·simp only [List.length_nil] at e4;subst e4;have hval:r.valid=true:=VaIn.valid HW.out HVA.out r (g,o) x hva.root H0.out;have HVL:=zh hval;clear hval hva;go_wp2_with (first|refine sL ?_|(refine sS ?_;clear H;intros;rename_i H));go_ret;exact ⟨by rw [HVL.out];rfl,H.nix⟩
  ·simp only [List.concat_eq_append] at *;obtain ⟨k,hk⟩:∃ z,td.length=z:=⟨_,rfl⟩
   rw [zN,qm,hk] at e4;subst e4;obtain ⟨g4,c5,e5,hkc,_⟩:=qF (H.get (A:=zi Q3 64 1 _ (td++[a])) pk) (by simp);rw [zN,qm,hk] at e5;injection e5 with e5 _ e6
   subst e5 e6;rw [zN,qm,hk] at hkc;obtain ⟨xa,ra,hna,hvi⟩:=hva.node a (hva.sub a (by simp));have HNA:=zh hna;have HVI:=zh hvi;have hTK:Hid (∀ w,(zi Q3 64 1 (.slice (some ⟨g4,0,none⟩) (k+1) c4) (td++[a])).ho w->w.cell? ⟨g4,k,none⟩=some (.pointer (some ⟨a.1,a.2,none⟩))):=zh fun w h=>by
    have:=qL h Zw (i:=k) (x:=a) (by rw [qu (by omega)];simp [hk]) (j:=0) rfl;simp only [kW,Nat.add_zero] at this;exact this
   obtain ⟨adp,cp,epv,hml,hkid⟩:=hna.kid;obtain ⟨n,hn⟩:∃ z,ra.ps.length=z:=⟨_,rfl⟩
   have HX7:Hid (∀ w,(zw P).ho w->w.cell? ⟨a.1,a.2+7,none⟩=some (.slice adp n cp)):=zh fun w hw=>by
    have:=hna.cell (j:=7) (u:=xa.pv) rfl w hw;rw [epv,hn] at this;exact this
   have HKID:=zh hkid;have HVN:=zh (vnode_c hna);obtain ⟨okb,hokb⟩:∃ z,ra.hd.okN ra.ps.length=z:=⟨_,rfl⟩
   rw [hokb] at HVN;rw [hn] at hml;simp only [maxLen] at hml;have HOK:=zh hokb;have HNL:=zh (za hn hk);have hk40:k+1<=1099511627777:=by
    simp only [zN,qm,hk] at hts;omega
   have e1:decide ((0:Int)<(k:Int)+1)=true:=decide_eq_true (by omega);have e2:decide ((k:Int)<(k:Int)+1)=true:=decide_eq_true (by omega);have e2n:decide (k<k+1)=true:=(by simp);have e3:(k:Int)+1-1=(k:Int):=(by omega);have e4:decide ((k:Int)<=(c4:Int))=true:=(by simp;omega);have e4n:decide (k<=c4)=true:=(by simp;omega);have HPV:=zh (epv.trans (by rw [hn]));clear hna hvi epv hkid hn hk hokb hva;cases okb
   ·have hbad:r.valid=false:=by
     rw [Qj];intro hv;have:=(Rx.valid_iff.1 (HVI.out hv)).1;rw [HOK.out] at this;exact absurd this (by simp)
    have HBAD:=zh hbad;clear hbad;go_wp2_with (first|refine sL ?_|(refine sS ?_;clear H;intros;rename_i H)|(go_at_call 58;with_reducible refine zm (HVN.out _ (H.known (A:=zw P) HK pk)) ?_;rintro e wc ⟨rfl,hb⟩;replace H:=H.grew hb.below;clear hb));go_ret;exact ⟨by rw [HBAD.out];rfl,H.nix⟩
   ·go_wp2_with (first|refine sL ?_|(refine sS ?_;clear H;intros;rename_i H)|(go_at_call 58;with_reducible refine zm (HVN.out _ (H.known (A:=zw P) HK pk)) ?_;rintro e wc ⟨rfl,hb⟩;replace H:=H.grew hb.below;clear hb));replace H:=(H.pick (A:=zi Q3 64 1 (.slice (some ⟨g4,0,none⟩) (k+1) c4) (td++[a])) pk).cut Zw HNL.out.2;have HVJ:Hid (VaJn P (g,o) r a ra 0 seen td):=zh HVA.out.enter;have htd:td.length<=seen.length:=by
     simp only [zN,qm] at hts;omega
    have hlm:vaM P seen td+1<=vaM P seen (td++[a]):=by
     unfold vaM;rw [zN,qm];omega
    obtain ⟨lim,hlime⟩:∃ z,vaM P seen (td++[a])=z:=⟨_,rfl⟩
    rw [hlime] at hlm;have HLIM:=zh hlime;clear hTK hlime hts e1 e2 e2n e3 HX7;go_loopg [4,35] n (fun mm v4 v35 wr=>VaRelJ w mp P (g,o) r a ra n lim mm v4 v35 wr);case atStart=>exact ⟨0,seen,td,rfl,zH _,rfl,HVJ.out,htd,hlm,H.picks (.cons pk (.cons pk .nil))⟩
    case round =>
     clear H HVJ htd hlm HVA hsl hkc hk40;obtain ⟨i,seen,todo,rfl,hi,rfl,hvj,hts,hlm,H⟩:=hrel;have HVJ:=zh hvj;have HLM:=zh hlm;have hsl:=YK hvj.nd hvj.fin;by_cases hin:i<n
     ·have f1:decide ((i:Int)<(n:Int))=true:=(by simp;omega);have f1n:decide (i<n)=true:=(by simp;omega);obtain ⟨p,hpi⟩:∃ p,ra.ps[i]?=some p:=⟨_,zg (by rw [HNL.out.1];exact hin)⟩
      obtain ⟨gp,op,rfl,had,y,hy⟩:=HKID.out i p hpi;have HX7:Hid (∀ w,(zw P).ho w->w.cell? ⟨a.1,a.2+7,none⟩=some (.slice (some ⟨gp,op,none⟩) n cp)):=zh fun w hw=>by
       obtain ⟨adq,cq,epv,_,_⟩:=HNA.out.kid;have:=HNA.out.cell (j:=7) (u:=xa.pv) rfl w hw;rw [HPV.out] at this;exact this
      obtain ⟨ad4,c4,e4,_⟩:=zW (H.get (A:=zi Q3 64 1 _ todo) pk);subst e4;obtain ⟨k,hk⟩:∃ z,todo.length=z:=⟨_,rfl⟩
      have HKL:=zh hk;rw [hk] at H hts ⊢;have HPLS:Hid (∀ w,(zw P).ho w->yP w gp∧∀ b∈seen,yP w b.1):=zh fun w hw=>⟨vv hw hy.blk,fun b hb=>by
       obtain ⟨xb,rb,hb2,_⟩:=HVJ.out.node b hb;exact vv hw hb2.blk⟩
      obtain ⟨sb,hsb⟩:∃ z,decide ((gp,op+i*8)∈seen)=z:=⟨_,rfl⟩
      have HLK:Hid (∀ w,(ji mp seen).ho w->(zw P).ho w->(Instr.lookup 116 (.map (some mp)) (.pointer (some ⟨gp,op+i*8,none⟩)) false).run z6 w=.ok (.bool sb) w):=zh fun w h hw=>by
       have:=look_am h (k:=(gp,op+i*8)) (HPLS.out w hw).1 (HPLS.out w hw).2;rw [hsb] at this;exact this
      have HSB:=zh hsb;have HN:=zh (za hpi (za had hy));clear hvj hlm hpi had hy hk hsb;have hk40:k<=1099511627777:=(by omega);cases sb
      ·have HNW:=zh (HVJ.out.new (b:=(gp,op+i*8)) HN.out.1 (by simpa using HSB.out) HN.out.2.2 HN.out.2.1 HVI.out);have hsl2:=YK HNW.out.nd HNW.out.fin;have hlm2:vaM P (seen++[(gp,op+i*8)]) (todo++[(gp,op+i*8)])<=vaM P seen todo:=by
        unfold vaM;simp only [zN,qm] at hsl2 ⊢;omega
       have HLM2:=zh hlm2;clear hsl2 hlm2;go_wp2_with (first|refine sL ?_|(refine sS ?_;clear H;intros;rename_i H)|((with_reducible refine vo ?_);refine AtLook.go (v:=.pointer (some ⟨gp,op+i*8,none⟩)) rfl rfl rfl _ (HLK.out _ (H.get pk) (H.known (A:=zw P) HK pk)) rfl ?_;simp only [Act.put,puA,puB,puC])|((with_reducible refine ZA ?_);refine AtUpdate.ptr (ks:=seen) H rfl rfl rfl pk (gp,op+i*8) rfl rfl (by simpa using HSB.out) (HPLS.out _ (H.known (A:=zw P) HK pk)).1 (HPLS.out _ (H.known (A:=zw P) HK pk)).2 ?_;clear H;intro _ H;simp only [Act.put,puA,puB,puC])|((with_reducible refine ym ?_);refine AtSlice.one H rfl rfl rfl rfl rfl rfl rfl rfl rfl ?_;clear H;intro b9 _ H;simp only [Act.put,puA,puB,puC])|((with_reducible refine xm ?_);refine AtAppend.goN (enc:=Q3) H rfl rfl rfl rfl rfl (by decide) (by decide) rfl (xs:=todo) pk rfl (H.at pk) [(gp,op+i*8)] rfl (by simp [zX,Q3,adV]) Zw encP_one (by have:=HKL.out;simp at this ⊢;omega) HKL.out ?_;clear H;intro ad9 cp9 _ H;simp only [Act.put,puA,puB,puC]));go_roundg (n-(i+1));case measure=>omega
       case rel=>exact ⟨i+1,seen++[(gp,op+i*8)],todo++[(gp,op+i*8)],rfl,by omega,by go_num,HNW.out,by simp [HKL.out];omega,by have:=HLM2.out;have:=HLM.out;omega,H.picks (.cons pk (.cons pk .nil))⟩
      ·have HOL:=zh (HVJ.out.old HN.out.1 (by simpa using HSB.out) HN.out.2.2);go_wp2_with (first|refine sL ?_|(refine sS ?_;clear H;intros;rename_i H)|((with_reducible refine vo ?_);refine AtLook.go (v:=.pointer (some ⟨gp,op+i*8,none⟩)) rfl rfl rfl _ (HLK.out _ (H.get pk) (H.known (A:=zw P) HK pk)) rfl ?_;simp only [Act.put,puA,puB,puC]));go_roundg (n-(i+1));case measure=>omega
       case rel=>exact ⟨i+1,seen,todo,rfl,by omega,by go_num,HOL.out,by rw [HKL.out];exact hts,HLM.out,H⟩
     ·have f1:decide ((i:Int)<(n:Int))=false:=(by simp;omega);have f1n:decide (i<n)=false:=(by simp;omega);obtain rfl:n=i:=by omega
      have hva:=HVJ.out;rw [← HNL.out.1] at hva;have HVL:=zh (hva.leave HW.out HNA.out HOK.out);clear hva hvj;go_wp2_with (first|refine sL ?_|(refine sS ?_;clear H;intros;rename_i H));go_roundg (vaM P seen todo);case measure =>
       have q1:=HLIM.out;have q2:=HLM.out;omega
      case rel=>exact ⟨seen,todo,rfl,HVL.out,hts,H⟩
end
section
open Go.RowKit Go.Maps
attribute [local go_sem] qM
theorem cop_c {P:zT} {g o:Nat} {x:R8} {r:Rx} (h:NodeAt P g o x r) (hk:r.hd.k=5) (hv:r.hd.okN r.ps.length=true) (w:World) (hp:(zw P).ho w) :
  Calls z6 57 #[.pointer (some ⟨g,o,none⟩)] w fun e w'=>e=.returned (.int .i64 (r.hd.cop:Nat))∧St w [] [] w':=by
 have H:=St.nil w [];have HK:Ks w [] [zw P]:=Ks.one hp;obtain ⟨rows,hhd,hfit,_⟩:=h.rx.inv;have hc:=Hd.cases hv;rw [hhd] at hc hk ⊢;obtain ⟨⟨k,s0,s1,s2,s3,lo,hi⟩,pv⟩:=x;have HX5:Hid (∀ w,(zw P).ho w->w.cell? ⟨g,o+5,none⟩=some (.int .i64 lo)):=zh (h.cell (j:=5) rfl);have HX6:Hid (∀ w,(zw P).ho w->w.cell? ⟨g,o+6,none⟩=some (.int .i64 hi)):=zh (h.cell (j:=6) rfl);simp only at hc hk;obtain ⟨_,hl1,hl2,hh⟩:r.ps.length=1∧0<=lo∧lo<=64∧(hi = -1∨(lo<=hi∧hi<=64)):=by omega
 have HF:=zh (za hk (za hl1 hl2));clear h hp hfit hhd hc hv hk;obtain ⟨cp,hcp⟩:∃ z,(Hd.mk k s0 s1 s2 s3 lo hi).cop=z:=⟨_,rfl⟩
 rw [hcp];unfold Hd.cop at hcp;simp only [HF.out.1,if_true] at hcp;by_cases hm:hi = -1
 ·subst hm;simp only [if_true] at hcp;by_cases h1:lo<1
  ·have d1:decide (lo<1)=true:=(by simp [h1]);have hc1:(cp:Int)=1:=(by omega);have HC:=zh hc1;clear hcp hc1;go_enter Tryd.func57,Tryd.ntmps57;go_wp2_with (first|refine sL ?_|(refine sS ?_;clear H;intros;rename_i H));all_goals (go_ret;refine ⟨?_,H.nix⟩;rw [HC.out];first|rfl|omega)
  ·have d1:decide (lo<1)=false:=(by simp;omega);have hc1:(cp:Int)=lo:=(by omega);have HC:=zh hc1;clear hcp hc1;go_enter Tryd.func57,Tryd.ntmps57;go_wp2_with (first|refine sL ?_|(refine sS ?_;clear H;intros;rename_i H));all_goals (go_ret;refine ⟨?_,H.nix⟩;rw [HC.out];first|rfl|omega)
 ·have g1:(hi == -1)=false:=(by simp [hm]);rw [if_neg hm] at hcp;have hc1:(cp:Int)=hi:=(by omega);have HC:=zh hc1;clear hcp hc1;go_enter Tryd.func57,Tryd.ntmps57;go_wp2_with (first|refine sL ?_|(refine sS ?_;clear H;intros;rename_i H));go_ret;refine ⟨?_,H.nix⟩;rw [HC.out];rfl
theorem Yx {r:Rx} {l:List Rx} {d s p q:Nat}:Rx.nodeL (r::l) d s p q=match r.node d s with
  |none=>none
  |some (s',p',w')=>Rx.nodeL l d s' (p+p') (q+w'):=by
 rw [Rx.nodeL];cases r.node d s <;> rfl
def Y5 (w:World) (bm:Nat) (res:Option (Nat×Nat×Nat)) (e:Ending) (w':World):Prop :=
 ∃ s',((res=none∧e=.returned (.tuple #[.int .i64 0,.int .i64 0,.bool false]))∨∃ p q,res=some (s',p,q)∧e=.returned (.tuple #[.int .i64 (p:Nat),.int .i64 (q:Nat),.bool true]))∧St w [bm] [blk bm (.cells #[.int .i64 (s':Nat)] 93)] w'
def NdRel (w:World) (bm:Nat) (l:List Rx) (d1:Nat) (G:Option (Nat×Nat×Nat)) (n:Nat) (mm:Nat) (v6 v7 v39:Value) (wr:World):Prop :=
 ∃ i s p q:Nat,mm=n-i∧i<=n∧v39=.int .i64 i∧v6=.int .i64 (p:Nat)∧v7=.int .i64 (q:Nat)∧Rx.nodeL (l.drop i) d1 s p q=G∧s<=256∧p<=1048576*s∧q<=1048576*s∧St w [bm] [blk bm (.cells #[.int .i64 (s:Nat)] 93)] wr
theorem node_c {P:zT} {bm:Nat} (hbm:bm ∉ P.map (·.1)):∀ (r:Rx) {g o:Nat} {x:R8} (d s:Nat),NodeAt P g o x r->r.valid=true->d<=33->s<=256->∀ w,(blk bm (.cells #[.int .i64 (s:Nat)] 93)).ho w->(zw P).ho w ->
  Calls z6 41 #[.pointer (some ⟨bm,0,none⟩),.pointer (some ⟨g,o,none⟩),.int .i64 (d:Nat)] w (Y5 w bm (r.node d s))
 |.mk hd l,g,o,x,d,s,h,hval,hd33,hs256,w,hm0,hp=>by
  have HREC:Hid (∀ p∈l,∀ {g o:Nat} {x:R8} (d s:Nat),NodeAt P g o x p->p.valid=true->d<=33->s<=256->∀ w,(blk bm (.cells #[.int .i64 (s:Nat)] 93)).ho w->(zw P).ho w ->
   Calls z6 41 #[.pointer (some ⟨bm,0,none⟩),.pointer (some ⟨g,o,none⟩),.int .i64 (d:Nat)] w (Y5 w bm (p.node d s))):=zh fun p hp9 {g o x} d s=>node_c hbm p d s
  have H:=St.one hm0;rw [qi] at H;have HK:Ks w [bm] [zw P]:=Ks.cons hp (by rw [kz];intro b hb;simp;intro e;subst e;exact hbm hb) (Ks.nil w [bm]);obtain ⟨hok,hvl⟩:=Rx.valid_iff.1 hval;obtain ⟨rows,hhd,hfit,_⟩:=h.rx.inv;obtain ⟨ad,c,epv,hml,hkid⟩:=h.kid;have HCP:Hid (hd.k=5->∀ w,(zw P).ho w->Calls z6 57 #[.pointer (some ⟨g,o,none⟩)] w fun e w'=>e=.returned (.int .i64 (hd.cop:Nat))∧St w [] [] w'):=zh fun h5 w hw=>cop_c h h5 hok w hw
  have hcp64:hd.cop<=64∧(hd.k≠5->hd.cop=1):=by
   have hc:=Hd.cases hok;simp only [Rx.hd] at hc;unfold Hd.cop;constructor
   ·split
    ·split <;> omega
    ·omega
   ·intro h5;rw [if_neg h5]
  simp only [Rx.hd,Rx.ps] at hhd epv hml hkid hvl;obtain ⟨k,hke⟩:∃ z,hd.k=z:=⟨_,rfl⟩
  have HX0:Hid (∀ w,(zw P).ho w->w.cell? ⟨g,o,none⟩=some (.int .i64 k)):=zh fun w hw=>by
   have:=h.cell (j:=0) (u:=.int .i64 x.h.k) rfl w hw;rw [← hhd,hke] at this;exact this
  obtain ⟨n,hn⟩:∃ z,l.length=z:=⟨_,rfl⟩
  have HX7:Hid (∀ w,(zw P).ho w->w.cell? ⟨g,o+7,none⟩=some (.slice ad n c)):=zh fun w hw=>by
   have:=h.cell (j:=7) (u:=x.pv) rfl w hw;rw [epv,hn] at this;exact this
  have HKE:=zh hke;have HN:=zh hn;have HKID:=zh hkid;have HVL:=zh hvl;have HCP64:=zh hcp64;rw [hn] at hml;simp only [maxLen] at hml;obtain ⟨s1,hs1⟩:∃ z,s+1=z:=⟨_,rfl⟩
  have i1:(s:Int)+1=(s1:Nat):=(by omega);have hs1b:s1<=257:=(by omega);have HS1:=zh hs1;clear h hval hm0 hp hok hvl hhd hfit epv hkid hn hke hs1 hcp64;rw [Rx.node];rw [HS1.out,HKE.out];by_cases hbig:256<s1∨32<d
  ·rw [if_pos hbig];by_cases hb1:256<s1
   ·have b1:decide ((256:Int)<(s1:Int))=true:=(by simp;omega);have b1n:decide (256<s1)=true:=(by simp;omega);go_enter Y7,Qm;go_wp2_with (first|refine sL ?_|(refine sS ?_;clear H;intros;rename_i H));refine bodyPost_ret (results_tmp3 rfl _ _ _) rfl ?_;exact ⟨s1,.inl ⟨rfl,rfl⟩,H⟩
   ·have b1:decide ((256:Int)<(s1:Int))=false:=(by simp;omega);have b1n:decide (256<s1)=false:=(by simp;omega);have b2:decide ((32:Int)<(d:Int))=true:=(by simp;omega);have b2n:decide (32<d)=true:=(by simp;omega);go_enter Y7,Qm;go_wp2_with (first|refine sL ?_|(refine sS ?_;clear H;intros;rename_i H));refine bodyPost_ret (results_tmp3 rfl _ _ _) rfl ?_;exact ⟨s1,.inl ⟨rfl,rfl⟩,H⟩
  ·rw [if_neg hbig];have b1:decide ((256:Int)<(s1:Int))=false:=(by simp;omega);have b1n:decide (256<s1)=false:=(by simp;omega);have b2:decide ((32:Int)<(d:Int))=false:=(by simp;omega);have b2n:decide (32<d)=false:=(by simp;omega);obtain ⟨G,hG⟩:∃ z,Rx.nodeL l (d+1) s1 (if k=2 then 1 else 0) 0=z:=⟨_,rfl⟩
   rw [hG];obtain ⟨d1,hd1⟩:∃ z,d+1=z:=⟨_,rfl⟩
   rw [hd1] at hG;have HG:=zh hG;clear hG;have i2:(d:Int)+1=(d1:Nat):=(by omega);have hd1b:d1<=33:=(by omega);have HD1:=zh hd1;clear hd1;by_cases hk2:k=2
   ·subst hk2;simp only [if_true] at HG;go_enter Y7,Qm;go_wp2_with (first|refine sL ?_|(refine sS ?_;clear H;intros;rename_i H));go_loopg [6,7,39] n (fun mm v6 v7 v39 wr=>NdRel w bm l d1 G n mm v6 v7 v39 wr);case atStart=>exact ⟨0,s1,1,0,rfl,zH _,rfl,rfl,rfl,by simpa using HG.out,by omega,by omega,by omega,H⟩
    case round =>
     clear H HG HS1 i1 b1 b1n b2 b2n hbig;obtain ⟨i,s,p,q,rfl,hi,rfl,rfl,rfl,hG,hs,hp,hq,H⟩:=hrel;by_cases hlt:i<n
     ·have f1:decide ((i:Int)<(n:Int))=true:=(by simp;omega);have f1n:decide (i<n)=true:=(by simp;omega);obtain ⟨ch,hch⟩:∃ ch,l[i]?=some ch:=⟨_,zg (by rw [HN.out];exact hlt)⟩
      obtain ⟨gp,op,rfl,_,y,hy⟩:=HKID.out i ch hch;have hmem:=zc hch;have hdrop:l.drop i=ch::l.drop (i+1):=by
       have h1:=wR (zP hch);rw [h1];congr 1
       rw [zg (zP hch)] at hch;injection hch
      rw [hdrop,Yx] at hG;have HGC:=zh hG;have HCH:=zh (za hmem hy);clear hch hmem hdrop hG hy;go_wp2_with (first|refine sL ?_|(refine sS ?_;clear H;intros;rename_i H));refine zm (HREC.out ch HCH.out.1 d1 s HCH.out.2 (HVL.out ch HCH.out.1) hd1b hs _ (H.get pk) (H.known (A:=zw P) HK pk)) ?_;rintro e9 wc ⟨s',hcase,hb⟩;replace H:=(H.pick pk).call (by rw [qi];exact hb);simp only [z7,z8] at H;clear hb;rcases hcase with ⟨hnone,rfl⟩|⟨p',q',hsome,rfl⟩
      ·have hGn:G=none:=by
        have:=HGC.out;rw [hnone] at this;exact this.symm
       have HGN:=zh hGn;clear hnone hGn;go_wp2_with (first|refine sL ?_|(refine sS ?_;clear H;intros;rename_i H));refine bodyPost_ret (results_tmp3 rfl _ _ _) rfl ?_;exact ⟨s',.inl ⟨rfl,rfl⟩,H⟩
      ·have hGs:Rx.nodeL (l.drop (i+1)) d1 s' (p+p') (q+q')=G:=by
        have:=HGC.out;rw [hsome] at this;exact this
       obtain ⟨z1,z2,z3,z4,_⟩:=Rx.node_is hsome;have HGS:=zh hGs;have hp':p'<=1048576:=(by omega);have hq':q'<=1048576:=(by omega);obtain ⟨pp,hpp⟩:∃ z,p+p'=z:=⟨_,rfl⟩
       obtain ⟨qq,hqq⟩:∃ z,q+q'=z:=⟨_,rfl⟩
       have i3:(p:Int)+(p':Int)=(pp:Nat):=(by omega);have i4:(q:Int)+(q':Int)=(qq:Nat):=(by omega);have hpb:pp<=1048576*s':=(by omega);have hqb:qq<=1048576*s':=(by omega);have HPP:=zh (za hpp hqq);clear hGs hsome z1 z2 hpp hqq;go_wp2_with (first|refine sL ?_|(refine sS ?_;clear H;intros;rename_i H));go_roundg (n-(i+1));case measure=>omega
       case rel=>exact ⟨i+1,s',pp,qq,rfl,by omega,by go_num,rfl,rfl,by have:=HGS.out;rwa [HPP.out.1,HPP.out.2] at this,z4,hpb,hqb,H⟩
     ·have f1:decide ((i:Int)<(n:Int))=false:=(by simp;omega);have f1n:decide (i<n)=false:=(by simp;omega);obtain rfl:n=i:=by omega
      have hGe:G=some (s,p,q):=by
       rw [← hG,xg (by rw [HN.out];exact zp _),Rx.nodeL]
      clear hG;subst hGe;obtain ⟨hc1,hc2⟩:=HCP64.out;obtain ⟨cp,hcp⟩:∃ z,hd.cop=z:=⟨_,rfl⟩
      have HCPE:=zh hcp;rw [hcp] at hc1 hc2 HCP;rw [HKE.out] at hc2 HCP;clear hcp;have hpc:p*cp<=1048576*256*64:=Z5 (by omega) hc1;have hqc:q*cp<=1048576*256*64:=Z5 (by omega) hc1;obtain ⟨pc,hpce⟩:∃ z,p*cp=z:=⟨_,rfl⟩
      obtain ⟨qc,hqce⟩:∃ z,q*cp=z:=⟨_,rfl⟩
      have HPC:=zh (za hpce hqce);have hc3:=hc2 (by omega);subst hc3;rw [kW] at hpce hqce;subst hpce hqce;clear hpc hqc hc1;obtain ⟨q1,hq1⟩:∃ z,q+1=z:=⟨_,rfl⟩
      have i7:(q:Int)+1=(q1:Nat):=(by omega);have hq1b:q1<=17179869185:=(by omega);have HQ1:=zh hq1;clear hq1;have m1:(if (1048576:Int)<(p:Int) then (1048576:Int) else (p:Int))=((min p 1048576:Nat):Int):=(by split <;> omega);have m2:(if (1048576:Int)<(q1:Int) then (1048576:Int) else (q1:Int))=((min q1 1048576:Nat):Int):=(by split <;> omega);obtain ⟨mp,hmp⟩:∃ z,min p 1048576=z:=⟨_,rfl⟩
      obtain ⟨mq,hmq⟩:∃ z,min q1 1048576=z:=⟨_,rfl⟩
      rw [hmp] at m1;rw [hmq] at m2;have HMM:=zh (za hmp hmq);clear hmp hmq;go_wp2_with (first|refine sL ?_|(refine sS ?_;clear H;intros;rename_i H));refine bodyPost_ret (results_tmp3 rfl _ _ _) rfl ?_;refine ⟨s,.inr ⟨mp,mq,?_,rfl⟩,H⟩;rw [← HMM.out.1,← HMM.out.2,← HQ1.out];simp only [HCPE.out,kW]
   ·have g2:(k==2)=false:=(by simp [hk2]);simp only [if_neg hk2] at HG;go_enter Y7,Qm;go_wp2_with (first|refine sL ?_|(refine sS ?_;clear H;intros;rename_i H));go_loopg [6,7,39] n (fun mm v6 v7 v39 wr=>NdRel w bm l d1 G n mm v6 v7 v39 wr);case atStart=>exact ⟨0,s1,0,0,rfl,zH _,rfl,rfl,rfl,by simpa using HG.out,by omega,by omega,by omega,H⟩
    case round =>
     clear H HG HS1 i1 b1 b1n b2 b2n hbig;obtain ⟨i,s,p,q,rfl,hi,rfl,rfl,rfl,hG,hs,hp,hq,H⟩:=hrel;by_cases hlt:i<n
     ·have f1:decide ((i:Int)<(n:Int))=true:=(by simp;omega);have f1n:decide (i<n)=true:=(by simp;omega);obtain ⟨ch,hch⟩:∃ ch,l[i]?=some ch:=⟨_,zg (by rw [HN.out];exact hlt)⟩
      obtain ⟨gp,op,rfl,_,y,hy⟩:=HKID.out i ch hch;have hmem:=zc hch;have hdrop:l.drop i=ch::l.drop (i+1):=by
       have h1:=wR (zP hch);rw [h1];congr 1
       rw [zg (zP hch)] at hch;injection hch
      rw [hdrop,Yx] at hG;have HGC:=zh hG;have HCH:=zh (za hmem hy);clear hch hmem hdrop hG hy;go_wp2_with (first|refine sL ?_|(refine sS ?_;clear H;intros;rename_i H));refine zm (HREC.out ch HCH.out.1 d1 s HCH.out.2 (HVL.out ch HCH.out.1) hd1b hs _ (H.get pk) (H.known (A:=zw P) HK pk)) ?_;rintro e9 wc ⟨s',hcase,hb⟩;replace H:=(H.pick pk).call (by rw [qi];exact hb);simp only [z7,z8] at H;clear hb;rcases hcase with ⟨hnone,rfl⟩|⟨p',q',hsome,rfl⟩
      ·have hGn:G=none:=by
        have:=HGC.out;rw [hnone] at this;exact this.symm
       have HGN:=zh hGn;clear hnone hGn;go_wp2_with (first|refine sL ?_|(refine sS ?_;clear H;intros;rename_i H));refine bodyPost_ret (results_tmp3 rfl _ _ _) rfl ?_;exact ⟨s',.inl ⟨rfl,rfl⟩,H⟩
      ·have hGs:Rx.nodeL (l.drop (i+1)) d1 s' (p+p') (q+q')=G:=by
        have:=HGC.out;rw [hsome] at this;exact this
       obtain ⟨z1,z2,z3,z4,_⟩:=Rx.node_is hsome;have HGS:=zh hGs;have hp':p'<=1048576:=(by omega);have hq':q'<=1048576:=(by omega);obtain ⟨pp,hpp⟩:∃ z,p+p'=z:=⟨_,rfl⟩
       obtain ⟨qq,hqq⟩:∃ z,q+q'=z:=⟨_,rfl⟩
       have i3:(p:Int)+(p':Int)=(pp:Nat):=(by omega);have i4:(q:Int)+(q':Int)=(qq:Nat):=(by omega);have hpb:pp<=1048576*s':=(by omega);have hqb:qq<=1048576*s':=(by omega);have HPP:=zh (za hpp hqq);clear hGs hsome z1 z2 hpp hqq;go_wp2_with (first|refine sL ?_|(refine sS ?_;clear H;intros;rename_i H));go_roundg (n-(i+1));case measure=>omega
       case rel=>exact ⟨i+1,s',pp,qq,rfl,by omega,by go_num,rfl,rfl,by have:=HGS.out;rwa [HPP.out.1,HPP.out.2] at this,z4,hpb,hqb,H⟩
     ·have f1:decide ((i:Int)<(n:Int))=false:=(by simp;omega);have f1n:decide (i<n)=false:=(by simp;omega);obtain rfl:n=i:=by omega
      have hGe:G=some (s,p,q):=by
       rw [← hG,xg (by rw [HN.out];exact zp _),Rx.nodeL]
      clear hG;subst hGe;obtain ⟨hc1,hc2⟩:=HCP64.out;obtain ⟨cp,hcp⟩:∃ z,hd.cop=z:=⟨_,rfl⟩
      have HCPE:=zh hcp;rw [hcp] at hc1 hc2 HCP;rw [HKE.out] at hc2 HCP;clear hcp;have hpc:p*cp<=1048576*256*64:=Z5 (by omega) hc1;have hqc:q*cp<=1048576*256*64:=Z5 (by omega) hc1;obtain ⟨pc,hpce⟩:∃ z,p*cp=z:=⟨_,rfl⟩
      obtain ⟨qc,hqce⟩:∃ z,q*cp=z:=⟨_,rfl⟩
      have HPC:=zh (za hpce hqce);by_cases hk5:k=5
      ·subst hk5;have HC:=zh (HCP.out rfl);have i5:(p:Int)*(cp:Int)=(pc:Nat):=(by rw [← hpce];simp);have i6:(q:Int)*(cp:Int)=(qc:Nat):=(by rw [← hqce];simp);rw [hpce] at hpc;rw [hqce] at hqc;clear hpce hqce hc2;obtain ⟨q1,hq1⟩:∃ z,qc+1=z:=⟨_,rfl⟩
       have i7:(qc:Int)+1=(q1:Nat):=(by omega);have hq1b:q1<=17179869185:=(by omega);have HQ1:=zh hq1;clear hq1;have m1:(if (1048576:Int)<(pc:Int) then (1048576:Int) else (pc:Int))=((min pc 1048576:Nat):Int):=(by split <;> omega);have m2:(if (1048576:Int)<(q1:Int) then (1048576:Int) else (q1:Int))=((min q1 1048576:Nat):Int):=(by split <;> omega);obtain ⟨mp,hmp⟩:∃ z,min pc 1048576=z:=⟨_,rfl⟩
       obtain ⟨mq,hmq⟩:∃ z,min q1 1048576=z:=⟨_,rfl⟩
       rw [hmp] at m1;rw [hmq] at m2;have HMM:=zh (za hmp hmq);clear hmp hmq;go_wp2_with (first|refine sL ?_|(refine sS ?_;clear H;intros;rename_i H)|(go_at_call 57;with_reducible refine zm (HC.out _ (H.known (A:=zw P) HK pk)) ?_;rintro e wc ⟨rfl,hb⟩;replace H:=H.grew hb.below;clear hb));refine bodyPost_ret (results_tmp3 rfl _ _ _) rfl ?_;refine ⟨s,.inr ⟨mp,mq,?_,rfl⟩,H⟩;rw [← HMM.out.1,← HMM.out.2,← HQ1.out];simp only [HCPE.out,HPC.out.1,HPC.out.2]
      ·have g5:(k==5)=false:=(by simp [hk5]);have hc3:=hc2 hk5;subst hc3;rw [kW] at hpce hqce;subst hpce hqce;clear hpc hqc hc1;obtain ⟨q1,hq1⟩:∃ z,q+1=z:=⟨_,rfl⟩
       have i7:(q:Int)+1=(q1:Nat):=(by omega);have hq1b:q1<=17179869185:=(by omega);have HQ1:=zh hq1;clear hq1;have m1:(if (1048576:Int)<(p:Int) then (1048576:Int) else (p:Int))=((min p 1048576:Nat):Int):=(by split <;> omega);have m2:(if (1048576:Int)<(q1:Int) then (1048576:Int) else (q1:Int))=((min q1 1048576:Nat):Int):=(by split <;> omega);obtain ⟨mp,hmp⟩:∃ z,min p 1048576=z:=⟨_,rfl⟩
       obtain ⟨mq,hmq⟩:∃ z,min q1 1048576=z:=⟨_,rfl⟩
       rw [hmp] at m1;rw [hmq] at m2;have HMM:=zh (za hmp hmq);clear hmp hmq;go_wp2_with (first|refine sL ?_|(refine sS ?_;clear H;intros;rename_i H));refine bodyPost_ret (results_tmp3 rfl _ _ _) rfl ?_;refine ⟨s,.inr ⟨mp,mq,?_,rfl⟩,H⟩;rw [← HMM.out.1,← HMM.out.2,← HQ1.out];simp only [HCPE.out,kW]
end
section
open Go.RowKit Go.Maps
attribute [local go_sem] qM
def JI:Nat->Value
 |0=>.nilIface
 |k+1=>.iface 56 (.int .i64 ((k+1:Nat):Int))
def Rx.err (r:Rx):Nat:=if r.valid then (match r.meas with|none=>9|some _=>0) else 4
theorem JQ {P:zT} {g o:Nat} {x:R8} {r:Rx} (h:NodeAt P g o x r) (hv:r.valid=true) (w:World) (hp:(zw P).ho w) :
  Calls z6 23 #[.pointer (some ⟨g,o,none⟩)] w fun e w'=>((r.meas=none∧e=.returned (.tuple #[.int .i64 0,.iface 56 (.int .i64 9)]))∨∃ p,r.meas=some p∧e=.returned (.tuple #[.int .i64 (p:Nat),.nilIface]))∧St w [] [] w':=by
 have H:=St.nil w [];have HK:Ks w [] [zw P]:=Ks.one hp;have HN:Hid (∀ bm,bm ∉ P.map (·.1)->∀ w,(blk bm (.cells #[.int .i64 0] 93)).ho w->(zw P).ho w->Calls z6 41 #[.pointer (some ⟨bm,0,none⟩),.pointer (some ⟨g,o,none⟩),.int .i64 1] w (Y5 w bm (r.node 1 0))):=zh fun bm hb w h1 h2=>node_c hb r 1 0 h hv (by omega) (by omega) w h1 h2
 have HV:=zh hv;clear h hp hv;go_enter Tryd.func23,Tryd.ntmps23;go_wp2_with (first|refine sL ?_|(refine sS ?_;clear H;intros;rename_i H));rename_i bm _ _ _ _ _;have hbm:bm ∉ P.map (·.1):=fun hm=>by
  have h1:=HK.ho (zw P) (by simp);have h2:=(zw P).lt w h1 bm (by rw [kz];exact hm);have h3:=H.own (blk bm (.cells #[.int .i64 0] 93)) (by simp) bm (by rw [qi];simp);rcases h3 with h3|h3
  ·omega
  ·simp at h3
 refine zm (HN.out bm hbm _ (H.get pk) (H.known (A:=zw P) HK pk)) ?_;rintro e9 wc ⟨s',hcase,hb⟩;replace H:=(H.pick pk).call (by rw [qi];exact hb);simp only [z7,z8] at H;clear hb;rcases hcase with ⟨hnone,rfl⟩|⟨p',q',hsome,rfl⟩
 ·have hm:r.meas=none:=(by unfold Rx.meas;rw [hnone]);have HM:=zh hm;clear hnone hm;go_wp2_with (first|refine sL ?_|(refine sS ?_;clear H;intros;rename_i H));refine bodyPost_ret (results_tmp2 rfl _ _ _) rfl ?_;exact ⟨.inl ⟨HM.out,rfl⟩,H.nix⟩
 ·obtain ⟨z1,z2,_⟩:=Rx.node_is hsome;have hp':p'<=1048576:=(by omega);have hq':q'<=1048576:=(by omega);by_cases hc:64<p'∨4096<q'
  ·have hm:r.meas=none:=by
    unfold Rx.meas;rw [hsome];simp only;rw [if_pos hc]
   have HM:=zh hm;clear hsome hm z1 z2;by_cases hc1:64<p'
   ·have b1:decide ((64:Int)<(p':Int))=true:=(by simp;omega);have b1n:decide (64<p')=true:=(by simp;omega);go_wp2_with (first|refine sL ?_|(refine sS ?_;clear H;intros;rename_i H));refine bodyPost_ret (results_tmp2 rfl _ _ _) rfl ?_;exact ⟨.inl ⟨HM.out,rfl⟩,H.nix⟩
   ·have b1:decide ((64:Int)<(p':Int))=false:=(by simp;omega);have b1n:decide (64<p')=false:=(by simp;omega);have b2:decide ((4096:Int)<(q':Int))=true:=(by simp;omega);have b2n:decide (4096<q')=true:=(by simp;omega);go_wp2_with (first|refine sL ?_|(refine sS ?_;clear H;intros;rename_i H));refine bodyPost_ret (results_tmp2 rfl _ _ _) rfl ?_;exact ⟨.inl ⟨HM.out,rfl⟩,H.nix⟩
  ·have hm:r.meas=some p':=by
    unfold Rx.meas;rw [hsome];simp only;rw [if_neg hc]
   have HM:=zh hm;clear hsome hm z1 z2;have b1:decide ((64:Int)<(p':Int))=false:=(by simp;omega);have b1n:decide (64<p')=false:=(by simp;omega);have b2:decide ((4096:Int)<(q':Int))=false:=(by simp;omega);have b2n:decide (4096<q')=false:=(by simp;omega);go_wp2_with (first|refine sL ?_|(refine sS ?_;clear H;intros;rename_i H));refine bodyPost_ret (results_tmp2 rfl _ _ _) rfl ?_;exact ⟨.inr ⟨p',HM.out,rfl⟩,H.nix⟩
theorem Ve {P:zT} {e:Nat×Nat×List Value}:(xq (P++[e])).length=(xq P).length+e.2.2.length:=by
 unfold xq;rw [List.flatMap_append,zN];congr 1
 simp
theorem rcheck_c {P:zT} {x:R8} {r:Rx} (h:RxIn P x r) (hlim:(xq P).length<=549755813888) (w:World) (hp:(zw P).ho w) :
  Calls z6 26 #[.agg #[.int .i64 x.h.k,.int .u64 (x.h.s0:Nat),.int .u64 (x.h.s1:Nat),.int .u64 (x.h.s2:Nat),.int .u64 (x.h.s3:Nat),.int .i64 x.h.lo,.int .i64 x.h.hi,x.pv]] w fun e w'=>e=.returned (JI r.err)∧St w [] [] w':=by
 have H:=St.nil w [];have HK:Ks w [] [zw P]:=Ks.one hp;have HR:=zh h;obtain ⟨ad,c,epv,hml⟩:∃ ad c,x.pv=.slice ad r.ps.length c∧r.ps.length<=maxLen:=by
  obtain ⟨rows,_,_,h3,h4,_⟩:=h.inv;obtain ⟨ad,c,e,hm⟩:=h3.shape;exact ⟨ad,c,by rw [e,h4],by rw [← h4];exact hm⟩
 obtain ⟨hx,pv⟩:=x;simp only at epv;subst epv;have HL:=zh hlim;have HSZ:Hid (∀ b:Nat,(xq (P++[(b,0,xE ⟨hx,.slice ad r.ps.length c⟩)])).length<=1099511627776):=zh fun b=>by
  rw [Ve];show (xq P).length+8<=_
  omega
 clear h hp hml hlim;go_enter Tryd.func26,Tryd.ntmps26;go_wp2_with (first|refine sL ?_|(refine sS ?_;clear H;intros;rename_i H));rename_i b _ _ _ _ _ _ _;replace H:=H.blk_poolG;have hnode:NodeAt (P++[(b,0,xE ⟨hx,.slice ad r.ps.length c⟩)]) b 0 ⟨hx,.slice ad r.ps.length c⟩ r:=⟨fun w hw=>ZJ (xB hw) (by simp),by simp,HR.out.mono fun y hy=>q6 _ hy⟩
 have HND:=zh hnode;clear hnode;refine zm (valid_c HND.out (HSZ.out b) _ (jv (H.known (A:=zw P) HK pk) (H.get (A:=zw [(b,0,xE ⟨hx,.slice ad r.ps.length c⟩)]) pk))) ?_;rintro e9 wc ⟨rfl,hb⟩;replace H:=H.grew hb.below;clear hb;obtain ⟨vb,hvb⟩:∃ z,r.valid=z:=⟨_,rfl⟩
 have HVB:=zh hvb;rw [hvb];clear hvb;cases vb
 ·have HE:Hid (r.err=4):=zh (by unfold Rx.err;rw [HVB.out];rfl);go_wp2_with (first|refine sL ?_|(refine sS ?_;clear H;intros;rename_i H));go_ret;exact ⟨by rw [HE.out];rfl,H.nix⟩
 ·go_wp2_with (first|refine sL ?_|(refine sS ?_;clear H;intros;rename_i H));refine zm (JQ HND.out HVB.out _ (jv (H.known (A:=zw P) HK pk) (H.get (A:=zw [(b,0,xE ⟨hx,.slice ad r.ps.length c⟩)]) pk))) ?_;rintro e9 wc ⟨hcase,hb⟩;replace H:=H.grew hb.below;clear hb;rcases hcase with ⟨hn,rfl⟩|⟨p,hs,rfl⟩
  ·have HE:Hid (r.err=9):=zh (by unfold Rx.err;rw [HVB.out,hn];rfl);clear hn;go_wp2_with (first|refine sL ?_|(refine sS ?_;clear H;intros;rename_i H));go_ret;exact ⟨by rw [HE.out];rfl,H.nix⟩
  ·have HE:Hid (r.err=0):=zh (by unfold Rx.err;rw [HVB.out,hs];rfl);clear hs;go_wp2_with (first|refine sL ?_|(refine sS ?_;clear H;intros;rename_i H));go_ret;exact ⟨by rw [HE.out];rfl,H.nix⟩
end
end Go.Proofs.YtminpdngkjlehaaDoor
section
namespace Go.Proofs
open Go.Shelf
def Tryd.lays29_ren:Go.Shelf.Ren:=⟨fun|29=>52|n=>n,fun|22=>32|3=>3|4=>4|25=>128|54=>127|0=>0|5=>5|n=>n,fun|1=>1|n=>n⟩
theorem Tryd.lays29:Go.Proofs.Lays7.n29 z6 Tryd.lays29_ren:={
 mixed:=by kernel_rfl
 f29:=Tryd.func52.trans (congrArg some (by kernel_rfl))
 t0:=Tryd.underlying0
 a0:=Tryd.isAgg0
 z0:=Tryd.sizeOf0
 v0:=Tryd.zeroValue0
 i0:=by kernel_rfl
 t3:=X1
 a3:=Tryd.isAgg3
 z3:=Tryd.sizeOf3
 v3:=Tryd.zeroValue3
 i3:=by kernel_rfl
 t4:=Tryd.underlying4
 a4:=Tryd.isAgg4
 z4:=Tryd.sizeOf4
 v4:=Tryd.zeroValue4
 i4:=by kernel_rfl
 t5:=Tryd.underlying5
 a5:=Tryd.isAgg5
 z5:=Tryd.sizeOf5
 v5:=Tryd.zeroValue5
 i5:=by kernel_rfl
 t22:=Tryd.underlying32
 a22:=Tryd.isAgg32
 z22:=Tryd.sizeOf32
 v22:=Tryd.zeroValue32
 i22:=by kernel_rfl
 t25:=Tryd.underlying128
 a25:=Tryd.isAgg128
 z25:=Tryd.sizeOf128
 v25:=Tryd.zeroValue128
 i25:=by kernel_rfl
 t54:=Tryd.underlying127
 a54:=Tryd.isAgg127
 z54:=Tryd.sizeOf127
 g1:=by kernel_rfl }
namespace YtminpdngkjlehaaDoor
open Go.RowKit
def deA:As:=⟨[1],fun w=>TabAt 1 Lib.deBruijn64tab w∧1<w.heap.size,fun w w' h hw=>by
  obtain ⟨h1,h2⟩:=hw;have h0:=h 1 (by simp);refine ⟨fun j hj=>?_,?_⟩
  ·rw [← h1 j hj];unfold World.cell?;simp only [h0]
  ·rw [Array.getElem?_eq_getElem h2] at h0;exact xk.1 h0 |>.1,fun w hw b hb=>by simp at hb;subst hb;exact hw.2⟩
theorem Jy (w:World):deA.ho w=(TabAt 1 Lib.deBruijn64tab w∧1<w.heap.size):=rfl
theorem wt:deA.fp=[1]:=rfl
attribute [irreducible] deA
theorem tz_c (x:Nat) (hx:x<18446744073709551616) (w:World) (hT:deA.ho w):Calls z6 52 #[.int .u64 x] w fun e w'=>e=.returned (.int .i64 (Lib.ctz 64 x:Nat))∧w'=w:=by
 rw [Jy] at hT;have h:=Any7.bits_TrailingZeros64 Tryd.lays29 x hx w (fun _=>hT.1);exact Calls.mono h fun _ _ ⟨h1,h2⟩=>⟨h1,h2⟩
end YtminpdngkjlehaaDoor
end Go.Proofs
end
namespace Go.Proofs.YtminpdngkjlehaaDoor
section
open Go.RowKit Go.Maps
attribute [local go_sem] qM
theorem ZL {f:FuncId} {args:Array Value} {v:Value} {w:World} {x:Gr w} (h:Calls z6 f args x.1 fun e w'=>e=.returned v∧w'=x.1):Calls z6 f args x.1 fun e w''=>e=.returned v∧∃ y:Gr w,w''=y.1:=X5 h
def qY (x:Nat):List Value:=[.int .u64 x]
theorem wj (x:Nat):(qY x).length=1:=rfl
theorem WL (x:Nat):∀ u∈qY x,u.oneCell'=true:=by
 intro u hu;simp only [qY,zV] at hu;subst hu;rfl
theorem Xg {x t m:Nat} (hx:x=2 ^ t*(2*m+1)):x.testBit t=true∧(∀ i,i<t->x.testBit i=false)∧∀ i,(x &&& (x-1)).testBit i=(x.testBit i&&decide (i≠t)):=by
 have hp:0<2 ^ t:=Nat.two_pow_pos t;have h1:∀ i,x.testBit i=if i<t then false else (2*m+1).testBit (i-t):=fun i=>by
  have:x=2 ^ t*(2*m+1)+0:=by omega
  rw [this,we _ hp];simp
 have h2:∀ i,(x-1).testBit i=if i<t then (2 ^ t-1).testBit i else (2*m).testBit (i-t):=fun i=>by
  have:x-1=2 ^ t*(2*m)+(2 ^ t-1):=by
   rw [hx,Nat.mul_add,kW];omega
  rw [this,we _ (by omega)]
 refine ⟨by rw [h1];simp,fun i hi=>by rw [h1,if_pos hi],fun i=>?_⟩;rw [qj,h1,h2];by_cases hi:i<t
 ·simp [hi]
 ·rw [if_neg hi,if_neg hi];by_cases he:i=t
  ·subst he;simp
  ·obtain ⟨k,hk⟩:∃ k,i-t=k+1:=⟨i-t-1,by omega⟩
   rw [hk,Nat.testBit_succ,Nat.testBit_succ];have e1:(2*m+1)/2=m:=(by omega);have e2:2*m/2=m:=(by omega);rw [e1,e2];simp [he]
theorem ctz_is {x:Nat} (h0:0<x) (h:x<18446744073709551616):∃ m,x=2 ^ Lib.ctz 64 x*(2*m+1)∧Lib.ctz 64 x<64:=by
 unfold Lib.ctz;rw [if_neg (by omega)];exact Lib.ctzFrom_spec 64 x h0 (by simpa using h)
theorem VA {fol:List Nat} {x t to f0:Nat} (h1:x.testBit t=true) (h2:∀ i,(x &&& (x-1)).testBit i=(x.testBit i&&decide (i≠t))) (hf:fol[t]?=some f0):xM (fol.set t (f0 ||| to)) (x &&& (x-1)) to=xM fol x to:=by
 unfold xM;apply yF;intro i;rw [yr,yr,jg];by_cases hi:t=i
 ·subst hi;rw [if_pos rfl,if_pos (zP hf),hf,h2];simp [h1]
 ·rw [if_neg hi,h2];have:decide (i≠t)=true:=by simp;omega
  rw [this,Bool.and_true]
theorem Q8 {fol:List Nat} {to:Nat}:xM fol 0 to=fol:=by
 unfold xM;apply yF;intro i;rw [yr];simp
def Ya (fol:List Nat) (S:Nat) (z:Nat):Nat:=(zl fol.length).foldl (fun acc i=>if S.testBit i then acc ||| fol.getD i 0 else acc) z
theorem Yb {fol:List Nat} {S z q:Nat}:(Ya fol S z).testBit q=true↔z.testBit q=true∨∃ i,i<fol.length∧S.testBit i=true∧(fol.getD i 0).testBit q=true:=by
 unfold Ya;rw [Ys];simp only [zo]
theorem aft_step {fol:List Nat} {x t f0 z:Nat} (h1:x.testBit t=true) (h2:∀ i,(x &&& (x-1)).testBit i=(x.testBit i&&decide (i≠t))) (hf:fol[t]?=some f0):Ya fol (x &&& (x-1)) (z ||| f0)=Ya fol x z:=by
 have hg:fol.getD t 0=f0:=(by rw [ze,hf];rfl);apply yV;intro q;rw [q5,Yb,Yb,qH,qK];constructor
 ·rintro ((h|h)|⟨i,a1,a2,a3⟩)
  ·exact .inl h
  ·exact .inr ⟨t,zP hf,h1,by rw [hg];exact h⟩
  ·rw [h2,zf] at a2;exact .inr ⟨i,a1,a2.1,a3⟩
 ·rintro (h|⟨i,a1,a2,a3⟩)
  ·exact .inl (.inl h)
  ·by_cases hi:i=t
   ·subst hi;rw [hg] at a3;exact .inl (.inr a3)
   ·exact .inr ⟨i,a1,by rw [h2,a2];simp [hi],a3⟩
theorem Wp {fol:List Nat} {z:Nat}:Ya fol 0 z=z:=by
 apply yV;intro q;rw [q5,Yb];simp
def LkRel (w:World) (M:List Nat) (bw gf nf cf to:Nat) (sv:Value) (G:List Nat) (mm:Nat) (v1:Value) (wr:World):Prop :=
 ∃ (x:Nat) (fol:List Nat),mm=2*x∧v1=.int .u64 (x:Nat)∧xM fol x to=G∧x<18446744073709551616∧(∀ i,x.testBit i=true->i<nf)∧fol.length=nf∧(∀ y∈fol,y<18446744073709551616)∧St w M [blk bw (.cells #[sv,.slice (some ⟨gf,0,none⟩) nf cf] 79),zi qY 32 1 (.slice (some ⟨gf,0,none⟩) nf cf) fol] wr
theorem link_c {fol:List Nat} {bw gf nf cf x0 to:Nat} {sv:Value} (hx0:x0<18446744073709551616) (hto:to<18446744073709551616) (hb:∀ i,x0.testBit i=true->i<nf) (hfl:fol.length=nf) (hfb:∀ y∈fol,y<18446744073709551616) {M:List Nat} (hM:1 ∉ M) (w:World) (hH:St w M [blk bw (.cells #[sv,.slice (some ⟨gf,0,none⟩) nf cf] 79),zi qY 32 1 (.slice (some ⟨gf,0,none⟩) nf cf) fol] w) (hde:deA.ho w) :
  Calls z6 59 #[.pointer (some ⟨bw,0,none⟩),.int .u64 (x0:Nat),.int .u64 (to:Nat)] w fun e w'=>e=.returned (.tuple #[])∧St w M [blk bw (.cells #[sv,.slice (some ⟨gf,0,none⟩) nf cf] 79),zi qY 32 1 (.slice (some ⟨gf,0,none⟩) nf cf) (xM fol x0 to)] w':=by
 have H:=hH;have HK:Ks w M [deA]:=Ks.cons hde (by rw [wt];intro b hb;simp at hb;subst hb;exact hM) (Ks.nil w M);have H0:=zh (za hx0 (za hb (za hfl hfb)));clear hx0 hb hfl hfb hH hde;go_enter Tryd.func59,Tryd.ntmps59;go_wp2_with (first|refine sL ?_|(refine sS ?_;clear H;intros;rename_i H));go_loopg [1] (2*x0) (fun mm v1 wr=>LkRel w M bw gf nf cf to sv (xM fol x0 to) mm v1 wr);case atStart=>exact ⟨x0,fol,rfl,rfl,rfl,H0.out.1,H0.out.2.1,H0.out.2.2.1,H0.out.2.2.2,H⟩
 case round =>
  clear H;obtain ⟨x,fo,rfl,rfl,hG,hx,hbx,hfl,hfb,H⟩:=hrel;have HG:=zh hG;clear hG;by_cases hx0:x=0
  ·subst hx0;go_wp2_with (first|refine sL ?_|(refine sS ?_;clear H;intros;rename_i H));refine bodyPost_end (results_none rfl _ _ _) rfl ?_;have:=HG.out;rw [Q8] at this;rw [← this];exact ⟨rfl,H⟩
  ·have g1:((x:Int) != 0)=true:=(by simp;omega);have g1n:(x != 0)=true:=(by simp;omega);obtain ⟨m,hm,ht64⟩:=ctz_is (by omega) hx;obtain ⟨t,hte⟩:∃ z,Lib.ctz 64 x=z:=⟨_,rfl⟩
   have HTZ:Hid (∀ w,deA.ho w->Calls z6 52 #[.int .u64 (x:Nat)] w fun e w'=>e=.returned (.int .i64 (t:Nat))∧w'=w):=zh fun w h=>by
    rw [← hte];exact tz_c x hx w h
   rw [hte] at hm ht64;obtain ⟨c1,c2,c3⟩:=Xg hm;have htn:=hbx t c1;obtain ⟨f0,hf0⟩:∃ y,fo[t]?=some y:=⟨_,zg (by omega)⟩
   have hf0b:=hfb f0 (zc hf0);have HF0:Hid (∀ w,(zi qY 32 1 (.slice (some ⟨gf,0,none⟩) nf cf) fo).ho w->w.cell? ⟨gf,t,none⟩=some (.int .u64 (f0:Nat))):=zh fun w h=>by
    have:=qL h wj hf0 (j:=0) rfl;simpa using this
   have hor:=u64_or_nat f0 to hf0b hto;obtain ⟨f1,hf1⟩:∃ z,f0 ||| to=z:=⟨_,rfl⟩
   rw [hf1] at hor;have hf1b:f1<18446744073709551616:=(by rw [← hf1];exact yH (n:=64) hf0b hto);have hand:=u64_and_nat x (x-1) hx (by omega);obtain ⟨x1,hx1⟩:∃ z,x-1=z:=⟨_,rfl⟩
   have i1:(x:Int)-1=(x1:Nat):=(by omega);obtain ⟨x2,hx2⟩:∃ z,x &&& (x-1)=z:=⟨_,rfl⟩
   rw [hx2,hx1] at hand;have hx2x:x2<x:=by
    have h1:x2<=x-1:=(by rw [← hx2];exact wP);omega
   have HLS:Hid (xM (fo.set t f1) x2 to=xM fol x0 to∧(∀ i,x2.testBit i=true->i<nf)∧(fo.set t f1).length=nf∧∀ y∈fo.set t f1,y<18446744073709551616):=zh ⟨by
    rw [← hx2,← hf1,VA c1 c3 hf0];exact HG.out,fun i hi=>hbx i (by
     rw [← hx2,c3,zf] at hi;exact hi.1),by rw [yi];exact hfl,fun y hy=>by
    rcases List.mem_or_eq_of_mem_set hy with hy|rfl
    ·exact hfb y hy
    ·exact hf1b⟩
   have HX0:=zh hf0;have d1:decide ((t:Int)<(nf:Int))=true:=(by simp;omega);have d1n:decide (t<nf)=true:=(by simp;omega);have hx2b:x2<18446744073709551616:=(by omega);clear HG hm c1 c2 c3 hte hf0 hf1 hx1 hx2 hbx hfl hfb m;go_wp2_with (first|refine sL ?_|(refine sS ?_;clear H;intros;rename_i H));refine zr H 11 [] [] (by kernel_rfl) (by kernel_rfl) ?_;apply Exists.intro;refine ⟨fun w1 hw1 HX=>?_,fun bs wr Hr=>?_⟩
   ·refine sG ?_;repeat (first|go_big_quiet_skip|refine sQ ?_|go_big_quiet_step ((go_at_call 52;with_reducible exact ZL (HTZ.out _ ((HX _).known (A:=deA) HK pk))))|go_big_quiet_step (fail))
    exact wpQuiet_nil rfl
   clear H;have H:=Hr;clear Hr;replace H:=sH H;refine sT ?_;go_wp2_with (first|refine sL ?_|(refine sS ?_;clear H;intros;rename_i H)|((with_reducible refine yy ?_);refine AtStore.rowAk (enc:=qY) (k:=1) (i:=t) (j:=0) H rfl rfl rfl rfl rfl rfl pk wj (HX0.out) (by omega) (by simp) f1 rfl ?_;clear H;intro _ H;simp only [Act.put,puA,puB,puC]));go_roundg (2*x2);case measure=>omega
   case rel=>exact ⟨x2,fo.set t f1,rfl,rfl,HLS.out.1,hx2b,HLS.out.2.1,HLS.out.2.2.1,HLS.out.2.2.2,H.picks (.cons pk (.cons pk .nil))⟩
def AfRel (w:World) (fol:List Nat) (nf G:Nat) (mm:Nat) (v1 v5:Value) (wr:World):Prop :=
 ∃ (x z:Nat),mm=2*x∧v1=.int .u64 (x:Nat)∧v5=.int .u64 (z:Nat)∧Ya fol x z=G∧x<18446744073709551616∧z<18446744073709551616∧(∀ i,x.testBit i=true->i<nf)∧St w [] [] wr
theorem after_c {fol:List Nat} {bw gf nf cf x0:Nat} {sv:Value} (hx0:x0<18446744073709551616) (hb:∀ i,x0.testBit i=true->i<nf) (hfl:fol.length=nf) (hfb:∀ y∈fol,y<18446744073709551616) (w:World) (h1:(blk bw (.cells #[sv,.slice (some ⟨gf,0,none⟩) nf cf] 79)).ho w) (h2:(zi qY 32 1 (.slice (some ⟨gf,0,none⟩) nf cf) fol).ho w) (hde:deA.ho w) :
  Calls z6 35 #[.pointer (some ⟨bw,0,none⟩),.int .u64 (x0:Nat)] w fun e w'=>e=.returned (.int .u64 (Ya fol x0 0:Nat))∧St w [] [] w':=by
 have H:=St.nil w [];have HK:Ks w [] [blk bw (.cells #[sv,.slice (some ⟨gf,0,none⟩) nf cf] 79),zi qY 32 1 (.slice (some ⟨gf,0,none⟩) nf cf) fol,deA]:=Ks.cons h1 (by simp) (Ks.cons h2 (by simp) (Ks.one hde));have H0:=zh (za hx0 (za hb (za hfl hfb)));clear hx0 hb hfl hfb h1 h2 hde;go_enter Tryd.func35,Tryd.ntmps35;go_wp2_with (first|refine sL ?_|(refine sS ?_;clear H;intros;rename_i H));go_loopg [1,5] (2*x0) (fun mm v1 v5 wr=>AfRel w fol nf (Ya fol x0 0) mm v1 v5 wr);case atStart=>exact ⟨x0,0,rfl,rfl,rfl,rfl,H0.out.1,by omega,H0.out.2.1,H⟩
 case round =>
  clear H;obtain ⟨x,z,rfl,rfl,rfl,hG,hx,hz,hbx,H⟩:=hrel;have HG:=zh hG;clear hG;by_cases hx0:x=0
  ·subst hx0;go_wp2_with (first|refine sL ?_|(refine sS ?_;clear H;intros;rename_i H));go_ret;have:=HG.out;rw [Wp] at this;rw [← this];exact ⟨rfl,H⟩
  ·have g1:((x:Int) != 0)=true:=(by simp;omega);have g1n:(x != 0)=true:=(by simp;omega);obtain ⟨m,hm,ht64⟩:=ctz_is (by omega) hx;obtain ⟨t,hte⟩:∃ z,Lib.ctz 64 x=z:=⟨_,rfl⟩
   have HTZ:Hid (∀ w,deA.ho w->Calls z6 52 #[.int .u64 (x:Nat)] w fun e w'=>e=.returned (.int .i64 (t:Nat))∧w'=w):=zh fun w h=>by
    rw [← hte];exact tz_c x hx w h
   rw [hte] at hm ht64;obtain ⟨c1,c2,c3⟩:=Xg hm;have htn:=hbx t c1;obtain ⟨f0,hf0⟩:∃ y,fol[t]?=some y:=⟨_,zg (by rw [H0.out.2.2.1];exact htn)⟩
   have hf0b:=H0.out.2.2.2 f0 (zc hf0);have HF0:Hid (∀ w,(zi qY 32 1 (.slice (some ⟨gf,0,none⟩) nf cf) fol).ho w->w.cell? ⟨gf,t,none⟩=some (.int .u64 (f0:Nat))):=zh fun w h=>by
    have:=qL h wj hf0 (j:=0) rfl;simpa using this
   have hor:=u64_or_nat z f0 hz hf0b;obtain ⟨f1,hf1⟩:∃ y,z ||| f0=y:=⟨_,rfl⟩
   rw [hf1] at hor;have hf1b:f1<18446744073709551616:=(by rw [← hf1];exact yH (n:=64) hz hf0b);have hand:=u64_and_nat x (x-1) hx (by omega);obtain ⟨x1,hx1⟩:∃ z,x-1=z:=⟨_,rfl⟩
   have i1:(x:Int)-1=(x1:Nat):=(by omega);obtain ⟨x2,hx2⟩:∃ z,x &&& (x-1)=z:=⟨_,rfl⟩
   rw [hx2,hx1] at hand;have hx2x:x2<x:=by
    have h1:x2<=x-1:=(by rw [← hx2];exact wP);omega
   have HLS:Hid (Ya fol x2 f1=Ya fol x0 0∧(∀ i,x2.testBit i=true->i<nf)):=zh ⟨by
    rw [← hx2,← hf1,aft_step c1 c3 hf0];exact HG.out,fun i hi=>hbx i (by
     rw [← hx2,c3,zf] at hi;exact hi.1)⟩
   have d1:decide ((t:Int)<(nf:Int))=true:=(by simp;omega);have d1n:decide (t<nf)=true:=(by simp;omega);have hx2b:x2<18446744073709551616:=(by omega);clear HG hm c1 c2 c3 hte hf0 hf1 hx1 hx2 hbx m;go_wp2_with (first|refine sL ?_|(refine sS ?_;clear H;intros;rename_i H));refine zr H 10 [] [] (by kernel_rfl) (by kernel_rfl) ?_;apply Exists.intro;refine ⟨fun w1 hw1 HX=>?_,fun bs wr Hr=>?_⟩
   ·refine sG ?_;repeat (first|go_big_quiet_skip|refine sQ ?_|go_big_quiet_step ((go_at_call 52;with_reducible exact ZL (HTZ.out _ ((HX _).known (A:=deA) HK pk))))|go_big_quiet_step (fail))
    exact wpQuiet_nil rfl
   clear H;have H:=Hr;clear Hr;replace H:=sH H;refine sT ?_;go_wp2_with (first|refine sL ?_|(refine sS ?_;clear H;intros;rename_i H));go_roundg (2*x2);case measure=>omega
   case rel=>exact ⟨x2,f1,rfl,rfl,rfl,HLS.out.1,hx2b,hf1b,HLS.out.2,H⟩
end
section
open Go.RowKit Go.Maps
attribute [local go_sem] qM
structure Pt.Fit (p:Pt) (n:Nat):Prop where
 fb:p.fst<18446744073709551616
 lb:p.lst<18446744073709551616
 fp:∀ i,p.fst.testBit i=true->i<n
 lp:∀ i,p.lst.testBit i=true->i<n
theorem Pt.Fit.seq {a b:Pt} {n:Nat} (h:a.Fit n) (k:b.Fit n):(qJ a b).Fit n:=by
 refine ⟨?_,?_,fun i hi=>?_,fun i hi=>?_⟩
 ·unfold qJ;simp only;split
  ·exact yH (n:=64) h.fb k.fb
  ·exact h.fb
 ·unfold qJ;simp only;split
  ·exact yH (n:=64) k.lb h.lb
  ·exact k.lb
 ·rcases ptSeq_fst.1 hi with g|g
  ·exact h.fp i g
  ·exact k.fp i g.2
 ·rcases ptSeq_lst.1 hi with g|g
  ·exact k.lp i g
  ·exact h.lp i g.2
theorem Xt {fol:List Nat} {a b:Nat}:(xM fol a b).length=fol.length:=by unfold xM;simp
theorem linkF_lt {fol:List Nat} {a b:Nat} (hb:b<18446744073709551616) (h:∀ y∈fol,y<18446744073709551616):∀ y∈xM fol a b,y<18446744073709551616:=by
 intro y hy;obtain ⟨i,hi⟩:=yj.1 hy;unfold xM at hi;rw [yr] at hi;cases hf:fol[i]? with
 |none=>rw [hf] at hi;simp at hi
 |some z =>
  rw [hf] at hi;simp at hi;have hz:=h z (zc hf);rw [← hi];split
  ·exact yH (n:=64) hz hb
  ·exact hz
theorem link_s {fol:List Nat} {bw gf nf cf x0 to:Nat} {sv:Value} (hx0:x0<18446744073709551616) (hto:to<18446744073709551616) (hb:∀ i,x0.testBit i=true->i<nf) (hfl:fol.length=nf) (hfb:∀ y∈fol,y<18446744073709551616) (w:World) (h:((blk bw (.cells #[sv,.slice (some ⟨gf,0,none⟩) nf cf] 79)).sep (zi qY 32 1 (.slice (some ⟨gf,0,none⟩) nf cf) fol)).ho w) (h0:1 ∉ ((blk bw (.cells #[sv,.slice (some ⟨gf,0,none⟩) nf cf] 79)).sep (zi qY 32 1 (.slice (some ⟨gf,0,none⟩) nf cf) fol)).fp) (hde:deA.ho w) :
  Calls z6 59 #[.pointer (some ⟨bw,0,none⟩),.int .u64 (x0:Nat),.int .u64 (to:Nat)] w fun e w'=>e=.returned (.tuple #[])∧St w ((blk bw (.cells #[sv,.slice (some ⟨gf,0,none⟩) nf cf] 79)).sep (zi qY 32 1 (.slice (some ⟨gf,0,none⟩) nf cf) fol)).fp [(blk bw (.cells #[sv,.slice (some ⟨gf,0,none⟩) nf cf] 79)).sep (zi qY 32 1 (.slice (some ⟨gf,0,none⟩) nf cf) (xM fol x0 to))] w':=by
 refine zm (link_c hx0 hto hb hfl hfb h0 w (St.one h).sep hde) ?_;rintro e w' ⟨rfl,h1⟩;exact ⟨rfl,h1.join⟩
theorem seq_s {fol:List Nat} {bw gf nf cf:Nat} {sv:Value} {a b:Pt} (ha:a.Fit nf) (hb:b.Fit nf) (hfl:fol.length=nf) (hfb:∀ y∈fol,y<18446744073709551616) (w:World) (h:((blk bw (.cells #[sv,.slice (some ⟨gf,0,none⟩) nf cf] 79)).sep (zi qY 32 1 (.slice (some ⟨gf,0,none⟩) nf cf) fol)).ho w) (h0:1 ∉ ((blk bw (.cells #[sv,.slice (some ⟨gf,0,none⟩) nf cf] 79)).sep (zi qY 32 1 (.slice (some ⟨gf,0,none⟩) nf cf) fol)).fp) (hde:deA.ho w) :
  Calls z6 47 #[.pointer (some ⟨bw,0,none⟩),.agg #[.bool a.nul,.int .u64 (a.fst:Nat),.int .u64 (a.lst:Nat)],.agg #[.bool b.nul,.int .u64 (b.fst:Nat),.int .u64 (b.lst:Nat)]] w fun e w'=>e=.returned (.agg #[.bool (qJ a b).nul,.int .u64 ((qJ a b).fst:Nat),.int .u64 ((qJ a b).lst:Nat)])∧St w ((blk bw (.cells #[sv,.slice (some ⟨gf,0,none⟩) nf cf] 79)).sep (zi qY 32 1 (.slice (some ⟨gf,0,none⟩) nf cf) fol)).fp [(blk bw (.cells #[sv,.slice (some ⟨gf,0,none⟩) nf cf] 79)).sep (zi qY 32 1 (.slice (some ⟨gf,0,none⟩) nf cf) (xM fol a.lst b.fst))] w':=by
 have H:=(St.one h).sep;have HDE:=zh hde;have HK:Ks w ((blk bw (.cells #[sv,.slice (some ⟨gf,0,none⟩) nf cf] 79)).sep (zi qY 32 1 (.slice (some ⟨gf,0,none⟩) nf cf) fol)).fp [deA]:=Ks.cons hde (by rw [wt];intro c hc;simp only [zV] at hc;subst hc;exact h0) (Ks.nil w _);have HLK:Hid (∀ w,((blk bw (.cells #[sv,.slice (some ⟨gf,0,none⟩) nf cf] 79)).sep (zi qY 32 1 (.slice (some ⟨gf,0,none⟩) nf cf) fol)).ho w->1 ∉ ((blk bw (.cells #[sv,.slice (some ⟨gf,0,none⟩) nf cf] 79)).sep (zi qY 32 1 (.slice (some ⟨gf,0,none⟩) nf cf) fol)).fp->deA.ho w->Calls z6 59 #[.pointer (some ⟨bw,0,none⟩),.int .u64 (a.lst:Nat),.int .u64 (b.fst:Nat)] w fun e w'=>e=.returned (.tuple #[])∧St w ((blk bw (.cells #[sv,.slice (some ⟨gf,0,none⟩) nf cf] 79)).sep (zi qY 32 1 (.slice (some ⟨gf,0,none⟩) nf cf) fol)).fp [(blk bw (.cells #[sv,.slice (some ⟨gf,0,none⟩) nf cf] 79)).sep (zi qY 32 1 (.slice (some ⟨gf,0,none⟩) nf cf) (xM fol a.lst b.fst))] w'):=zh fun w h h0 hd=>link_s ha.lb hb.fb ha.lp hfl hfb w h h0 hd
 have hor1:=u64_or_nat a.fst b.fst ha.fb hb.fb;have hor2:=u64_or_nat b.lst a.lst hb.lb ha.lb;obtain ⟨an,af,al⟩:=a;obtain ⟨bn,bf,bl⟩:=b;simp only at HLK hor1 hor2 ⊢;have H00:=zh h0;clear h hde ha hb h0;generalize ((blk bw (.cells #[sv,.slice (some ⟨gf,0,none⟩) nf cf] 79)).sep (zi qY 32 1 (.slice (some ⟨gf,0,none⟩) nf cf) fol)).fp=N at H HK ⊢;unfold qJ;simp only;obtain ⟨o1,ho1⟩:∃ z,af ||| bf=z:=⟨_,rfl⟩
 obtain ⟨o2,ho2⟩:∃ z,bl ||| al=z:=⟨_,rfl⟩
 rw [ho1] at hor1 ⊢;rw [ho2] at hor2 ⊢;clear ho1 ho2;have hfin:(xM fol al bf).length=nf:=(by rw [Xt];exact hfl);clear hfl hfb hfin;cases an <;> cases bn
 all_goals
  go_enter Tryd.func47,Tryd.ntmps47;go_wp2_with (first|refine sL ?_|(refine sS ?_;clear H;intros;rename_i H));refine zm (HLK.out _ ((H.pick2 (A:=blk bw (.cells #[sv,.slice (some ⟨gf,0,none⟩) nf cf] 79)) (B:=zi qY 32 1 (.slice (some ⟨gf,0,none⟩) nf cf) fol) pk pk).join.ho _ zS) H00.out (H.known HK pk)) ?_;rintro e9 wc ⟨rfl,hb⟩;replace H:=((H.pick2 pk pk).join).call hb;simp only [z7,z8] at H;clear hb;go_wp2_with (first|refine sL ?_|(refine sS ?_;clear H;intros;rename_i H));refine bodyPost_ret (qy rfl H rfl pk rfl) rfl ?_;exact ⟨rfl,H.picks (.cons pk .nil)⟩
end
section
open Go.RowKit Go.Maps
attribute [local go_sem] qM
section
variable {ops:Array Oper} {a:Act} {w:World} {o:Oper} {Rr:Value->World->Prop}
theorem StStep.rngT {ty:TypeId} {x:Operand} (hw:Region.wanted o (yielded ops a.tmps)=true) (ho:o.op=.load ty x) {g off:Nat} (hx:a.eval x=.pointer (some ⟨g,off,none⟩)) {vs:List Value} (hc:w.rangeAt g off vs)
  (hr:wK ty vs.length=true) (h:Rr (.agg vs.toArray) w):StStep z6 ops o a w Rr :=
 StStep.val hw (by
  have hr:=yR hr;unfold wy at hr;simp only [zf,beq_iff_eq] at hr;unfold execOp;cases hu:Program.underlying z6 ty with
  |none=>simp [hu] at hr
  |some d =>
   simp only [ho,hx,Sem.run_bind,run_loadAt_mid w g off ty vs d hc hu (by simp only [hu] at hr;cases d <;> simp_all [TypeDesc.isRow]) hr.2,Result.andThen_ok];rfl) h
end
def yA (s:List Nat):List Value:=[.int .u64 (s.getD 0 0:Nat),.int .u64 (s.getD 1 0:Nat),.int .u64 (s.getD 2 0:Nat),.int .u64 (s.getD 3 0:Nat)]
theorem ki (s:List Nat):(yA s).length=4:=rfl
theorem Vo (s:List Nat):∀ u∈yA s,u.oneCell'=true:=by
 intro u hu;simp only [yA,zG,List.not_mem_nil,or_false] at hu;rcases hu with rfl|rfl|rfl|rfl <;> rfl
def wA (bw:Nat) (sv fv:Value) (c:Chart):As:=(blk bw (.cells #[sv,fv] 79)).sep ((zi yA 34 4 sv c.sets).sep (zi qY 32 1 fv c.fol))
theorem St.apartK {w0 w:World} {M:List Nat} {L K:List As} {A B:As} (H:St w0 M L w) (k:Ks w0 M K) (hB:B∈K) (hA:A∈L):∀ b∈B.fp,b ∉ A.fp:=fun b hb ha=>by
 rcases H.own A hA b ha with h|h
 ·have:=B.lt w0 (k.ho B hB) b hb;omega
 ·exact k.apart B hB b hb h
theorem St.ksub {w0 w:World} {M:List Nat} {L K:List As} {A:As} (H:St w0 M L w) (k:Ks w0 M K) (hA:A∈L):Ks w A.fp K :=
 ⟨fun B hB=>H.old (k.ho B hB) (k.apart B hB),fun B hB=>H.apartK k hB hA⟩
theorem St.open_w {w0 w:World} {M:List Nat} {bw:Nat} {sv fv:Value} {c:Chart} {R:List As} (H:St w0 M (wA bw sv fv c::R) w):St w0 M (blk bw (.cells #[sv,fv] 79)::zi yA 34 4 sv c.sets::zi qY 32 1 fv c.fol::R) w:=by
 have h1:=H.sep;have h2:St w0 M ((zi yA 34 4 sv c.sets).sep (zi qY 32 1 fv c.fol)::(blk bw (.cells #[sv,fv] 79)::R)) w:=h1.perm (yd.swap ..);have h3:=h2.sep;exact h3.perm (((yd.swap _ _ _).cons _).trans (yd.swap _ _ _))
theorem St.shut_w {w0 w:World} {M:List Nat} {bw:Nat} {sv fv:Value} {c:Chart} {R:List As} (H:St w0 M (blk bw (.cells #[sv,fv] 79)::zi yA 34 4 sv c.sets::zi qY 32 1 fv c.fol::R) w):St w0 M (wA bw sv fv c::R) w:=by
 have h1:St w0 M (zi yA 34 4 sv c.sets::zi qY 32 1 fv c.fol::(blk bw (.cells #[sv,fv] 79)::R)) w:=H.perm ((yd.swap _ _ _).trans ((yd.swap _ _ _).cons _));have h2:=h1.join;have h3:St w0 M (blk bw (.cells #[sv,fv] 79)::(zi yA 34 4 sv c.sets).sep (zi qY 32 1 fv c.fol)::R) w:=h2.perm (yd.swap ..);exact h3.join
def wE (w:World) (bw:Nat) (sv fv:Value) (c:Chart) (res:Pt×Chart) (e:Ending) (w':World):Prop :=
 e=.returned (.agg #[.bool res.1.nul,.int .u64 (res.1.fst:Nat),.int .u64 (res.1.lst:Nat)])∧∃ sv' fv',St w (wA bw sv fv c).fp [wA bw sv' fv' res.2] w'
theorem wrapN (a:Nat) (h:a<18446744073709551616):IntKind.u64.wrap (a:Int)=(a:Int):=by rw [IntKind.wrap_u64];omega
theorem shl_one {n:Nat} (h:n<64):(1 <<< n:Nat)=2 ^ n:=by rw [Nat.shiftLeft_eq,Nat.one_mul]
attribute [local irreducible] wA
attribute [local go_sem] StStep Jj Zi in
theorem write_set {bw:Nat} {hh:Hd} {pv:Value} {c:Chart} (hk:hh.k=2) (hc:ChOk c) (hlen:c.sets.length<64) {sv fv:Value} (w:World) (h:(wA bw sv fv c).ho w) (hpv:pv.oneCell'=true) :
  Calls z6 33 #[.pointer (some ⟨bw,0,none⟩),.agg #[.int .i64 hh.k,.int .u64 (hh.s0:Nat),.int .u64 (hh.s1:Nat),.int .u64 (hh.s2:Nat),.int .u64 (hh.s3:Nat),.int .i64 hh.lo,.int .i64 hh.hi,pv]] w (wE w bw sv fv c (Re.write (.set hh.set) c)):=by
 have H:=(St.one h).open_w;unfold wE;obtain ⟨N,hN⟩:∃ N,(wA bw sv fv c).fp=N:=⟨_,rfl⟩
 rw [hN] at H ⊢;clear h hN;obtain ⟨ads,cs,rfl,_⟩:=zW (H.get (A:=zi yA 34 4 sv c.sets) pk);obtain ⟨adf,cf,rfl,_⟩:=zW (H.get (A:=zi qY 32 1 fv c.fol) pk);obtain ⟨n,hn⟩:∃ z,c.sets.length=z:=⟨_,rfl⟩
 have hfn:c.fol.length=n:=(by rw [hc.len,hn]);have HN:=zh (za hn hfn);rw [hn] at H hlen;rw [hfn] at H;rw [hk];have hp2:2 ^ n<18446744073709551616:=by
  have:=jO (a:=2) (by omega) hlen;simpa using this
 have hwr:IntKind.u64.wrap ((2:Int) ^ n)=((2 ^ n:Nat):Int):=by
  have e:((2:Int) ^ n)=((2 ^ n:Nat):Int):=(by simp);rw [e];exact wrapN _ hp2
 obtain ⟨p2,hp2e⟩:∃ z,(2:Nat) ^ n=z:=⟨_,rfl⟩
 rw [hp2e] at hp2 hwr;have HP2:=zh hp2e;have HRNG:Hid (∀ b w,(blk b (.cells #[.int .i64 2,.int .u64 (hh.s0:Nat),.int .u64 (hh.s1:Nat),.int .u64 (hh.s2:Nat),.int .u64 (hh.s3:Nat),.int .i64 hh.lo,.int .i64 hh.hi,pv] 37)).ho w->w.rangeAt b 1 (yA hh.set)):=zh fun b w hb j u hj=>by
  rw [yB] at hb;have hjl:=zP hj;simp only [ki] at hjl;rw [cell_of_row w b (1+j) _ _ (0,0) hb]
  match j,hjl with
  |0,_=>exact hj
  |1,_=>exact hj
  |2,_=>exact hj
  |3,_=>exact hj
 clear hc hn hfn hk hp2e;go_enter Xb,Y8;go_wp2_with (first|refine sL ?_|(refine sS ?_;clear H;intros;rename_i H));rename_i b3 _ b4 _ _ _ _ _;replace H:=H.picks (.cons (A:=zi yA 34 4 (.slice ads n cs) c.sets) pk (.cons (A:=blk bw (.cells #[.slice ads n cs,.slice adf n cf] 79)) pk (.cons (A:=zi qY 32 1 (.slice adf n cf) c.fol) pk (.cons (A:=blk b3 (.cells #[.int .i64 2,.int .u64 (hh.s0:Nat),.int .u64 (hh.s1:Nat),.int .u64 (hh.s2:Nat),.int .u64 (hh.s3:Nat),.int .i64 hh.lo,.int .i64 hh.hi,pv] 37)) pk (.cons (A:=blk b4 (.cells #[.bool false,.int .u64 0,.int .u64 0] 81)) pk .nil)))));refine wl 9 [⟨[],fun v _=>v=.pointer (some ⟨bw,0,none⟩)⟩,⟨[],fun v _=>v=.pointer (some ⟨bw,0,none⟩)⟩,⟨[1],fun v _=>v=.pointer (some ⟨bw,0,none⟩)⟩,⟨[2],fun v _=>v=.pointer (some ⟨bw,0,none⟩)⟩,⟨[3],fun v _=>v=.slice ads n cs⟩,⟨[],fun v _=>v=.pointer (some ⟨b3,1,none⟩)⟩,⟨[5],fun v _=>v=.agg #[.int .u64 (hh.s0:Nat),.int .u64 (hh.s1:Nat),.int .u64 (hh.s2:Nat),.int .u64 (hh.s3:Nat)]⟩,⟨[6],fun v _=>∃ bn:Nat,v=.slice (some ⟨bn,0,none⟩) 1 1⟩,⟨[4,7],fun _ _=>True⟩] [7,8] [[0,1,2],[0,1],[0,1],[0,1],[0,1],[0],[0],[0],[1]] [fun _ wx=>St w N [zi yA 34 4 (.slice ads n cs) c.sets,blk bw (.cells #[.slice ads n cs,.slice adf n cf] 79),zi qY 32 1 (.slice adf n cf) c.fol,blk b3 (.cells #[.int .i64 2,.int .u64 (hh.s0:Nat),.int .u64 (hh.s1:Nat),.int .u64 (hh.s2:Nat),.int .u64 (hh.s3:Nat),.int .i64 hh.lo,.int .i64 hh.hi,pv] 37),blk b4 (.cells #[.bool false,.int .u64 0,.int .u64 0] 81)] wx,fun vals wx=>∃ bn:Nat,vals 7=.slice (some ⟨bn,0,none⟩) 1 1∧St w N [zi yA 34 4 (.slice ads n cs) c.sets,zi yA 34 4 (.slice (some ⟨bn,0,none⟩) 1 1) [hh.set],blk bw (.cells #[.slice ads n cs,.slice adf n cf] 79),zi qY 32 1 (.slice adf n cf) c.fol,blk b3 (.cells #[.int .i64 2,.int .u64 (hh.s0:Nat),.int .u64 (hh.s1:Nat),.int .u64 (hh.s2:Nat),.int .u64 (hh.s3:Nat),.int .i64 hh.lo,.int .i64 hh.hi,pv] 37),blk b4 (.cells #[.bool false,.int .u64 0,.int .u64 0] 81)] wx,fun vals wx=>∃ (ad8:Option Addr) (cp8:Nat),vals 8=.slice ad8 (n+1) cp8∧St w N [zi yA 34 4 (.slice ad8 (n+1) cp8) (c.sets++[hh.set]),blk bw (.cells #[.slice ads n cs,.slice adf n cf] 79),zi qY 32 1 (.slice adf n cf) c.fol,blk b3 (.cells #[.int .i64 2,.int .u64 (hh.s0:Nat),.int .u64 (hh.s1:Nat),.int .u64 (hh.s2:Nat),.int .u64 (hh.s3:Nat),.int .i64 hh.lo,.int .i64 hh.hi,pv] 37),blk b4 (.cells #[.bool false,.int .u64 0,.int .u64 0] 81)] wx]
  [[],[],[(1,24)],[(2,25)],[(3,26)],[],[(5,28)],[(6,29)],[(4,27),(7,30)]] [(0,23),(1,24),(2,25),(3,26),(4,27),(5,28),(6,29),(7,30),(8,31)] (by kernel_rfl) (by kernel_rfl) H.drew ⟨⟨qo,qo,qo,trivial⟩,⟨qo,qo,trivial⟩,⟨qo,qo,trivial⟩,⟨qo,qo,trivial⟩,⟨ql,ql,trivial⟩,⟨qo,trivial⟩,⟨?_,trivial⟩,⟨?_,trivial⟩,⟨?_,trivial⟩,trivial⟩ ?_
 ·intro vals wx hd HC;simp only [GF] at hd;have H:=HC;simp only [CA] at H;simp only [PS,hd];exact StStep.rngT (vs:=yA hh.set) rfl rfl rfl (HRNG.out b3 _ (H.get pk)) rfl ⟨rfl,HC⟩
 ·intro vals wx hd HC;simp only [GF] at hd;have H:=HC;simp only [CA] at H;simp only [PS,hd];clear HC;refine StStep.slice1 (enc:=yA) H rfl rfl rfl rfl rfl rfl rfl rfl rfl hh.set rfl ki ?_;intro bn wz H;exact ⟨⟨bn,rfl⟩,bn,rfl,H.picks (.cons pk (.cons pk (.cons pk (.cons pk (.cons pk (.cons pk .nil))))))⟩
 ·intro vals wx hd HC;simp only [GF] at hd;have H:=HC;simp only [CA] at H;obtain ⟨bn,hv,H⟩:=H;simp only [PS,hd,hv];refine StStep.append (enc:=yA) rfl rfl rfl rfl rfl (by decide) (by decide) rfl rfl H (H.get (A:=zi yA 34 4 (.slice (some ⟨bn,0,none⟩) 1 1) [hh.set]) pk) ki Vo (by have:=HN.out.1;simp;omega) ?_;intro v' wz H;obtain ⟨ad8,cp8,e9,_⟩:=zW (H.get (A:=zi yA 34 4 v' (c.sets++[hh.set])) pk);rw [zN,HN.out.1,qm] at e9;subst e9;exact ⟨trivial,ad8,cp8,rfl,H.picks (.cons pk (.cons pk (.cons pk (.cons pk (.cons pk .nil)))))⟩
 intro vals wx hd HC;have h7:=hd.2.2.2.2.2.2.2.1;simp only [CA] at HC;obtain ⟨ad8,cp8,hv,H⟩:=HC;simp only [GF] at hd;simp only [PS,hd,hv];clear hd;go_wp2_with (first|refine sL ?_|(refine sS ?_;clear H;intros;rename_i H)|((with_reducible refine ym ?_);refine AtSlice.one H rfl rfl rfl rfl rfl rfl rfl rfl rfl ?_;clear H;intro b9 _ H;simp only [Act.put,puA,puB,puC])|((with_reducible refine xm ?_);refine AtAppend.goN (enc:=qY) H rfl rfl rfl rfl rfl (by decide) (by decide) rfl (xs:=c.fol) pk rfl (H.at pk) [0] rfl (by simp [zX,qY]) wj WL (by have:=HN.out.2;simp;omega) HN.out.2 ?_;clear H;intro ad9 cp9 _ H;simp only [Act.put,puA,puB,puC]));refine bodyPost_ret (qy rfl H rfl pk rfl) rfl ?_;have e1:Re.write (.set hh.set) c=(⟨false,p2,p2⟩,⟨c.sets++[hh.set],c.fol++[0]⟩):=by
  rw [Re.write,shl_one (by rw [HN.out.1];omega),HN.out.1,HP2.out]
 rw [e1];exact ⟨rfl,.slice ad8 (n+1) cp8,.slice ad9 (n+1) cp9,(H.picks (.cons (A:=blk bw (.cells #[.slice ad8 (n+1) cp8,.slice ad9 (n+1) cp9] 79)) pk (.cons (A:=zi yA 34 4 (.slice ad8 (n+1) cp8) (c.sets++[hh.set])) pk (.cons (A:=zi qY 32 1 (.slice ad9 (n+1) cp9) (c.fol++[0])) pk .nil)))).shut_w⟩
end
end Go.Proofs.YtminpdngkjlehaaDoor
