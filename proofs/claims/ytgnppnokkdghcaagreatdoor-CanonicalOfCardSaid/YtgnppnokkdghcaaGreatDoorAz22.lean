/-
  Part 22 of the texts behind CanonicalOf: walks and laws. Conditions: as each states.
-/
import Derived.Test.YtgnppnokkdghcaaGreatDoorAz21
set_option linter.unusedSimpArgs false
set_option linter.unusedVariables false
set_option maxRecDepth 100000
set_option maxHeartbeats 80000000
open Array renaming ext_getElem?→yr,getElem?_eq_none→qw,getElem?_eq_some_iff→yV,size_setIfInBounds→yD
open Bool renaming and_eq_true→zu,eq_false_or_eq_true→zW,false_eq_true→xA
open Go.Proofs.Tryz renaming func165→j3,func71→Qd,ntmps165→wE,ntmps71→Zu,prog→zb,underlying76→xv
open Int renaming natCast_mul→Yl,tmod_eq_emod_of_nonneg→jz
open List renaming append_assoc→zQ,append_nil→qO,cons→Zq,cons_append→zo,drop_eq_getElem_cons→yj,drop_of_length_le→yo,drop_succ_cons→wQ,drop_zero→yw,eq_nil_of_length_eq_zero→qe,eq_of_mem_replicate→xy,filter_cons→kA,flatMap_append→zI,flatMap_cons→zt,flatMap_nil→wW,flatMap_replicate→jc,flatten_append→Xy,foldl_cons→zB,foldl_nil→zx,getElem?_append_left→qv,getElem?_append_right→yd,getElem?_cons_succ→yN,getElem?_cons_zero→Q9,getElem?_drop→yh,getElem?_eq_some_iff→xB,getElem?_map→yf,getElem?_replicate→x4,getElem?_set_ne→j5,getElem?_set_self→kb,getElem?_take→wh,getLast?_append→xu,length→ym,length_append→zi,length_cons→zw,length_map→qd,length_nil→zC,length_set→wo,map_cons→zX,map_nil→ye,map_replicate→Qa,map_toArray→xo,mem_append→zl,mem_cons→zL,mem_cons_of_mem→qT,mem_cons_self→zN,mem_flatten→vc,mem_iff_getElem?→Yi,mem_map→qY,mem_of_getElem?→zy,mem_of_getLast?→vq,mem_range→zJ,mem_replicate→wq,mem_singleton→Zx,nil_append→zv,pairwise_cons→qu,range→zk,replicate→zd,replicate_succ→zS,replicate_succ'→xG,reverse_cons→ke,sum_replicate_nat→Xz,take_length→jx,take_of_length_le→qp,take_zero→jA
open Nat renaming add_assoc→wA,add_comm→kf,add_mul→xl,add_sub_cancel→xC,eq_zero_or_pos→qk,exists_eq_succ_of_ne_zero→zA,le_mul_of_pos_left→wY,le_mul_of_pos_right→jg,le_refl→zr,le_trans→qs,log2→ju,log2_eq_iff→J8,lt_of_not_le→vD,lt_or_ge→yI,mod_eq_of_lt→xI,mod_lt→qM,mul_assoc→Zo,mul_comm→xO,mul_le_mul→ZB,mul_le_mul_right→y9,one_mul→QK,strongRecOn→yJ,sub_self→QL,succ_mul→XX,zero_add→qQ,zero_le→qy,zero_mul→QM
open Option renaming map_some→Qb,some→yk,toList→qb
namespace Go.Proofs.YtgnppnokkdghcaaGreatDoor
section
open Go.RowKit Go.Maps
attribute [local go_sem] qt
attribute [local go_sem] StStep jw yM in
theorem gStr_a {b':Tr} {lv m T:Nat} {R0:List Tr} {X:Px} {b il kl ir kr:Nat} {cs:Array Value} {pl pr mv:Value} {fl fr:List Fr} {rs:List ItR} {d:qK} {p:List (Tr×Nat)} {x:Tr} {M:List It} (hX:zK X) (hs:SpIn X cs pl fl il kl pr fr ir kr mv rs d (p,some x) M) (hm:lv=m+1) (ho:m%2=1) (htie:yQ lv=true) (hc:Canon b') (hbl:b'.lv<=25339) (hR:EndR b' m (p,some x) R0) (hM0:Tie M) (hT:(zT M).length+R0.length=T) (hT2:T<=1048576) (hlv:lv<1152921504606846976) (ht:yZ lv p=none) (w:World) (h:((spA X b cs pl fl pr fr mv rs).sep deA).ho w) :
  Calls zb 165 #[.pointer (some ⟨b,0,none⟩),.int .i64 lv] w fun e' w'=>∃ e2 M2,Xu lv (p,some x) M e2 M2∧jB X b (spA X b cs pl fl pr fr mv rs).fp w (.tuple #[]) d e2 M2 e' w':=by
 rw [qz] at h;obtain ⟨k1,k2,hdd⟩:=h;have H:=jG (St.one k1);have HK:Ks w (spA X b cs pl fl pr fr mv rs).fp [deA]:=⟨by simpa using k2,by simpa using fun b hb hm=>hdd b hm hb⟩
 generalize (spA X b cs pl fl pr fr mv rs).fp=N at *;clear k1 k2 hdd;have HX:=zh hX;have HS:=zh hs;have hrl:rs.length<=1048576:=(by have h1:=hs.its.len;have h2:=vC hM0;omega);have C11:=zh hs.c11;have CI:=zh hs.c9;have CK:=zh hs.c10;have i1:(lv:Int)-1=(m:Nat):=(by omega);obtain ⟨lu,hlu⟩:∃ lu,lu=lv+1:=⟨_,rfl⟩
 have i2:(lv:Int)+1=(lu:Nat):=(by omega);have hlub:lu<=1152921504606846976:=(by omega);have HM:Hid (m<9223372036854775808∧lv<9223372036854775808∧lv-1=m∧lu=lv+1):=zh ⟨by omega,by omega,by omega,hlu⟩;have HGB:Hid (b'.Gd∧b'.lv<=25339):=zh ⟨hc.gd,hbl⟩;have HT:Hid (T<=1048576∧lv%2=0):=zh ⟨hT2,by omega⟩;have hz:EndZ b' (p,some x):=.ofR hR;have hx:Den X.S ir x∧kr=x.key:=hs.right.symOf;have hi1:=hx.1.1;have d0:((ir:Int)==0)=false:=(by simp;omega);have HKR:Hid (kr=x.key):=zh hx.2;have HPL:Hid (∀ e1 M1,W1 lv kr (p,some x) M e1 M1->StrPl b' lv kr T (p,some x) M e1 M1):=zh fun e1 M1 h=>.of hm ho htie hc hR hM0 hT h
 have hpa:=fun w h1 h2=>Y3 (b:=b) (ty:=250) (lv:=lv) hs.right hz hc.gd hbl ht w h1 h2
 have HPA:=zh hpa;clear hpa;rcases yn M with hM|⟨M',i,hM⟩
 case inl =>
  have HKP:Hid (xU lv p x M=true):=zh (by unfold xU;rw [hM];simp [ht]);have hrs:rs=[]:=(by have:=hs.its;rw [hM] at this;exact ItsOf.nil_iff this);subst hrs;obtain ⟨ad,ci,e8,_⟩:=zE (H.get (A:=zc zj 254 4 mv []) pk);simp only [zC] at e8;subst e8;clear hs hX hz hm ho htie hc hbl hR hM0 hT hT2 hlu hx hi1 hM ht;go_enter j3,wE;go_wp2_with (first|refine sL ?_|(refine sS ?_;clear H;intros;rename_i H)|(go_at_call 172;with_reducible refine same (HPA.out _ (H.get pk) (H.get pk)) ?_));refine nR ?_;exact ⟨_,_,.keep rfl HKP.out,X,cs,pl,fl,il,kl,pr,fr,ir,kr,_,[],rfl,.refl _,HX.out,rfl,HS.out,H.picks (.cons pk (.cons pk (.cons pk (.cons pk (.cons pk .nil)))))⟩
 have hits:=hs.its;rw [hM] at hits;obtain ⟨ts,r,hrs,_,hri⟩:=hits.snoc_iff;subst hrs;obtain ⟨gi,ci,e8,hc1,_⟩:=q8 (H.get (A:=zc zj 254 4 mv (ts++[r])) pk) (by simp);obtain ⟨ni,hni⟩:∃ n,ts.length=n:=⟨_,rfl⟩
 have hleni:(ts++[r]).length=ni+1:=(by simp [hni]);rw [hleni] at e8 hc1 hrl;subst e8;have hxi:(ts++[r])[ni]?=some r:=(by rw [← hni];simp);have HR2:Hid (∀ w,(zc zj 254 4 (.slice (some ⟨gi,0,none⟩) (ni+1) ci) (ts++[r])).ho w->w.cell? ⟨gi,ni*4+2,none⟩=some (.int .u64 r.ky)):=zh fun w h=>qj (j:=2) h q7 hxi rfl
 have hlast:M.getLast?=some i:=(by rw [hM];simp);by_cases hke:r.ky=kr
 case neg =>
  have d4:((r.ky:Int)==(kr:Int))=false:=(by simp;omega);have d5:((r.ky:Int) != (kr:Int))=true:=(by simp;omega);have d6:(r.ky==kr)=false:=(by simp;omega);have d7:¬ r.ky=kr:=hke;have d8:¬ (r.ky:Int)=(kr:Int):=(by omega);have HKP:Hid (xU lv p x M=true):=zh (by
   have hne:i.x.key≠x.key:=(by rw [← hri.ky,← hx.2];exact hke);unfold xU;rw [hlast];simp [hne,ht])
  clear hs hX hz hm ho htie hc hbl hR hM0 hT hT2 hlu hx hi1 hM hits hri hni hleni hxi hke hlast ht;go_enter j3,wE;go_wp2_with (first|refine sL ?_|(refine sS ?_;clear H;intros;rename_i H)|(go_at_call 172;with_reducible refine same (HPA.out _ (H.get pk) (H.get pk)) ?_));refine nR ?_;exact ⟨_,_,.keep rfl HKP.out,X,cs,pl,fl,il,kl,pr,fr,ir,kr,_,_,rfl,.refl _,HX.out,rfl,HS.out,H.picks (.cons pk (.cons pk (.cons pk (.cons pk (.cons pk .nil)))))⟩
 have HE0:Hid (xU lv p x M=false):=zh (by unfold xU;rw [hlast];simp [← hri.ky,hke,hx.2]);rw [hke] at HR2;clear hs hX hz hm ho htie hc hbl hR hM0 hT hT2 hlu hx hi1 hM hits hri hni hleni hxi hke hlast ht;go_enter j3,wE;go_wp2_with (first|refine sL ?_|(refine sS ?_;clear H;intros;rename_i H)|(go_at_call 172;with_reducible refine same (HPA.out _ (H.get pk) (H.get pk)) ?_));obtain ⟨mv,hmv⟩:∃ v:Value,v=.slice (some ⟨gi,0,none⟩) (ni+1) ci:=⟨_,rfl⟩
 obtain ⟨rs,hrs⟩:∃ v:List ItR,v=ts++[r]:=⟨_,rfl⟩
 rw [← hmv,← hrs] at HS H;clear hmv hrs HR2;clear HPA;exact We
end
end Go.Proofs.YtgnppnokkdghcaaGreatDoor
