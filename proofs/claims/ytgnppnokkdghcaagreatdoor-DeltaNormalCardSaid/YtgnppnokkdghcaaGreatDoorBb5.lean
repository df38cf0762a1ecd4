/-
  Part 5 of the texts behind the statements of this seat: walks and laws Cr. Conditions: as each states.
-/
import Derived.Test.YtgnppnokkdghcaaGreatDoorBb4
set_option linter.unusedSimpArgs false
set_option linter.unusedVariables false
set_option maxRecDepth 100000
set_option maxHeartbeats 80000000
namespace Go.Proofs.YtgnppnokkdghcaaGreatDoor
section
open Go.RowKit Go.Maps
attribute [local go_sem] InGr
theorem tieI_len {i:It} (h:TieI i):1≤i.exp.length:=by
 obtain ⟨h1,h2⟩:=h
 rcases h2 with ⟨h3,h4⟩|⟨y,h3,_⟩
 ·simp [It.exp,h3,h4]
 ·simp [It.exp,h3];omega
theorem tie_len:∀ {M:List It},Tie M→M.length≤(expI M).length
 |[],_=>by simp
 |i::M,h=>by
  have h1:=tieI_len (h i (by simp))
  have h2:=tie_len (M:=M) fun j hj=>h j (by simp [hj])
  rw [expI_cons]
  simp
  omega
theorem strStep_snoc (lv:Nat) (p:List (Tr×Nat)) (x:Tr) (M:List It):∃ i,(strStep lv p x M).2=M++[i]:=by
 unfold strStep
 split
 ·split
  ·split
   ·exact ⟨_,rfl⟩
   ·exact ⟨_,rfl⟩
  ·exact ⟨_,rfl⟩
 ·exact ⟨_,rfl⟩
structure StrPl (b:Tr) (lv ky T:Nat) (e0:EndP) (M0:List It) (e1:EndP) (M1:List It):Prop where
 strs:Strs lv ky e0 M0 e1 M1
 z:EndZ b e1
 tie:Tie M1
 le:(expI M1).length≤T
 next:∀ p y,e1=(p,some y)→y.key=ky→EndZ b (strStep lv p y M1).1∧Tie (strStep lv p y M1).2∧(expI (strStep lv p y M1).2).length≤T∧(expI M1).length<(expI (strStep lv p y M1).2).length
theorem StrPl.of {b:Tr} {m lv ky T:Nat} {e0 e1:EndP} {M0 M1:List It} {R0:List Tr} (hlv:lv=m+1) (ho:m%2=1) (htie:isTie lv=true) (hc:Canon b) (hd:EndR b m e0 R0) (hM0:Tie M0) (hT:(expI M0).length+R0.length=T) (h:Strs lv ky e0 M0 e1 M1):StrPl b lv ky T e0 M0 e1 M1:=by
 subst hlv
 obtain ⟨R,Y,h1,h2,h3,h4,_⟩:=strs_inv ho htie hc hd hM0 h
 refine ⟨h,.ofR h1,h4,by rw [h3,← hT,h2];simp,?_⟩
 rintro p y rfl hk
 obtain ⟨R',Y',k1,k2,k3,k4,_⟩:=strs_inv ho htie hc hd hM0 (.step h hk)
 refine ⟨.ofR k1,k4,by rw [k3,← hT,k2];simp,?_⟩
 obtain ⟨i,hi⟩:=strStep_snoc (m+1) p y M1
 rw [hi] at k4 ⊢
 have:=tieI_len (k4 i (by simp))
 rw [expI_snoc]
 simp
 omega
def StrRel (X:Px) (b:Nat) (N:List Nat) (w:World) (lv ky T:Nat) (pl:Value) (fl:List Fr) (il kl:Nat) (d:EndP) (e0:EndP) (M0:List It) (n:Nat) (wr:World):Prop :=
 ∃ (X1:Px) (cs1:Array Value) (pr1:Value) (fr1:List Fr) (ir1 kr1:Nat) (mv1:Value) (rs1:List ItR) (e1:EndP) (M1:List It),n=T-(expI M1).length∧(Strs lv ky e0 M0 e1 M1∧X.Ext X1∧PxOk X1∧X1.S=X.S∧SpIn X1 cs1 pl fl il kl pr1 fr1 ir1 kr1 mv1 rs1 d e1 M1)∧St w N [pA X1,blk b (.cells cs1 250),rowsA encFr 265 8 pl fl,rowsA encFr 265 8 pr1 fr1,rowsA encIt 254 4 mv1 rs1] wr
theorem gStrLoop {P:Prop} (h:P:=by
 go_loopg [7] (T-(expI M).length) (fun n v7 wr=>StrRel X b N w lv kr T pl fl il kl d (p,some x) M n wr)
 case atStart=>exact ⟨X,cs,pr,fr,ir,kr,mv,rs,(p,some x),M,rfl,⟨.zero,.refl _,HX.out,rfl,HS.out⟩,H.picks (.cons (A:=pA X) pk (.cons (A:=blk b (.cells cs 250)) pk (.cons (A:=rowsA encFr 265 8 pl fl) pk (.cons (A:=rowsA encFr 265 8 pr fr) pk (.cons (A:=rowsA encIt 254 4 mv rs) pk .nil)))))⟩
 case round =>
  clear H
  obtain ⟨X1,cs1,pr1,fr1,ir1,kr1,mv1,rs1,e1,M1,rfl,hrel,H⟩:=hrel
  have HREL:=Lib.hid hrel
  have hin:=hrel.2.2.2.2
  have C11:=Lib.hid hin.c11
  have CI:=Lib.hid hin.c9
  have CK:=Lib.hid hin.c10
  have HSZ:Hid (cs1.size=12):=Lib.hid hin.sz
  have hpl:=HPL.out e1 M1 hrel.1
  have HLN:Hid (rs1.length≤2097152):=Lib.hid (by have h1:=hin.its.len;have h2:=tie_len hpl.tie;have h3:=hpl.le;have h4:=HT.out.1;omega)
  obtain ⟨p1,sy⟩:=e1
  cases sy with
  |none =>
   have hi0:ir1=0:=hin.right.symOf.1
   subst hi0
   clear hin hpl hrel
   go_wp2_with (first|refine sL ?_|(refine sS ?_;clear H;intros;rename_i H))
   refine nR ?_
   exact ⟨(p1,none),M1,.go rfl HE0.out (by have:=HREL.out.1;rw [HKR.out] at this;exact this) (fun y h=>by cases h),X1,cs1,pl,fl,il,kl,pr1,fr1,0,kr1,mv1,rs1,rfl,HREL.out.2.1,HREL.out.2.2.1,HREL.out.2.2.2.1,HREL.out.2.2.2.2,H.picks (.cons (A:=pA X1) pk (.cons (A:=blk b (.cells cs1 250)) pk (.cons (A:=rowsA encFr 265 8 pl fl) pk (.cons (A:=rowsA encFr 265 8 pr1 fr1) pk (.cons (A:=rowsA encIt 254 4 mv1 rs1) pk .nil)))))⟩
  |some y =>
   have hy:Den X1.S ir1 y∧kr1=y.key:=hin.right.symOf
   have hi1:=hy.1.1
   have d0:((ir1:Int)==0)=false:=by simp;omega
   have d0n:((ir1:Int) != 0)=true:=by simp;omega
   by_cases hk:kr1=kr
   case neg =>
    have d1:((kr1:Int)==(kr:Int))=false:=by simp;omega
    have HNE:Hid (y.key≠x.key):=Lib.hid (by rw [← hy.2,← HKR.out];exact hk)
    clear hin hpl hrel hy hi1 hk
    go_wp2_with (first|refine sL ?_|(refine sS ?_;clear H;intros;rename_i H))
    refine nR ?_
    exact ⟨(p1,some y),M1,.go rfl HE0.out (by have:=HREL.out.1;rw [HKR.out] at this;exact this) (fun y2 h=>by injection h with h;rw [← h];exact HNE.out),X1,cs1,pl,fl,il,kl,pr1,fr1,ir1,kr1,mv1,rs1,rfl,HREL.out.2.1,HREL.out.2.2.1,HREL.out.2.2.2.1,HREL.out.2.2.2.2,H.picks (.cons (A:=pA X1) pk (.cons (A:=blk b (.cells cs1 250)) pk (.cons (A:=rowsA encFr 265 8 pl fl) pk (.cons (A:=rowsA encFr 265 8 pr1 fr1) pk (.cons (A:=rowsA encIt 254 4 mv1 rs1) pk .nil)))))⟩
   have d1:((kr1:Int)==(kr:Int))=true:=by simp [hk]
   have HKY:Hid (y.key=x.key):=Lib.hid (by rw [← hy.2,hk,HKR.out])
   have HKE:Hid (kr=y.key):=Lib.hid (by rw [← hk,hy.2])
   have hzz:Zip b' p1 y:=hpl.z
   have HZ1:Hid (EndZ b' (p1,some y)):=Lib.hid hpl.z
   have hnx:=hpl.next p1 y rfl (by rw [HKY.out,← HKR.out])
   have HNX:=Lib.hid (And.intro hnx.2.2.2 hnx.2.2.1)
   clear hnx
   have HITS:Hid (ItsOf X1.S (M1++[⟨y,none,1⟩]) (rs1++[⟨ir1,0,kr,1⟩])):=Lib.hid (hin.its.snoc ⟨hy.1,HKE.out,rfl,rfl⟩)
   have HNT:Hid ((∀ q p',p1=q::p'→1≤hvT true q)∧(1:Nat)<9223372036854775808):=Lib.hid ⟨fun q p' e=>by
    have:=hzz.lt q (by rw [e];simp)
    simp only [hvT]
    split <;> omega,by omega⟩
   cases ht:topAt lv p1
   case' none =>
    have hpa:=fun w h1 h2=>parentN (b:=b) (ty:=250) (lv:=lv) hin.right hpl.z HGB.out.1 HGB.out.2 ht w h1 h2
    have HPA:=Lib.hid hpa
    have hst:strStep lv p1 y M1=(dropT true m 1 p1,M1++[⟨y,none,1⟩]):=by unfold strStep;simp only [ht,HM.out.2.2]
    have HST:=Lib.hid hst
    clear hin hpl hrel hy hi1 hk hzz ht hpa hst
    go_wp2_with (first|refine sL ?_|(refine sS ?_;clear H;intros;rename_i H)|(go_at_call 172;with_reducible refine same (HPA.out _ (H.get (A:=blk b (.cells cs1 250)) pk) (H.get (A:=rowsA encFr 265 8 pr1 fr1) pk)) ?_))
   case' some q =>
    obtain ⟨g,n,c,fs1,f,p2,e1,e2,hn1,hn20,e3,hfr,hpp,hfl,hfx,hpa⟩:=parentS (b:=b) (ty:=250) (lv:=lv) hin.right hpl.z HGB.out.1 HGB.out.2 ht (H.get (A:=rowsA encFr 265 8 pr1 fr1) pk)
    simp only at e3
    subst e1 e2
    have HPA:=Lib.hid hpa
    have HC7:Hid (∀ w,(rowsA encFr 265 8 (.slice (some ⟨g,0,none⟩) (n+1) c) (fs1++[f])).ho w→w.cell? ⟨g,n*8+7,none⟩=some (.int .i64 f.hv)):=Lib.hid fun w h=>fr_cell h hfx rfl
    have HC3:Hid (∀ w,(rowsA encFr 265 8 (.slice (some ⟨g,0,none⟩) (n+1) c) (fs1++[f])).ho w→w.cell? ⟨g,n*8+3,none⟩=some (.int .i64 f.r.left)):=Lib.hid fun w h=>fr_cell h hfx rfl
    have HC4:Hid (∀ w,(rowsA encFr 265 8 (.slice (some ⟨g,0,none⟩) (n+1) c) (fs1++[f])).ho w→w.cell? ⟨g,n*8+4,none⟩=some (.int .i64 f.r.right)):=Lib.hid fun w h=>fr_cell h hfx rfl
    have hfb:f.hv≤1152921504606846976:=hfr.hv_le hrel.2.2.1.ok
    obtain ⟨u,v,hq1,hdu,hdv⟩:=hfr.two hrel.2.2.1.ok (by rw [hfl];exact HT.out.2)
    have hlt:=hfr.lt
    rw [hq1] at hlt
    simp only [kids,List.length_cons,List.length_nil] at hlt
    have hhv:f.hv=2-q.2:=by rw [hfr.hvT,hvT,hq1];simp [kids]
    clear hpa
    by_cases hv:f.hv<2
    case neg =>
     have hv2:f.hv=2:=by omega
     have hq2:q.2=0:=by omega
     have hyu:u=y:=by
      have h1:=hzz
      rw [e3] at h1
      have h2:=h1.tail.2
      rw [hq1,hq2] at h2
      simpa [kids] using h2
     subst hyu
     rw [hv2] at HC7
     have HDN:Hid (Den X1.S f.r.left u∧Den X1.S f.r.right v):=Lib.hid ⟨hdu,hdv⟩
     have HUQ:Hid (upT true lv (p1,some u)=(p2,some q.1)):=Lib.hid (by
      rw [e3,upT_eq hfr.lt,if_pos ⟨hfr.lv.trans hfl,by rw [← hfr.hvT,hv2,hq1];rfl⟩])
     have HZQ:Hid (EndZ b' (p2,some q.1)):=Lib.hid (by
      have h1:=hzz
      rw [e3] at h1
      exact h1.tail.1)
     have HSQ:Hid ((topAt lu p2=none→strStep lv p1 u M1=(dropT true m 1 p2,M1++[⟨u,some v,1⟩]))∧(∀ q2,topAt lu p2=some q2→strStep lv p1 u M1=(dropT true m (hvT true q2) p2,M1++[⟨u,some v,hvT true q2⟩]))):=Lib.hid (by
      have h1:hvT true q=2:=by rw [← hfr.hvT,hv2]
      have h2:sndT q.1=some v:=by rw [hq1];rfl
      have h3:p1.tail=p2:=by rw [e3];rfl
      refine ⟨fun h=>?_,fun q2 h=>?_⟩
      ·unfold strStep
       simp only [ht,h1,if_true,h3,← HM.out.2.2.2,h,h2,HM.out.2.2.1]
      ·unfold strStep
       simp only [ht,h1,if_true,h3,← HM.out.2.2.2,h,h2,HM.out.2.2.1])
     clear hin hpl hrel hy hi1 hk hzz ht e3 hn1 hfr hpp hfl hfx hq1 hdu hdv hlt hhv hv hv2 hq2 hfb HITS HNT
     go_wp2_with (first|refine sL ?_|(refine sS ?_;clear H;intros;rename_i H)|(go_at_call 172;with_reducible refine same (HPA.out _ (H.get (A:=blk b (.cells cs1 250)) pk) (H.get (A:=rowsA encFr 265 8 (.slice (some ⟨g,0,none⟩) (n+1) c) (fs1++[f])) pk)) ?_))
     clear HPA
     replace H:St w N [pA X1,blk b (.cells cs1 250),rowsA encFr 265 8 pl fl,rowsA encFr 265 8 (.slice (some ⟨g,0,none⟩) (n+1) c) (fs1++[f]),rowsA encIt 254 4 mv1 rs1] _:=H.picks (.cons pk (.cons pk (.cons pk (.cons pk (.cons pk .nil)))))
     refine wp_region_sgx 14 [⟨[],fun v _=>v=.pointer (some ⟨g,n*8,none⟩)⟩,⟨[0],fun v _=>v=.pointer (some ⟨g,n*8,none⟩)⟩,⟨[1],fun v _=>v=.pointer (some ⟨g,n*8+1,none⟩)⟩,⟨[2],fun v _=>v=.pointer (some ⟨g,n*8+3,none⟩)⟩,⟨[3],fun v _=>v=.int .i64 f.r.left⟩,⟨[],fun v _=>v=.pointer (some ⟨g,n*8,none⟩)⟩,⟨[5],fun v _=>v=.pointer (some ⟨g,n*8,none⟩)⟩,⟨[6],fun v _=>v=.pointer (some ⟨g,n*8+1,none⟩)⟩,⟨[7],fun v _=>v=.pointer (some ⟨g,n*8+4,none⟩)⟩,⟨[8],fun v _=>v=.int .i64 f.r.right⟩,⟨[],fun v _=>v=.int .u64 kr⟩,⟨[4,9,10],fun v _=>v=.agg #[.int .i64 f.r.left,.int .i64 f.r.right,.int .u64 kr,.int .i64 1]⟩,⟨[],fun v _=>∃ b8:Nat,v=.pointer (some ⟨b8,0,none⟩)⟩,⟨[11,12],fun _ _=>True⟩] [12,13] [[0,1],[0,1],[0,1],[0,1],[0,1],[0,1],[0,1],[0,1],[0,1],[0,1],[0,1],[0,1],[0],[1]] [fun _ wx=>St w N [pA X1,blk b (.cells cs1 250),rowsA encFr 265 8 pl fl,rowsA encFr 265 8 (.slice (some ⟨g,0,none⟩) (n+1) c) (fs1++[f]),rowsA encIt 254 4 mv1 rs1] wx,fun vals wx=>∃ b8:Nat,vals 12=.pointer (some ⟨b8,0,none⟩)∧St w N [blk b8 (.cells #[.int .i64 0,.int .i64 0,.int .u64 0,.int .i64 0] 254),pA X1,blk b (.cells cs1 250),rowsA encFr 265 8 pl fl,rowsA encFr 265 8 (.slice (some ⟨g,0,none⟩) (n+1) c) (fs1++[f]),rowsA encIt 254 4 mv1 rs1] wx,fun vals wx=>∃ b8:Nat,vals 12=.pointer (some ⟨b8,0,none⟩)∧St w N [blk b8 (.cells #[.int .i64 f.r.left,.int .i64 f.r.right,.int .u64 kr,.int .i64 1] 254),pA X1,blk b (.cells cs1 250),rowsA encFr 265 8 pl fl,rowsA encFr 265 8 (.slice (some ⟨g,0,none⟩) (n+1) c) (fs1++[f]),rowsA encIt 254 4 mv1 rs1] wx]
      [[],[(0,106)],[(1,107)],[(2,108)],[(3,109)],[],[(5,111)],[(6,112)],[(7,113)],[(8,114)],[],[(4,110),(9,115),(10,116)],[],[(11,117),(12,8)]] [(0,106),(1,107),(2,108),(3,109),(4,110),(5,111),(6,112),(7,113),(8,114),(9,115),(10,116),(11,117),(12,8)] (by kernel_rfl) (by kernel_rfl) H.drew ⟨⟨qo,qo,trivial⟩,⟨qo,qo,trivial⟩,⟨qo,qo,trivial⟩,⟨qo,qo,trivial⟩,⟨ql,ql,trivial⟩,⟨qo,qo,trivial⟩,⟨qo,qo,trivial⟩,⟨qo,qo,trivial⟩,⟨qo,qo,trivial⟩,⟨ql,ql,trivial⟩,⟨qo,qo,trivial⟩,⟨qo,qo,trivial⟩,⟨?_,trivial⟩,⟨?_,trivial⟩,trivial⟩ ?_
     ·intro vals wx hd HC
      clear hd
      have H:=HC
      simp only [CA] at H
      simp only [PS]
      refine StStep.allocT H rfl rfl rfl rfl ?_
      intro b8 wz H
      exact ⟨⟨b8,rfl⟩,b8,rfl,H.picks (.cons pk (.cons pk (.cons pk (.cons pk (.cons pk (.cons pk .nil))))))⟩
     ·intro vals wx hd HC
      simp only [GF] at hd
      have H:=HC
      simp only [CA] at H
      obtain ⟨b8,hv,H⟩:=H
      simp only [PS,hd,hv]
      refine StStep.storeT rfl rfl rfl rfl rfl rfl H rfl ?_
      intro wz H
      exact ⟨trivial,b8,hv,H⟩
     intro vals wx hd HC
     have h12:=hd.2.2.2.2.2.2.2.2.2.2.2.2.1
     simp only [CA] at HC
     obtain ⟨b8,hv,H⟩:=HC
     simp only [GF] at hd
     simp only [PS,hd]
     clear hd
     have hup:=fun w h=>up_c (m:=lv) (b:=b) (ty:=250) HREL.out.2.2.1 HREL.out.2.2.2.2.right HZ1.out HGB.out.1 HGB.out.2 HM.out.2.1 w h
     rw [HUQ.out] at hup
     have HUP:=Lib.hid hup
     clear hup
     go_wp2_with (first|refine sL ?_|(refine sS ?_;clear H;intros;rename_i H)|(go_at_call 152;with_reducible refine Calls.mono (HUP.out _ ((St.join3 (H.pick3 (A:=pA X1) (B:=blk b (.cells cs1 250)) (C:=rowsA encFr 265 8 (.slice (some ⟨g,0,none⟩) (n+1) c) (fs1++[f])) pk pk pk)).sepK HK pk pk)) ?_;rintro e wc ⟨X2,cs2,pr2,fr2,ir2,kr2,rfl,y1,y2,y3,y4,y5,hb⟩;have HY2:=Lib.hid (And.intro y1 (And.intro y2 (And.intro y3 (And.intro y4 y5))));clear y1 y2 y3 y4 y5;replace H:=(St.join3 (H.pick3 (A:=pA X1) (B:=blk b (.cells cs1 250)) (C:=rowsA encFr 265 8 (.slice (some ⟨g,0,none⟩) (n+1) c) (fs1++[f])) pk pk pk)).call hb;clear hb;simp only [List.cons_append,List.nil_append] at H))
     have hs2:=HREL.out.2.2.2.2.afterR HREL.out.2.2.1.ok HY2.out.1 HY2.out.2.2.2.1 HY2.out.2.2.2.2
     have HS2:=Lib.hid hs2
     have HZ2:Hid (EndZ b' (p2,some q.1)):=Lib.hid HZQ.out
     have HSZ:Hid (cs2.size=12):=Lib.hid hs2.sz
     have C11b:Hid (cs2[11]?=some mv1):=Lib.hid hs2.c11
     have HITQ:Hid (∀ tn,ItsOf X2.S (M1++[⟨u,some v,tn⟩]) (rs1++[(⟨f.r.left,f.r.right,kr,tn⟩:ItR)])):=Lib.hid fun tn=>hs2.its.snoc ⟨by rw [HY2.out.2.2.1];exact HDN.out.1,HKE.out,rfl,by rw [HY2.out.2.2.1];exact HDN.out.2⟩
     cases ht2:topAt lu p2
     case' none =>
      have hpu:=fun w h1 h2=>parentN (b:=b) (ty:=250) (lv:=lu) hs2.right HZ2.out HGB.out.1 HGB.out.2 ht2 w h1 h2
      have HPU:=Lib.hid hpu
      clear hpu
      have hst:strStep lv p1 u M1=(dropT true m 1 p2,M1++[⟨u,some v,1⟩]):=HSQ.out.1 ht2
      have HST:=Lib.hid hst
      have HNT:Hid ((∀ q' p',p2=q'::p'→1≤hvT true q')∧(1:Nat)<9223372036854775808):=Lib.hid ⟨fun q' p' e=>by
       have:=(show Zip b' p2 q.1 from HZ2.out).lt q' (by rw [e];simp)
       simp only [hvT]
       split <;> omega,by omega⟩
      clear hst hs2 ht2
      go_wp2_with (first|refine sL ?_|(refine sS ?_;clear H;intros;rename_i H)|(go_at_call 172;with_reducible refine same (HPU.out _ (H.get (A:=blk b (.cells cs2 250)) pk) (H.get (A:=rowsA encFr 265 8 pr2 fr2) pk)) ?_))
     case' some q2 =>
      obtain ⟨g2,n2,c2,fs2,f2,p3,e1,e2,hn2,hn22,e3,hfr2,hpp2,hfl2,hfx2,hpu⟩:=parentS (b:=b) (ty:=250) (lv:=lu) hs2.right HZ2.out HGB.out.1 HGB.out.2 ht2 (H.get (A:=rowsA encFr 265 8 pr2 fr2) pk)
      simp only at e3
      subst e1 e2
      have HPU:=Lib.hid hpu
      have HD7:Hid (∀ w,(rowsA encFr 265 8 (.slice (some ⟨g2,0,none⟩) (n2+1) c2) (fs2++[f2])).ho w→w.cell? ⟨g2,n2*8+7,none⟩=some (.int .i64 f2.hv)):=Lib.hid fun w h=>fr_cell h hfx2 rfl
      have hst:strStep lv p1 u M1=(dropT true m f2.hv p2,M1++[⟨u,some v,f2.hv⟩]):=by rw [hfr2.hvT];exact HSQ.out.2 _ ht2
      have HST:=Lib.hid hst
      have hf2b:f2.hv≤1152921504606846976:=hfr2.hv_le HY2.out.2.1.ok
      have HNT:Hid ((∀ q' p',p2=q'::p'→f2.hv≤hvT true q')∧f2.hv<9223372036854775808):=Lib.hid ⟨fun q' p' e=>by
       rw [e3] at e
       injection e with e4 e5
       rw [← e4,hfr2.hvT]
       exact Nat.le_refl _,by omega⟩
      clear hpu hst hs2 ht2 e3 hn2 hfr2 hpp2 hfl2 hfx2
      go_wp2_with (first|refine sL ?_|(refine sS ?_;clear H;intros;rename_i H)|(go_at_call 172;with_reducible refine same (HPU.out _ (H.get (A:=blk b (.cells cs2 250)) pk) (H.get (A:=rowsA encFr 265 8 (.slice (some ⟨g2,0,none⟩) (n2+1) c2) (fs2++[f2])) pk)) ?_))
     all_goals
      obtain ⟨tn,pr2,fr2,hq,H⟩:∃ (tn:Nat) (pr5:Value) (fr5:List Fr),(strStep lv p1 u M1=(dropT true m tn p2,M1++[⟨u,some v,tn⟩])∧(∀ q' p',p2=q'::p'→tn≤hvT true q')∧tn<9223372036854775808∧SpIn X2 cs2 pl fl il kl pr5 fr5 ir2 kr2 mv1 rs1 d (p2,some q.1) M1)∧St w N [pA X2,blk b (.cells cs2 250),rowsA encFr 265 8 pl fl,rowsA encFr 265 8 pr5 fr5,rowsA encIt 254 4 mv1 rs1,blk b8 (.cells #[.int .i64 f.r.left,.int .i64 f.r.right,.int .u64 kr,.int .i64 tn] 254)] _:=⟨_,_,_,⟨HST.out,HNT.out.1,HNT.out.2,HS2.out⟩,H.picks (.cons pk (.cons pk (.cons pk (.cons pk (.cons pk (.cons pk .nil))))))⟩
      have HQ:=Lib.hid hq
      clear hq HPU HST HNT HS2
      replace H:St w N [rowsA encIt 254 4 mv1 rs1,pA X2,blk b (.cells cs2 250),rowsA encFr 265 8 pl fl,rowsA encFr 265 8 pr2 fr2,blk b8 (.cells #[.int .i64 f.r.left,.int .i64 f.r.right,.int .u64 kr,.int .i64 tn] 254)] _:=H.picks (.cons pk (.cons pk (.cons pk (.cons pk (.cons pk (.cons pk .nil))))))
      refine wp_region_sgx 11 [⟨[],fun v _=>v=.pointer (some ⟨b,0,none⟩)⟩,⟨[],fun v _=>v=.pointer (some ⟨b,0,none⟩)⟩,⟨[1],fun v _=>v=.pointer (some ⟨b,0,none⟩)⟩,⟨[2],fun v _=>v=.pointer (some ⟨b,11,none⟩)⟩,⟨[3],fun v _=>v=mv1⟩,⟨[],fun v _=>v=.agg #[.int .i64 f.r.left,.int .i64 f.r.right,.int .u64 kr,.int .i64 tn]⟩,⟨[5],fun v _=>∃ bn:Nat,v=.slice (some ⟨bn,0,none⟩) 1 1⟩,⟨[4,6],fun _ _=>True⟩,⟨[0],fun v _=>v=.pointer (some ⟨b,0,none⟩)⟩,⟨[8],fun v _=>v=.pointer (some ⟨b,11,none⟩)⟩,⟨[7,9],fun _ _=>True⟩] [6,7,10] [[0,1,2],[0,1],[0,1],[0,1],[0,1],[0],[0],[1],[2],[2],[2]] [fun _ wx=>St w N [rowsA encIt 254 4 mv1 rs1,pA X2,blk b (.cells cs2 250),rowsA encFr 265 8 pl fl,rowsA encFr 265 8 pr2 fr2,blk b8 (.cells #[.int .i64 f.r.left,.int .i64 f.r.right,.int .u64 kr,.int .i64 tn] 254)] wx,fun vals wx=>∃ bn:Nat,vals 6=.slice (some ⟨bn,0,none⟩) 1 1∧St w N [rowsA encIt 254 4 mv1 rs1,rowsA encIt 254 4 (.slice (some ⟨bn,0,none⟩) 1 1) [(⟨f.r.left,f.r.right,kr,tn⟩:ItR)],pA X2,blk b (.cells cs2 250),rowsA encFr 265 8 pl fl,rowsA encFr 265 8 pr2 fr2,blk b8 (.cells #[.int .i64 f.r.left,.int .i64 f.r.right,.int .u64 kr,.int .i64 tn] 254)] wx,fun vals wx=>∃ (ad9:Option Addr) (cp9:Nat),vals 7=.slice ad9 (rs1.length+1) cp9∧St w N [blk b (.cells cs2 250),pA X2,rowsA encFr 265 8 pl fl,rowsA encFr 265 8 pr2 fr2,blk b8 (.cells #[.int .i64 f.r.left,.int .i64 f.r.right,.int .u64 kr,.int .i64 tn] 254),rowsA encIt 254 4 (.slice ad9 (rs1.length+1) cp9) (rs1++[(⟨f.r.left,f.r.right,kr,tn⟩:ItR)])] wx,fun vals wx=>∃ (ad9:Option Addr) (cp9:Nat),St w N [blk b (.cells (cs2.setIfInBounds 11 (.slice ad9 (rs1.length+1) cp9)) 250),pA X2,rowsA encFr 265 8 pl fl,rowsA encFr 265 8 pr2 fr2,blk b8 (.cells #[.int .i64 f.r.left,.int .i64 f.r.right,.int .u64 kr,.int .i64 tn] 254),rowsA encIt 254 4 (.slice ad9 (rs1.length+1) cp9) (rs1++[(⟨f.r.left,f.r.right,kr,tn⟩:ItR)])] wx]
       [[],[],[(1,137)],[(2,138)],[(3,139)],[],[(5,141)],[(4,140),(6,142)],[(0,136)],[(8,144)],[(7,143),(9,145)]] [(0,136),(1,137),(2,138),(3,139),(4,140),(5,141),(6,142),(7,143),(8,144),(9,145)] (by kernel_rfl) (by kernel_rfl) H.drew ⟨⟨qo,qo,qo,trivial⟩,⟨qo,qo,trivial⟩,⟨qo,qo,trivial⟩,⟨qo,qo,trivial⟩,⟨ql,ql,trivial⟩,⟨ql,trivial⟩,⟨?_,trivial⟩,⟨?_,trivial⟩,⟨qo,trivial⟩,⟨qo,trivial⟩,⟨?_,trivial⟩,trivial⟩ ?_
      ·intro vals wx hd HC
       simp only [GF] at hd
       have H:=HC
       simp only [CA] at H
       simp only [PS,hd]
       clear HC
       refine StStep.slice1 (enc:=encIt) H rfl rfl rfl rfl rfl rfl rfl rfl rfl (⟨f.r.left,f.r.right,kr,tn⟩:ItR) rfl encIt_len ?_
       intro bn wz H
       exact ⟨⟨bn,rfl⟩,bn,rfl,H.picks (.cons pk (.cons pk (.cons pk (.cons pk (.cons pk (.cons pk (.cons pk .nil)))))))⟩
      ·intro vals wx hd HC
       simp only [GF] at hd
       have H:=HC
       simp only [CA] at H
       obtain ⟨bn,hv,H⟩:=H
       simp only [PS,hd,hv]
       refine StStep.append (enc:=encIt) rfl rfl rfl rfl rfl (by decide) (by decide) rfl rfl H (H.get (A:=rowsA encIt 254 4 (.slice (some ⟨bn,0,none⟩) 1 1) [(⟨f.r.left,f.r.right,kr,tn⟩:ItR)]) pk) encIt_len encIt_one (by have:=HLN.out;simp;omega) ?_
       intro v' wz H
       obtain ⟨ad9,cp9,e9,_⟩:=rowsA_shape (H.get (A:=rowsA encIt 254 4 v' (rs1++[(⟨f.r.left,f.r.right,kr,tn⟩:ItR)])) pk)
       simp only [List.length_append,List.length_cons,List.length_nil,Nat.zero_add] at e9
       subst e9
       exact ⟨trivial,ad9,cp9,rfl,H.picks (.cons pk (.cons pk (.cons pk (.cons pk (.cons pk (.cons pk .nil))))))⟩
      ·intro vals wx hd HC
       simp only [GF] at hd
       have H:=HC
       simp only [CA] at H
       obtain ⟨ad9,cp9,hv,H⟩:=H
       simp only [PS,hd,hv]
       refine StStep.storeC rfl rfl rfl rfl rfl rfl H (by have:=HSZ.out;omega) ?_
       intro wz H
       exact ⟨trivial,ad9,cp9,H⟩
      intro vals wx hd HC
      have h6:=hd.2.2.2.2.2.2.1
      simp only [CA] at HC
      obtain ⟨ad9,cp9,H⟩:=HC
      simp only [GF] at hd
      simp only [PS,hd]
      clear hd
      obtain ⟨cs3,hcs3⟩:∃ c,cs2.setIfInBounds 11 (.slice ad9 (rs1.length+1) cp9)=c:=⟨_,rfl⟩
      have hs3:=HQ.out.2.2.2.setM (mv':=.slice ad9 (rs1.length+1) cp9) (rs':=rs1++[(⟨f.r.left,f.r.right,kr,tn⟩:ItR)]) (M':=M1++[⟨u,some v,tn⟩]) (HITQ.out tn)
      simp only [hcs3] at H hs3
      have HS3:=Lib.hid hs3
      have HDR:Hid (∀ w,(((pA X2).sep ((blk b (.cells cs3 250)).sep (rowsA encFr 265 8 pr2 fr2))).sep deA).ho w→Calls Tryz.prog 180 #[.pointer (some ⟨b,6,none⟩),.int .i64 (tn:Nat),.int .i64 m] w (EndPost X2 true b 6 250 cs3 (dropT true m tn p2) ((pA X2).sep ((blk b (.cells cs3 250)).sep (rowsA encFr 265 8 pr2 fr2))).fp w (.tuple #[]))):=Lib.hid fun w h=>drop_c HY2.out.2.1 hs3.right HZ2.out HGB.out.1 HGB.out.2 HM.out.1 HQ.out.2.1 HQ.out.2.2.1 w h
      clear hs3 hcs3
      go_wp2_with (first|refine sL ?_|(refine sS ?_;clear H;intros;rename_i H)|fail)
      replace H:St w N [pA X2,blk b (.cells cs3 250),rowsA encFr 265 8 pr2 fr2,rowsA encFr 265 8 pl fl,rowsA encIt 254 4 (.slice ad9 (rs1.length+1) cp9) (rs1++[(⟨f.r.left,f.r.right,kr,tn⟩:ItR)]),blk b8 (.cells #[.int .i64 f.r.left,.int .i64 f.r.right,.int .u64 kr,.int .i64 tn] 254)] _:=H.picks (.cons pk (.cons pk (.cons pk (.cons pk (.cons pk (.cons pk .nil))))))
      refine wp_region_sgx 8 [⟨[],fun v _=>v=.pointer (some ⟨b,0,none⟩)⟩,⟨[0],fun v _=>v=.pointer (some ⟨b,0,none⟩)⟩,⟨[1],fun v _=>v=.pointer (some ⟨b,6,none⟩)⟩,⟨[],fun v _=>v=.pointer (some ⟨b8,3,none⟩)⟩,⟨[3],fun v _=>v=.int .i64 tn⟩,⟨[],fun v _=>v=.int .i64 lv⟩,⟨[5],fun v _=>v=.int .i64 m⟩,⟨[2,4,6],fun _ _=>True⟩] [7] [[0],[0],[0],[0],[0],[0],[0],[0]] [fun _ wx=>St w N [pA X2,blk b (.cells cs3 250),rowsA encFr 265 8 pr2 fr2,rowsA encFr 265 8 pl fl,rowsA encIt 254 4 (.slice ad9 (rs1.length+1) cp9) (rs1++[(⟨f.r.left,f.r.right,kr,tn⟩:ItR)]),blk b8 (.cells #[.int .i64 f.r.left,.int .i64 f.r.right,.int .u64 kr,.int .i64 tn] 254)] wx,fun _ wx=>∃ (X4:Px) (cs4:Array Value) (pr4:Value) (fr4:List Fr) (ir4 kr4:Nat),(X2.Ext X4∧PxOk X4∧X4.S=X2.S∧EndIn X4 true cs4 6 pr4 fr4 ir4 kr4 (dropT true m tn p2)∧AlikeBut cs3 cs4 6)∧St w N [pA X4,blk b (.cells cs4 250),rowsA encFr 265 8 pr4 fr4,rowsA encFr 265 8 pl fl,rowsA encIt 254 4 (.slice ad9 (rs1.length+1) cp9) (rs1++[(⟨f.r.left,f.r.right,kr,tn⟩:ItR)]),blk b8 (.cells #[.int .i64 f.r.left,.int .i64 f.r.right,.int .u64 kr,.int .i64 tn] 254)] wx]
       [[],[(0,146)],[(1,147)],[],[(3,149)],[],[(5,151)],[(2,148),(4,150),(6,152)]] [(0,146),(1,147),(2,148),(3,149),(4,150),(5,151),(6,152),(7,153)] (by kernel_rfl) (by kernel_rfl) H.drew ⟨⟨qo,trivial⟩,⟨qo,trivial⟩,⟨qo,trivial⟩,⟨qo,trivial⟩,⟨ql,trivial⟩,⟨qo,trivial⟩,⟨qo,trivial⟩,⟨?_,trivial⟩,trivial⟩ ?_
      ·intro vals wx hd HC
       simp only [GF] at hd
       have H:=HC
       simp only [CA] at H
       simp only [PS,hd]
       clear HC hd
       go_simp
       with_reducible refine Calls.mono (HDR.out _ ((St.join3 (H.pick3 (A:=pA X2) (B:=blk b (.cells cs3 250)) (C:=rowsA encFr 265 8 pr2 fr2) pk pk pk)).sepK HK pk pk)) ?_
       rintro e wc ⟨X4,cs4,pr4,fr4,ir4,kr4,rfl,y1,y2,y3,y4,y5,hb⟩
       have H2:=(St.join3 (H.pick3 (A:=pA X2) (B:=blk b (.cells cs3 250)) (C:=rowsA encFr 265 8 pr2 fr2) pk pk pk)).call hb
       simp only [List.cons_append,List.nil_append] at H2
       exact ⟨_,rfl,X4,cs4,pr4,fr4,⟨y1,y2,y3,⟨ir4,kr4,y4⟩,y5⟩,H2.picks (.cons pk (.cons pk (.cons pk (.cons pk (.cons pk (.cons pk .nil))))))⟩
      intro vals wx hd HC
      simp only [CA] at HC
      obtain ⟨X4,cs4,pr4,fr4,ir4,kr4,hy4,H⟩:=HC
      simp only [GF] at hd
      simp only [PS,hd]
      clear hd
      go_wp2_with (first|refine sL ?_|(refine sS ?_;clear H;intros;rename_i H)|fail)
      go_roundg (T-(expI (strStep lv p1 u M1).2).length)
      case measure=>have:=HNX.out;omega
      case rel=>exact ⟨X4,cs4,pr4,fr4,ir4,kr4,.slice ad9 (rs1.length+1) cp9,(rs1++[(⟨f.r.left,f.r.right,kr,tn⟩:ItR)]),(strStep lv p1 u M1).1,(strStep lv p1 u M1).2,rfl,⟨.step HREL.out.1 (HKY.out.trans HKR.out.symm),HREL.out.2.1.trans (HY2.out.1.trans hy4.1),hy4.2.1,hy4.2.2.1.trans (HY2.out.2.2.1.trans HREL.out.2.2.2.1),by rw [HQ.out.1];exact HS3.out.afterR HY2.out.2.1.ok hy4.1 hy4.2.2.2.1 hy4.2.2.2.2⟩,H.picks (.cons (A:=pA X4) pk (.cons (A:=blk b (.cells cs4 250)) pk (.cons (A:=rowsA encFr 265 8 pl fl) pk (.cons (A:=rowsA encFr 265 8 pr4 fr4) pk (.cons (A:=rowsA encIt 254 4 (.slice ad9 (rs1.length+1) cp9) (rs1++[(⟨f.r.left,f.r.right,kr,tn⟩:ItR)])) pk .nil)))))⟩
    have d2:decide ((f.hv:Int)<2)=true:=by simp;omega
    have d3:decide (f.hv<2)=true:=by simp;omega
    have hst:strStep lv p1 y M1=(dropT true m 1 p1,M1++[⟨y,none,1⟩]):=by unfold strStep;simp only [ht,HM.out.2.2];rw [if_neg (by rw [← hfr.hvT];omega)]
    have HST:=Lib.hid hst
    clear hin hpl hrel hy hi1 hk hzz ht e3 hn1 hfr hpp hfl hfx hq1 hdu hdv hlt hhv hst
    go_wp2_with (first|refine sL ?_|(refine sS ?_;clear H;intros;rename_i H)|(go_at_call 172;with_reducible refine same (HPA.out _ (H.get (A:=blk b (.cells cs1 250)) pk) (H.get (A:=rowsA encFr 265 8 (.slice (some ⟨g,0,none⟩) (n+1) c) (fs1++[f])) pk)) ?_))
    obtain ⟨pr1,hpv⟩:∃ v:Value,v=.slice (some ⟨g,0,none⟩) (n+1) c:=⟨_,rfl⟩
    obtain ⟨fr1,hfs2⟩:∃ v:List Fr,v=fs1++[f]:=⟨_,rfl⟩
    rw [← hpv,← hfs2] at HREL H
    clear hpv hfs2 HPA HC7 HC3 HC4
   all_goals
    replace H:St w N [rowsA encIt 254 4 mv1 rs1,pA X1,blk b (.cells cs1 250),rowsA encFr 265 8 pl fl,rowsA encFr 265 8 pr1 fr1] _:=H.picks (.cons pk (.cons pk (.cons pk (.cons pk (.cons pk .nil)))))
    refine wp_region_sgx 17 [⟨[],fun v _=>v=.pointer (some ⟨b,0,none⟩)⟩,⟨[],fun v _=>v=.pointer (some ⟨b,0,none⟩)⟩,⟨[1],fun v _=>v=.pointer (some ⟨b,0,none⟩)⟩,⟨[2],fun v _=>v=.pointer (some ⟨b,11,none⟩)⟩,⟨[3],fun v _=>v=mv1⟩,⟨[],fun v _=>v=.pointer (some ⟨b,0,none⟩)⟩,⟨[5],fun v _=>v=.pointer (some ⟨b,0,none⟩)⟩,⟨[6],fun v _=>v=.pointer (some ⟨b,6,none⟩)⟩,⟨[7],fun v _=>v=.pointer (some ⟨b,9,none⟩)⟩,⟨[8],fun v _=>v=.int .i64 ir1⟩,⟨[],fun v _=>v=.int .u64 kr⟩,⟨[9,10],fun v _=>v=.agg #[.int .i64 ir1,.int .i64 0,.int .u64 kr,.int .i64 1]⟩,⟨[11],fun v _=>∃ bn:Nat,v=.slice (some ⟨bn,0,none⟩) 1 1⟩,⟨[4,12],fun _ _=>True⟩,⟨[0],fun v _=>v=.pointer (some ⟨b,0,none⟩)⟩,⟨[14],fun v _=>v=.pointer (some ⟨b,11,none⟩)⟩,⟨[13,15],fun _ _=>True⟩] [12,13,16] [[0,1,2],[0,1],[0,1],[0,1],[0,1],[0],[0],[0],[0],[0],[0],[0],[0],[1],[2],[2],[2]] [fun _ wx=>St w N [rowsA encIt 254 4 mv1 rs1,pA X1,blk b (.cells cs1 250),rowsA encFr 265 8 pl fl,rowsA encFr 265 8 pr1 fr1] wx,fun vals wx=>∃ bn:Nat,vals 12=.slice (some ⟨bn,0,none⟩) 1 1∧St w N [rowsA encIt 254 4 mv1 rs1,rowsA encIt 254 4 (.slice (some ⟨bn,0,none⟩) 1 1) [⟨ir1,0,kr,1⟩],pA X1,blk b (.cells cs1 250),rowsA encFr 265 8 pl fl,rowsA encFr 265 8 pr1 fr1] wx,fun vals wx=>∃ (ad9:Option Addr) (cp9:Nat),vals 13=.slice ad9 (rs1.length+1) cp9∧St w N [blk b (.cells cs1 250),pA X1,rowsA encFr 265 8 pl fl,rowsA encFr 265 8 pr1 fr1,rowsA encIt 254 4 (.slice ad9 (rs1.length+1) cp9) (rs1++[⟨ir1,0,kr,1⟩])] wx,fun vals wx=>∃ (ad9:Option Addr) (cp9:Nat),St w N [blk b (.cells (cs1.setIfInBounds 11 (.slice ad9 (rs1.length+1) cp9)) 250),pA X1,rowsA encFr 265 8 pl fl,rowsA encFr 265 8 pr1 fr1,rowsA encIt 254 4 (.slice ad9 (rs1.length+1) cp9) (rs1++[⟨ir1,0,kr,1⟩])] wx]
     [[],[],[(1,85)],[(2,86)],[(3,87)],[],[(5,89)],[(6,90)],[(7,91)],[(8,92)],[],[(9,93),(10,94)],[(11,95)],[(4,88),(12,96)],[(0,84)],[(14,98)],[(13,97),(15,99)]] [(0,84),(1,85),(2,86),(3,87),(4,88),(5,89),(6,90),(7,91),(8,92),(9,93),(10,94),(11,95),(12,96),(13,97),(14,98),(15,99)] (by kernel_rfl) (by kernel_rfl) H.drew ⟨⟨qo,qo,qo,trivial⟩,⟨qo,qo,trivial⟩,⟨qo,qo,trivial⟩,⟨qo,qo,trivial⟩,⟨ql,ql,trivial⟩,⟨qo,trivial⟩,⟨qo,trivial⟩,⟨qo,trivial⟩,⟨qo,trivial⟩,⟨ql,trivial⟩,⟨qo,trivial⟩,⟨qo,trivial⟩,⟨?_,trivial⟩,⟨?_,trivial⟩,⟨qo,trivial⟩,⟨qo,trivial⟩,⟨?_,trivial⟩,trivial⟩ ?_
    ·intro vals wx hd HC
     simp only [GF] at hd
     have H:=HC
     simp only [CA] at H
     simp only [PS,hd]
     clear HC
     refine StStep.slice1 (enc:=encIt) H rfl rfl rfl rfl rfl rfl rfl rfl rfl ⟨ir1,0,kr,1⟩ rfl encIt_len ?_
     intro bn wz H
     exact ⟨⟨bn,rfl⟩,bn,rfl,H.picks (.cons pk (.cons pk (.cons pk (.cons pk (.cons pk (.cons pk .nil))))))⟩
    ·intro vals wx hd HC
     simp only [GF] at hd
     have H:=HC
     simp only [CA] at H
     obtain ⟨bn,hv,H⟩:=H
     simp only [PS,hd,hv]
     refine StStep.append (enc:=encIt) rfl rfl rfl rfl rfl (by decide) (by decide) rfl rfl H (H.get (A:=rowsA encIt 254 4 (.slice (some ⟨bn,0,none⟩) 1 1) [⟨ir1,0,kr,1⟩]) pk) encIt_len encIt_one (by have:=HLN.out;simp;omega) ?_
     intro v' wz H
     obtain ⟨ad9,cp9,e9,_⟩:=rowsA_shape (H.get (A:=rowsA encIt 254 4 v' (rs1++[⟨ir1,0,kr,1⟩])) pk)
     simp only [List.length_append,List.length_cons,List.length_nil,Nat.zero_add] at e9
     subst e9
     exact ⟨trivial,ad9,cp9,rfl,H.picks (.cons pk (.cons pk (.cons pk (.cons pk (.cons pk .nil)))))⟩
    ·intro vals wx hd HC
     simp only [GF] at hd
     have H:=HC
     simp only [CA] at H
     obtain ⟨ad9,cp9,hv,H⟩:=H
     simp only [PS,hd,hv]
     refine StStep.storeC rfl rfl rfl rfl rfl rfl H (by have:=HSZ.out;omega) ?_
     intro wz H
     exact ⟨trivial,ad9,cp9,H⟩
    intro vals wx hd HC
    have h12:=hd.2.2.2.2.2.2.2.2.2.2.2.2.1
    simp only [CA] at HC
    obtain ⟨ad9,cp9,H⟩:=HC
    simp only [GF] at hd
    simp only [PS,hd]
    clear hd
    obtain ⟨cs2,hcs2⟩:∃ c,cs1.setIfInBounds 11 (.slice ad9 (rs1.length+1) cp9)=c:=⟨_,rfl⟩
    have hs2:=HREL.out.2.2.2.2.setM (mv':=.slice ad9 (rs1.length+1) cp9) (rs':=rs1++[⟨ir1,0,kr,1⟩]) (M':=M1++[⟨y,none,1⟩]) HITS.out
    simp only [hcs2] at H hs2
    have HS2:=Lib.hid hs2
    have HDR:Hid (∀ w,(((pA X1).sep ((blk b (.cells cs2 250)).sep (rowsA encFr 265 8 pr1 fr1))).sep deA).ho w→Calls Tryz.prog 180 #[.pointer (some ⟨b,6,none⟩),.int .i64 (1:Nat),.int .i64 m] w (EndPost X1 true b 6 250 cs2 (dropT true m 1 p1) ((pA X1).sep ((blk b (.cells cs2 250)).sep (rowsA encFr 265 8 pr1 fr1))).fp w (.tuple #[]))):=Lib.hid fun w h=>drop_c HREL.out.2.2.1 hs2.right HZ1.out HGB.out.1 HGB.out.2 HM.out.1 HNT.out.1 HNT.out.2 w h
    clear hs2 hcs2
    go_wp2_with (first|refine sL ?_|(refine sS ?_;clear H;intros;rename_i H)|(go_at_call 180;with_reducible refine Calls.mono (HDR.out _ ((St.join3 (H.pick3 (A:=pA X1) (B:=blk b (.cells cs2 250)) (C:=rowsA encFr 265 8 pr1 fr1) pk pk pk)).sepK HK pk pk)) ?_;rintro e wc ⟨X3,cs3,pr3,fr3,ir3,kr3,rfl,y1,y2,y3,y4,y5,hb⟩;have HY3:=Lib.hid (And.intro y1 (And.intro y2 (And.intro y3 (And.intro y4 y5))));clear y1 y2 y3 y4 y5;replace H:=(St.join3 (H.pick3 (A:=pA X1) (B:=blk b (.cells cs2 250)) (C:=rowsA encFr 265 8 pr1 fr1) pk pk pk)).call hb;clear hb;simp only [List.cons_append,List.nil_append] at H))
    have hy3:=HY3.out
    go_roundg (T-(expI (strStep lv p1 y M1).2).length)
    case measure=>have:=HNX.out;omega
    case rel=>exact ⟨X3,cs3,pr3,fr3,ir3,kr3,.slice ad9 (rs1.length+1) cp9,(rs1++[⟨ir1,0,kr,1⟩]),(strStep lv p1 y M1).1,(strStep lv p1 y M1).2,rfl,⟨.step HREL.out.1 (HKY.out.trans HKR.out.symm),HREL.out.2.1.trans hy3.1,hy3.2.1,hy3.2.2.1.trans HREL.out.2.2.2.1,by rw [HST.out];exact HS2.out.afterR HREL.out.2.2.1.ok hy3.1 hy3.2.2.2.1 hy3.2.2.2.2⟩,H.picks (.cons (A:=pA X3) pk (.cons (A:=blk b (.cells cs3 250)) pk (.cons (A:=rowsA encFr 265 8 pl fl) pk (.cons (A:=rowsA encFr 265 8 pr3 fr3) pk (.cons (A:=rowsA encIt 254 4 (.slice ad9 (rs1.length+1) cp9) (rs1++[⟨ir1,0,kr,1⟩])) pk .nil)))))⟩):P:=h
attribute [local go_sem] StStep stAt stUpon in
theorem gStr_a {b':Tr} {lv m T:Nat} {R0:List Tr} {X:Px} {b il kl ir kr:Nat} {cs:Array Value} {pl pr mv:Value} {fl fr:List Fr} {rs:List ItR} {d:EndP} {p:List (Tr×Nat)} {x:Tr} {M:List It} (hX:PxOk X) (hs:SpIn X cs pl fl il kl pr fr ir kr mv rs d (p,some x) M) (hm:lv=m+1) (ho:m%2=1) (htie:isTie lv=true) (hc:Canon b') (hbl:b'.lv≤25339) (hR:EndR b' m (p,some x) R0) (hM0:Tie M) (hT:(expI M).length+R0.length=T) (hT2:T≤1048576) (hlv:lv<1152921504606846976) (ht:topAt lv p=none) (w:World) (h:((spA X b cs pl fl pr fr mv rs).sep deA).ho w) :
  Calls Tryz.prog 165 #[.pointer (some ⟨b,0,none⟩),.int .i64 lv] w fun e' w'=>∃ e2 M2,GStr lv (p,some x) M e2 M2∧SpPost X b (spA X b cs pl fl pr fr mv rs).fp w (.tuple #[]) d e2 M2 e' w':=by
 rw [sep_ho] at h
 obtain ⟨k1,k2,hdd⟩:=h
 have H:=spA_open (St.one k1)
 have HK:Ks w (spA X b cs pl fl pr fr mv rs).fp [deA]:=⟨by simpa using k2,by simpa using fun b hb hm=>hdd b hm hb⟩
 generalize (spA X b cs pl fl pr fr mv rs).fp=N at *
 clear k1 k2 hdd
 have HX:=Lib.hid hX
 have HS:=Lib.hid hs
 have hrl:rs.length≤1048576:=by have h1:=hs.its.len;have h2:=tie_len hM0;omega
 have C11:=Lib.hid hs.c11
 have CI:=Lib.hid hs.c9
 have CK:=Lib.hid hs.c10
 have i1:(lv:Int)-1=(m:Nat):=by omega
 obtain ⟨lu,hlu⟩:∃ lu,lu=lv+1:=⟨_,rfl⟩
 have i2:(lv:Int)+1=(lu:Nat):=by omega
 have hlub:lu≤1152921504606846976:=by omega
 have HM:Hid (m<9223372036854775808∧lv<9223372036854775808∧lv-1=m∧lu=lv+1):=Lib.hid ⟨by omega,by omega,by omega,hlu⟩
 have HGB:Hid (b'.Gd∧b'.lv≤25339):=Lib.hid ⟨hc.gd,hbl⟩
 have HT:Hid (T≤1048576∧lv%2=0):=Lib.hid ⟨hT2,by omega⟩
 have hz:EndZ b' (p,some x):=.ofR hR
 have hx:Den X.S ir x∧kr=x.key:=hs.right.symOf
 have hi1:=hx.1.1
 have d0:((ir:Int)==0)=false:=by simp;omega
 have HKR:Hid (kr=x.key):=Lib.hid hx.2
 have HPL:Hid (∀ e1 M1,Strs lv kr (p,some x) M e1 M1→StrPl b' lv kr T (p,some x) M e1 M1):=Lib.hid fun e1 M1 h=>.of hm ho htie hc hR hM0 hT h
 have hpa:=fun w h1 h2=>parentN (b:=b) (ty:=250) (lv:=lv) hs.right hz hc.gd hbl ht w h1 h2
 have HPA:=Lib.hid hpa
 clear hpa
 rcases snoc_cases M with hM|⟨M',i,hM⟩
 case inl =>
  have HKP:Hid (strKeep lv p x M=true):=Lib.hid (by unfold strKeep;rw [hM];simp [ht])
  have hrs:rs=[]:=by have:=hs.its;rw [hM] at this;exact ItsOf.nil_iff this
  subst hrs
  obtain ⟨ad,ci,e8,_⟩:=rowsA_shape (H.get (A:=rowsA encIt 254 4 mv []) pk)
  simp only [List.length_nil] at e8
  subst e8
  clear hs hX hz hm ho htie hc hbl hR hM0 hT hT2 hlu hx hi1 hM ht
  go_enter Tryz.func165,Tryz.ntmps165
  go_wp2_with (first|refine sL ?_|(refine sS ?_;clear H;intros;rename_i H)|(go_at_call 172;with_reducible refine same (HPA.out _ (H.get (A:=blk b (.cells cs 250)) pk) (H.get (A:=rowsA encFr 265 8 pr fr) pk)) ?_))
  refine nR ?_
  exact ⟨_,_,.keep rfl HKP.out,X,cs,pl,fl,il,kl,pr,fr,ir,kr,_,[],rfl,.refl _,HX.out,rfl,HS.out,H.picks (.cons (A:=pA X) pk (.cons (A:=blk b (.cells cs 250)) pk (.cons (A:=rowsA encFr 265 8 pl fl) pk (.cons (A:=rowsA encFr 265 8 pr fr) pk (.cons (A:=rowsA encIt 254 4 (.slice ad 0 ci) []) pk .nil)))))⟩
 have hits:=hs.its
 rw [hM] at hits
 obtain ⟨ts,r,hrs,_,hri⟩:=hits.snoc_iff
 subst hrs
 obtain ⟨gi,ci,e8,hc1,_⟩:=rowsA_cases (H.get (A:=rowsA encIt 254 4 mv (ts++[r])) pk) (by simp)
 obtain ⟨ni,hni⟩:∃ n,ts.length=n:=⟨_,rfl⟩
 have hleni:(ts++[r]).length=ni+1:=by simp [hni]
 rw [hleni] at e8 hc1 hrl
 subst e8
 have hxi:(ts++[r])[ni]?=some r:=by rw [← hni];simp
 have HR2:Hid (∀ w,(rowsA encIt 254 4 (.slice (some ⟨gi,0,none⟩) (ni+1) ci) (ts++[r])).ho w→w.cell? ⟨gi,ni*4+2,none⟩=some (.int .u64 r.ky)):=Lib.hid fun w h=>rowsA_cell (j:=2) h encIt_len hxi rfl
 have hlast:M.getLast?=some i:=by rw [hM];simp
 by_cases hke:r.ky=kr
 case neg =>
  have d4:((r.ky:Int)==(kr:Int))=false:=by simp;omega
  have d5:((r.ky:Int) != (kr:Int))=true:=by simp;omega
  have d6:(r.ky==kr)=false:=by simp;omega
  have d7:¬ r.ky=kr:=hke
  have d8:¬ (r.ky:Int)=(kr:Int):=by omega
  have HKP:Hid (strKeep lv p x M=true):=Lib.hid (by
   have hne:i.x.key≠x.key:=by rw [← hri.ky,← hx.2];exact hke
   unfold strKeep;rw [hlast];simp [hne,ht])
  clear hs hX hz hm ho htie hc hbl hR hM0 hT hT2 hlu hx hi1 hM hits hri hni hleni hxi hke hlast ht
  go_enter Tryz.func165,Tryz.ntmps165
  go_wp2_with (first|refine sL ?_|(refine sS ?_;clear H;intros;rename_i H)|(go_at_call 172;with_reducible refine same (HPA.out _ (H.get (A:=blk b (.cells cs 250)) pk) (H.get (A:=rowsA encFr 265 8 pr fr) pk)) ?_))
  refine nR ?_
  exact ⟨_,_,.keep rfl HKP.out,X,cs,pl,fl,il,kl,pr,fr,ir,kr,_,_,rfl,.refl _,HX.out,rfl,HS.out,H.picks (.cons (A:=pA X) pk (.cons (A:=blk b (.cells cs 250)) pk (.cons (A:=rowsA encFr 265 8 pl fl) pk (.cons (A:=rowsA encFr 265 8 pr fr) pk (.cons (A:=rowsA encIt 254 4 (.slice (some ⟨gi,0,none⟩) (ni+1) ci) (ts++[r])) pk .nil)))))⟩
 have HE0:Hid (strKeep lv p x M=false):=Lib.hid (by unfold strKeep;rw [hlast];simp [← hri.ky,hke,hx.2])
 rw [hke] at HR2
 clear hs hX hz hm ho htie hc hbl hR hM0 hT hT2 hlu hx hi1 hM hits hri hni hleni hxi hke hlast ht
 go_enter Tryz.func165,Tryz.ntmps165
 go_wp2_with (first|refine sL ?_|(refine sS ?_;clear H;intros;rename_i H)|(go_at_call 172;with_reducible refine same (HPA.out _ (H.get (A:=blk b (.cells cs 250)) pk) (H.get (A:=rowsA encFr 265 8 pr fr) pk)) ?_))
 obtain ⟨mv,hmv⟩:∃ v:Value,v=.slice (some ⟨gi,0,none⟩) (ni+1) ci:=⟨_,rfl⟩
 obtain ⟨rs,hrs⟩:∃ v:List ItR,v=ts++[r]:=⟨_,rfl⟩
 rw [← hmv,← hrs] at HS H
 clear hmv hrs HR2
 clear HPA
 exact gStrLoop
attribute [local go_sem] StStep stAt stUpon in
theorem gStr_b {b':Tr} {lv m T:Nat} {R0:List Tr} {X:Px} {b il kl ir kr:Nat} {cs:Array Value} {pl pr mv:Value} {fl fr:List Fr} {rs:List ItR} {d:EndP} {p:List (Tr×Nat)} {x:Tr} {M:List It} (hX:PxOk X) (hs:SpIn X cs pl fl il kl pr fr ir kr mv rs d (p,some x) M) (hm:lv=m+1) (ho:m%2=1) (htie:isTie lv=true) (hc:Canon b') (hbl:b'.lv≤25339) (hR:EndR b' m (p,some x) R0) (hM0:Tie M) (hT:(expI M).length+R0.length=T) (hT2:T≤1048576) (hlv:lv<1152921504606846976) {q:Tr×Nat} (ht:topAt lv p=some q) (hhq:hvT true q=2) (w:World) (h:((spA X b cs pl fl pr fr mv rs).sep deA).ho w) :
  Calls Tryz.prog 165 #[.pointer (some ⟨b,0,none⟩),.int .i64 lv] w fun e' w'=>∃ e2 M2,GStr lv (p,some x) M e2 M2∧SpPost X b (spA X b cs pl fl pr fr mv rs).fp w (.tuple #[]) d e2 M2 e' w':=by
 rw [sep_ho] at h
 obtain ⟨k1,k2,hdd⟩:=h
 have H:=spA_open (St.one k1)
 have HK:Ks w (spA X b cs pl fl pr fr mv rs).fp [deA]:=⟨by simpa using k2,by simpa using fun b hb hm=>hdd b hm hb⟩
 generalize (spA X b cs pl fl pr fr mv rs).fp=N at *
 clear k1 k2 hdd
 have HX:=Lib.hid hX
 have HS:=Lib.hid hs
 have hrl:rs.length≤1048576:=by have h1:=hs.its.len;have h2:=tie_len hM0;omega
 have C11:=Lib.hid hs.c11
 have CI:=Lib.hid hs.c9
 have CK:=Lib.hid hs.c10
 have i1:(lv:Int)-1=(m:Nat):=by omega
 obtain ⟨lu,hlu⟩:∃ lu,lu=lv+1:=⟨_,rfl⟩
 have i2:(lv:Int)+1=(lu:Nat):=by omega
 have hlub:lu≤1152921504606846976:=by omega
 have HM:Hid (m<9223372036854775808∧lv<9223372036854775808∧lv-1=m∧lu=lv+1):=Lib.hid ⟨by omega,by omega,by omega,hlu⟩
 have HGB:Hid (b'.Gd∧b'.lv≤25339):=Lib.hid ⟨hc.gd,hbl⟩
 have HT:Hid (T≤1048576∧lv%2=0):=Lib.hid ⟨hT2,by omega⟩
 have hz:EndZ b' (p,some x):=.ofR hR
 have hx:Den X.S ir x∧kr=x.key:=hs.right.symOf
 have hi1:=hx.1.1
 have d0:((ir:Int)==0)=false:=by simp;omega
 have HKR:Hid (kr=x.key):=Lib.hid hx.2
 have HPL:Hid (∀ e1 M1,Strs lv kr (p,some x) M e1 M1→StrPl b' lv kr T (p,some x) M e1 M1):=Lib.hid fun e1 M1 h=>.of hm ho htie hc hR hM0 hT h
 obtain ⟨g,n,c,fs1,f,p2,e1,e2,hn1,hn20,e3,hfr,hpp,hfl,hfx,hpa⟩:=parentS (b:=b) (ty:=250) (lv:=lv) hs.right hz hc.gd hbl ht (H.get (A:=rowsA encFr 265 8 pr fr) pk)
 subst e1 e2
 clear e3
 have HPA:=Lib.hid hpa
 have HC7:Hid (∀ w,(rowsA encFr 265 8 (.slice (some ⟨g,0,none⟩) (n+1) c) (fs1++[f])).ho w→w.cell? ⟨g,n*8+7,none⟩=some (.int .i64 f.hv)):=Lib.hid fun w h=>fr_cell h hfx rfl
 clear hpa
 have hv:f.hv=2:=by rw [hfr.hvT];exact hhq
 rw [hv] at HC7
 clear hn1 hfr hpp hfl hfx hv
 rcases snoc_cases M with hM|⟨M',i,hM⟩
 case inl =>
  have HKP:Hid (strKeep lv p x M=true):=Lib.hid (by unfold strKeep;rw [hM];simp [ht,hhq])
  have hrs:rs=[]:=by have:=hs.its;rw [hM] at this;exact ItsOf.nil_iff this
  subst hrs
  obtain ⟨ad,ci,e8,_⟩:=rowsA_shape (H.get (A:=rowsA encIt 254 4 mv []) pk)
  simp only [List.length_nil] at e8
  subst e8
  clear hs hX hz hm ho htie hc hbl hR hM0 hT hT2 hlu hx hi1 hM ht hhq
  go_enter Tryz.func165,Tryz.ntmps165
  go_wp2_with (first|refine sL ?_|(refine sS ?_;clear H;intros;rename_i H)|(go_at_call 172;with_reducible refine same (HPA.out _ (H.get (A:=blk b (.cells cs 250)) pk) (H.get (A:=rowsA encFr 265 8 (.slice (some ⟨g,0,none⟩) (n+1) c) (fs1++[f])) pk)) ?_))
  refine nR ?_
  exact ⟨_,_,.keep rfl HKP.out,X,cs,pl,fl,il,kl,_,_,ir,kr,_,[],rfl,.refl _,HX.out,rfl,HS.out,H.picks (.cons (A:=pA X) pk (.cons (A:=blk b (.cells cs 250)) pk (.cons (A:=rowsA encFr 265 8 pl fl) pk (.cons (A:=rowsA encFr 265 8 (.slice (some ⟨g,0,none⟩) (n+1) c) (fs1++[f])) pk (.cons (A:=rowsA encIt 254 4 (.slice ad 0 ci) []) pk .nil)))))⟩
 have hits:=hs.its
 rw [hM] at hits
 obtain ⟨ts,r,hrs,_,hri⟩:=hits.snoc_iff
 subst hrs
 obtain ⟨gi,ci,e8,hc1,_⟩:=rowsA_cases (H.get (A:=rowsA encIt 254 4 mv (ts++[r])) pk) (by simp)
 obtain ⟨ni,hni⟩:∃ n,ts.length=n:=⟨_,rfl⟩
 have hleni:(ts++[r]).length=ni+1:=by simp [hni]
 rw [hleni] at e8 hc1 hrl
 subst e8
 have hxi:(ts++[r])[ni]?=some r:=by rw [← hni];simp
 have HR2:Hid (∀ w,(rowsA encIt 254 4 (.slice (some ⟨gi,0,none⟩) (ni+1) ci) (ts++[r])).ho w→w.cell? ⟨gi,ni*4+2,none⟩=some (.int .u64 r.ky)):=Lib.hid fun w h=>rowsA_cell (j:=2) h encIt_len hxi rfl
 have hlast:M.getLast?=some i:=by rw [hM];simp
 by_cases hke:r.ky=kr
 case neg =>
  have d4:((r.ky:Int)==(kr:Int))=false:=by simp;omega
  have d5:((r.ky:Int) != (kr:Int))=true:=by simp;omega
  have d6:(r.ky==kr)=false:=by simp;omega
  have d7:¬ r.ky=kr:=hke
  have d8:¬ (r.ky:Int)=(kr:Int):=by omega
  have HKP:Hid (strKeep lv p x M=true):=Lib.hid (by
   have hne:i.x.key≠x.key:=by rw [← hri.ky,← hx.2];exact hke
   unfold strKeep;rw [hlast];simp [hne,ht,hhq])
  clear hs hX hz hm ho htie hc hbl hR hM0 hT hT2 hlu hx hi1 hM hits hri hni hleni hxi hke hlast ht hhq
  go_enter Tryz.func165,Tryz.ntmps165
  go_wp2_with (first|refine sL ?_|(refine sS ?_;clear H;intros;rename_i H)|(go_at_call 172;with_reducible refine same (HPA.out _ (H.get (A:=blk b (.cells cs 250)) pk) (H.get (A:=rowsA encFr 265 8 (.slice (some ⟨g,0,none⟩) (n+1) c) (fs1++[f])) pk)) ?_))
  refine nR ?_
  exact ⟨_,_,.keep rfl HKP.out,X,cs,pl,fl,il,kl,_,_,ir,kr,_,_,rfl,.refl _,HX.out,rfl,HS.out,H.picks (.cons (A:=pA X) pk (.cons (A:=blk b (.cells cs 250)) pk (.cons (A:=rowsA encFr 265 8 pl fl) pk (.cons (A:=rowsA encFr 265 8 (.slice (some ⟨g,0,none⟩) (n+1) c) (fs1++[f])) pk (.cons (A:=rowsA encIt 254 4 (.slice (some ⟨gi,0,none⟩) (ni+1) ci) (ts++[r])) pk .nil)))))⟩
 have HE0:Hid (strKeep lv p x M=false):=Lib.hid (by unfold strKeep;rw [hlast];simp [← hri.ky,hke,hx.2])
 rw [hke] at HR2
 clear hs hX hz hm ho htie hc hbl hR hM0 hT hT2 hlu hx hi1 hM hits hri hni hleni hxi hke hlast ht hhq
 go_enter Tryz.func165,Tryz.ntmps165
 go_wp2_with (first|refine sL ?_|(refine sS ?_;clear H;intros;rename_i H)|(go_at_call 172;with_reducible refine same (HPA.out _ (H.get (A:=blk b (.cells cs 250)) pk) (H.get (A:=rowsA encFr 265 8 (.slice (some ⟨g,0,none⟩) (n+1) c) (fs1++[f])) pk)) ?_))
 obtain ⟨mv,hmv⟩:∃ v:Value,v=.slice (some ⟨gi,0,none⟩) (ni+1) ci:=⟨_,rfl⟩
 obtain ⟨rs,hrs⟩:∃ v:List ItR,v=ts++[r]:=⟨_,rfl⟩
 rw [← hmv,← hrs] at HS H
 clear hmv hrs HR2
 obtain ⟨pr,hpv⟩:∃ v:Value,v=.slice (some ⟨g,0,none⟩) (n+1) c:=⟨_,rfl⟩
 obtain ⟨fr,hfs2⟩:∃ v:List Fr,v=fs1++[f]:=⟨_,rfl⟩
 rw [← hpv,← hfs2] at HS H
 clear hpv hfs2 HPA HC7
 exact gStrLoop
attribute [local go_sem] StStep stAt stUpon in
theorem gStr_d {b':Tr} {lv m T:Nat} {R0:List Tr} {X:Px} {b il kl ir kr:Nat} {cs:Array Value} {pl pr mv:Value} {fl fr:List Fr} {rs:List ItR} {d:EndP} {p:List (Tr×Nat)} {x:Tr} {M:List It} (hX:PxOk X) (hs:SpIn X cs pl fl il kl pr fr ir kr mv rs d (p,some x) M) (hm:lv=m+1) (ho:m%2=1) (htie:isTie lv=true) (hc:Canon b') (hbl:b'.lv≤25339) (hR:EndR b' m (p,some x) R0) (hM0:Tie M) (hT:(expI M).length+R0.length=T) (hT2:T≤1048576) (hlv:lv<1152921504606846976) {q:Tr×Nat} (ht:topAt lv p=some q) (hhq:¬ hvT true q=2) (w:World) (h:((spA X b cs pl fl pr fr mv rs).sep deA).ho w) :
  Calls Tryz.prog 165 #[.pointer (some ⟨b,0,none⟩),.int .i64 lv] w fun e' w'=>∃ e2 M2,GStr lv (p,some x) M e2 M2∧SpPost X b (spA X b cs pl fl pr fr mv rs).fp w (.tuple #[]) d e2 M2 e' w':=by
 rw [sep_ho] at h
 obtain ⟨k1,k2,hdd⟩:=h
 have H:=spA_open (St.one k1)
 have HK:Ks w (spA X b cs pl fl pr fr mv rs).fp [deA]:=⟨by simpa using k2,by simpa using fun b hb hm=>hdd b hm hb⟩
 generalize (spA X b cs pl fl pr fr mv rs).fp=N at *
 clear k1 k2 hdd
 have HX:=Lib.hid hX
 have HS:=Lib.hid hs
 have hrl:rs.length≤1048576:=by have h1:=hs.its.len;have h2:=tie_len hM0;omega
 have C11:=Lib.hid hs.c11
 have CI:=Lib.hid hs.c9
 have CK:=Lib.hid hs.c10
 have i1:(lv:Int)-1=(m:Nat):=by omega
 obtain ⟨lu,hlu⟩:∃ lu,lu=lv+1:=⟨_,rfl⟩
 have i2:(lv:Int)+1=(lu:Nat):=by omega
 have hlub:lu≤1152921504606846976:=by omega
 have HM:Hid (m<9223372036854775808∧lv<9223372036854775808∧lv-1=m∧lu=lv+1):=Lib.hid ⟨by omega,by omega,by omega,hlu⟩
 have HGB:Hid (b'.Gd∧b'.lv≤25339):=Lib.hid ⟨hc.gd,hbl⟩
 have HT:Hid (T≤1048576∧lv%2=0):=Lib.hid ⟨hT2,by omega⟩
 have hz:EndZ b' (p,some x):=.ofR hR
 have hx:Den X.S ir x∧kr=x.key:=hs.right.symOf
 have hi1:=hx.1.1
 have d0:((ir:Int)==0)=false:=by simp;omega
 have HKR:Hid (kr=x.key):=Lib.hid hx.2
 have HPL:Hid (∀ e1 M1,Strs lv kr (p,some x) M e1 M1→StrPl b' lv kr T (p,some x) M e1 M1):=Lib.hid fun e1 M1 h=>.of hm ho htie hc hR hM0 hT h
 obtain ⟨g,n,c,fs1,f,p2,e1,e2,hn1,hn20,e3,hfr,hpp,hfl,hfx,hpa⟩:=parentS (b:=b) (ty:=250) (lv:=lv) hs.right hz hc.gd hbl ht (H.get (A:=rowsA encFr 265 8 pr fr) pk)
 subst e1 e2
 clear e3
 have HPA:=Lib.hid hpa
 have HC7:Hid (∀ w,(rowsA encFr 265 8 (.slice (some ⟨g,0,none⟩) (n+1) c) (fs1++[f])).ho w→w.cell? ⟨g,n*8+7,none⟩=some (.int .i64 f.hv)):=Lib.hid fun w h=>fr_cell h hfx rfl
 clear hpa
 have hv:¬ f.hv=2:=by rw [hfr.hvT];exact hhq
 have d3:((f.hv:Int)==2)=false:=by simp;omega
 have HE0:Hid (strKeep lv p x M=false):=Lib.hid (by unfold strKeep;simp [ht,hhq])
 clear hs hX hz hm ho htie hc hbl hR hM0 hT hT2 hlu hx hi1 ht hhq hn1 hfr hpp hfl hfx hv
 go_enter Tryz.func165,Tryz.ntmps165
 go_wp2_with (first|refine sL ?_|(refine sS ?_;clear H;intros;rename_i H)|(go_at_call 172;with_reducible refine same (HPA.out _ (H.get (A:=blk b (.cells cs 250)) pk) (H.get (A:=rowsA encFr 265 8 (.slice (some ⟨g,0,none⟩) (n+1) c) (fs1++[f])) pk)) ?_))
 obtain ⟨pr,hpv⟩:∃ v:Value,v=.slice (some ⟨g,0,none⟩) (n+1) c:=⟨_,rfl⟩
 obtain ⟨fr,hfs2⟩:∃ v:List Fr,v=fs1++[f]:=⟨_,rfl⟩
 rw [← hpv,← hfs2] at HS H
 clear hpv hfs2 HPA HC7
 exact gStrLoop
attribute [local go_sem] StStep stAt stUpon in
theorem gatherStretch_c {b':Tr} {lv m T:Nat} {R0:List Tr} {X:Px} {b il kl ir kr:Nat} {cs:Array Value} {pl pr mv:Value} {fl fr:List Fr} {rs:List ItR} {d e:EndP} {M:List It} (hX:PxOk X) (hs:SpIn X cs pl fl il kl pr fr ir kr mv rs d e M) (hm:lv=m+1) (ho:m%2=1) (htie:isTie lv=true) (hc:Canon b') (hbl:b'.lv≤25339) (hR:EndR b' m e R0) (hM0:Tie M) (hT:(expI M).length+R0.length=T) (hT2:T≤1048576) (hlv:lv<1152921504606846976) (w:World) (h:((spA X b cs pl fl pr fr mv rs).sep deA).ho w) :
  Calls Tryz.prog 165 #[.pointer (some ⟨b,0,none⟩),.int .i64 lv] w fun e' w'=>∃ e2 M2,GStr lv e M e2 M2∧SpPost X b (spA X b cs pl fl pr fr mv rs).fp w (.tuple #[]) d e2 M2 e' w':=by
 obtain ⟨p,sx⟩:=e
 cases sx with
 |none =>
  rw [sep_ho] at h
  obtain ⟨k1,k2,hdd⟩:=h
  have H:=spA_open (St.one k1)
  have HK:Ks w (spA X b cs pl fl pr fr mv rs).fp [deA]:=⟨by simpa using k2,by simpa using fun b hb hm=>hdd b hm hb⟩
  generalize (spA X b cs pl fl pr fr mv rs).fp=N at *
  clear k1 k2 hdd
  have HX:=Lib.hid hX
  have HS:=Lib.hid hs
  have hrl:rs.length≤1048576:=by have h1:=hs.its.len;have h2:=tie_len hM0;omega
  have C11:=Lib.hid hs.c11
  have CI:=Lib.hid hs.c9
  have CK:=Lib.hid hs.c10
  have hi0:ir=0:=hs.right.symOf.1
  subst hi0
  clear hs hX hm ho htie hc hbl hR hM0 hT hT2 hrl
  go_enter Tryz.func165,Tryz.ntmps165
  go_wp2_with (first|refine sL ?_|(refine sS ?_;clear H;intros;rename_i H))
  refine nR ?_
  exact ⟨_,_,.none rfl,X,cs,pl,fl,il,kl,pr,fr,0,kr,mv,rs,rfl,.refl _,HX.out,rfl,HS.out,H.picks (.cons (A:=pA X) pk (.cons (A:=blk b (.cells cs 250)) pk (.cons (A:=rowsA encFr 265 8 pl fl) pk (.cons (A:=rowsA encFr 265 8 pr fr) pk (.cons (A:=rowsA encIt 254 4 mv rs) pk .nil)))))⟩
 |some x =>
  cases ht:topAt lv p with
  |none=>exact gStr_a hX hs hm ho htie hc hbl hR hM0 hT hT2 hlv ht w h
  |some q =>
   by_cases hhq:hvT true q=2
   ·exact gStr_b hX hs hm ho htie hc hbl hR hM0 hT hT2 hlv ht hhq w h
   ·exact gStr_d hX hs hm ho htie hc hbl hR hM0 hT hT2 hlv ht hhq w h
end
end Go.Proofs.YtgnppnokkdghcaaGreatDoor
