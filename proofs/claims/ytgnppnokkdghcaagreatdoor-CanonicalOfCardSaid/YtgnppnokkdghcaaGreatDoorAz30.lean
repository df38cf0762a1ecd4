/-
  Part 30 of the texts behind CanonicalOf: walks and laws. Conditions: as each states.
-/
import Derived.Test.YtgnppnokkdghcaaGreatDoorAz26
import Derived.Test.YtgnppnokkdghcaaGreatDoorAz28
set_option linter.unusedSimpArgs false
set_option linter.unusedVariables false
set_option maxRecDepth 100000
set_option maxHeartbeats 80000000
open Go.Proofs.Tryz renaming prog→zb
open List renaming append_nil→qO,cons_append→zo,drop_of_length_le→yo,drop_succ_cons→wQ,drop_zero→yw,eq_nil_of_length_eq_zero→qe,flatMap_cons→zt,flatMap_nil→wW,length_cons→zw,length_nil→zC,map_cons→zX,map_nil→ye,mem_append→zl,nil_append→zv,take_of_length_le→qp,take_zero→jA
open Nat renaming le_refl→zr,lt_of_not_le→vD,zero_add→qQ
namespace Go.Proofs.YtgnppnokkdghcaaGreatDoor
section
open Go.RowKit Go.Maps
attribute [local go_sem] qt
def SpRel (X:Px) (b17:Nat) (ta tb:Tr) (s:List Tr) (i n:Nat) (N:List Nat) (w:World) (mm:Nat) (v18:Value) (wr:World):Prop :=
 ∃ (m lv:Nat) (X1:Px) (cs:Array Value) (pl:Value) (fl:List Fr) (il kl:Nat) (pr:Value) (fr:List Fr) (ir kr:Nat) (mv:Value) (rs:List ItR) (d e:qK) (M:List It),mm=25340-m∧m<25339∧lv=m+1∧v18=.int .i64 lv∧SpI ta tb s i n m d e M∧(X.Ext X1∧zK X1∧SpIn X1 cs pl fl il kl pr fr ir kr mv rs d e M∧X1.S.list.length+(xf s m).length<=X.S.list.length+s.length)∧St w N [pA X1,blk b17 (.cells cs 250),zc ze 265 8 pl fl,zc ze 265 8 pr fr,zc zj 254 4 mv rs] wr
def TopRel (X:Px) (N:List Nat) (w:World) (mm:Nat) (v23:Value) (wr:World):Prop :=
 ∃ (X1:Px),((v23=.int .i64 0∧mm=2)∨(v23=.int .i64 1∧mm=1)∨(v23=.int .i64 2∧mm=0))∧(X.Ext X1∧zK X1∧X1.S=X.S)∧St w N [pA X1] wr
structure SplIn (X:Px) (ta tb:Tr) (s:List Tr) (a b i n:Nat):Prop where
 ca:Canon ta
 cb:Canon tb
 la:ta.lv<=25339
 lb:tb.lv<=25339
 ia:i<=(ta.lay 0).length
 nb:n<=(tb.lay 0).length
 da:1<=i->Den X.S a ta
 db:1<=n->Den X.S b tb
 leaves:xi s
 ne:s≠[]
 len:s.length=i+n
 cnt:s.length<=1048576
 room:X.S.list.length+s.length<=X.S.most
 n1:¬ (i=0∧n=(tb.lay 0).length)
 n2:¬ (n=0∧i=(ta.lay 0).length)
 start:∀ d e,EndL ta 0 d ((ta.lay 0).take i)->EndR tb 0 e ((tb.lay 0).drop (tb.len-n))->SpI ta tb s i n 0 d e []
theorem KQ {P:Prop} (h:P:=by
 rw [qz] at h;obtain ⟨k1,k2,hdd⟩:=h;have H:=St.one k1;have HK:Ks w (pA X).fp [deA]:=⟨by simpa using k2,by simpa using fun b hb hm=>hdd b hm hb⟩
 generalize (pA X).fp=N at *;have HCS:=zh hc;clear k1 k2 hdd hc;obtain ⟨s,hs⟩:∃ s,sa.take i++sb.drop j=s:=⟨_,rfl⟩
 have HSS:=zh hs;rw [hs] at hl hroom;have hsl:s.length=i+(sb.length-j):=(by rw [← hs];simp;omega);obtain ⟨n,hn⟩:∃ n,sb.length-j=n:=⟨_,rfl⟩
 rw [hn] at hsl;obtain ⟨la,hla,htpa⟩:=Ye hX ha;obtain ⟨lb,hlb,htpb⟩:=Ye hX hb;have HTA:=zh htpa;have HTB:=zh htpb;have d1:decide ((32768:Int)<(la:Int))=false:=(by simp;omega);have d2:decide (32768<la)=false:=(by simp;omega);have d3:decide ((32768:Int)<(lb:Int))=false:=(by simp;omega);have d4:decide (32768<lb)=false:=(by simp;omega);have hal:=ha.len hX.ok;have hbl:=hb.len hX.ok;obtain ⟨na,hna⟩:∃ n,sa.length=n:=⟨_,rfl⟩
 obtain ⟨nb,hnb⟩:∃ n,sb.length=n:=⟨_,rfl⟩
 have i1:(nb:Int)-(j:Int)=(n:Nat):=(by omega);have hnab:na<=1152921504606846976∧nb<=1152921504606846976∧j<=nb∧i<=na∧n<=nb:=(by omega);have HSA0:Hid (∀ X1:Px,X.Ext X1->zK X1->X1.S=X.S->∀ w,(pA X1).ho w->Calls zb 92 #[.pointer (some ⟨X.p,0,none⟩),.int .i64 a] w fun e w'=>e=.returned (.int .i64 (na:Nat))∧St w [] [] w'):=zh fun X1 q1 q2 q3 w h=>by have:=kY q2 (by rw [q3];exact ha) w h;rwa [q1.p,hna] at this
 have HSB0:Hid (∀ X1:Px,X.Ext X1->zK X1->X1.S=X.S->∀ w,(pA X1).ho w->Calls zb 92 #[.pointer (some ⟨X.p,0,none⟩),.int .i64 b] w fun e w'=>e=.returned (.int .i64 (nb:Nat))∧St w [] [] w'):=zh fun X1 q1 q2 q3 w h=>by have:=kY q2 (by rw [q3];exact hb) w h;rwa [q1.p,hnb] at this
 obtain ⟨ta,t1,t2,t3,t4,t5,t6⟩:=side_left hX.ok ha hi;obtain ⟨tb,j',u1,u2,u3,u4,u5,u6,u7⟩:=side_right hX.ok hb hj;rw [hn] at u4 u6 u7;have hlvs:xi s:=by
  rw [← hs];intro t ht;rcases zl.1 ht with ht|ht
  ·exact ha.leaves t (List.mem_of_mem_take ht)
  ·exact hb.leaves t (List.mem_of_mem_drop ht)
 have hin:¬ (i=0∧j=0)->¬ (n=0∧i=na)->¬ (i=0∧n=0)->SplIn X ta tb s a b i n:=fun q1 q2 q3=>⟨t1,u1,t2,u2,t3,by omega,t5,u6,hlvs,fun e=>q3 (by rw [e] at hsl;simp at hsl;omega),hsl,hl,hroom,fun q=>q1 ⟨q.1,u7 q.2⟩,fun q=>q2 ⟨q.1,by rw [← hna];exact t6 q.2⟩,fun d e h1 h2=>by
  have h3:tb.len-n=j':=(by rw [← xP u1.gd];omega);rw [h3] at h2;have h4:=SpI.start t1 u1 h1 h2;rw [t4,u5,hs,u4] at h4;exact h4⟩
 have HIB:Hid (IdIs X.S a sa∧IdIs X.S b sb∧sa.length=na∧sb.length=nb):=zh ⟨ha,hb,hna,hnb⟩;have HXX:=zh hX;have hs2:=hs;clear hs t1 t2 t3 t4 t5 t6 u1 u2 u3 u4 u5 u6 u7 hlvs hX ha hb hi hj hla hlb htpa htpb hal hbl hna hnb hn hsl hs2 hroom hl;have hix0:∀ wr:World,(Instr.index 226 (.agg #[.int .i64 a,.int .i64 b]) (.int .i64 0)).run zb wr=.ok (.int .i64 a) wr:=fun wr=>by kernel_rfl
 have hix1:∀ wr:World,(Instr.index 226 (.agg #[.int .i64 a,.int .i64 b]) (.int .i64 1)).run zb wr=.ok (.int .i64 b) wr:=fun wr=>by kernel_rfl
 go_enter Tryz.func123,Tryz.ntmps123;go_wp2_with (first|refine sL ?_|(refine sS ?_;clear H;intros;rename_i H));go_loopg [23] 2 (fun mm v23 wr=>TopRel X N w mm v23 wr);case atStart=>exact ⟨X,.inl ⟨rfl,rfl⟩,⟨.refl _,HXX.out,rfl⟩,H.picks (.cons pk .nil)⟩
 case round =>
  clear H;obtain ⟨X1,hk,hx1,H⟩:=hrel;have HX1:=zh hx1;clear hx1;rcases hk with ⟨rfl,rfl⟩|⟨rfl,rfl⟩|⟨rfl,rfl⟩
  ·go_wp2_with (first|refine sL ?_|(refine sS ?_;clear H;intros;rename_i H)|(go_at_call 91;with_reducible refine zm (HTA.out X1 _ HX1.out.1 HX1.out.2.1 HX1.out.2.2 (H.sepK HK pk pk)) ?_;rintro e9 wc ⟨X2,y1,y2,y3,rfl,hb⟩;have HY:=zh (za y1 (za y2 y3));clear y1 y2 y3;replace H:=zn ((H.pick pk).call hb);clear hb));go_roundg 1;case measure=>omega
   case rel=>exact ⟨X2,.inr (.inl ⟨rfl,rfl⟩),⟨HX1.out.1.trans HY.out.1,HY.out.2.1,HY.out.2.2.trans HX1.out.2.2⟩,H.picks (.cons pk .nil)⟩
  ·go_wp2_with (first|refine sL ?_|(refine sS ?_;clear H;intros;rename_i H)|(go_at_call 91;with_reducible refine zm (HTB.out X1 _ HX1.out.1 HX1.out.2.1 HX1.out.2.2 (H.sepK HK pk pk)) ?_;rintro e9 wc ⟨X2,y1,y2,y3,rfl,hb⟩;have HY:=zh (za y1 (za y2 y3));clear y1 y2 y3;replace H:=zn ((H.pick pk).call hb);clear hb));go_roundg 0;case measure=>omega
   case rel=>exact ⟨X2,.inr (.inr ⟨rfl,rfl⟩),⟨HX1.out.1.trans HY.out.1,HY.out.2.1,HY.out.2.2.trans HX1.out.2.2⟩,H.picks (.cons pk .nil)⟩
  ·have HSA:=zh (HSA0.out X1 HX1.out.1 HX1.out.2.1 HX1.out.2.2);have HSB:=zh (HSB0.out X1 HX1.out.1 HX1.out.2.1 HX1.out.2.2);clear HSA0 HSB0 HTA HTB d1 d2 d3 d4 hix0 hix1;by_cases hi0:i=0
   case' pos =>
    by_cases hj0:j=0
    case pos =>
     subst hi0 hj0;clear hin;go_wp2_with (first|refine sL ?_|(refine sS ?_;clear H;intros;rename_i H)|(go_at_call 92;(first|(with_reducible refine zm (HSB.out _ (H.get pk)) ?_)|(with_reducible refine zm (HSA.out _ (H.get pk)) ?_));rintro e9 wc ⟨rfl,hb⟩;replace H:=H.grew hb.below;clear hb));go_ret2;exact ⟨X1,b,rfl,HX1.out.1,HX1.out.2.1,by rw [HX1.out.2.2];simpa using HIB.out.2.1,by rw [HX1.out.2.2];omega,H.picks (.cons pk .nil)⟩
    have e1:((j:Int)==0)=false:=(by simp;omega);by_cases hn0:n=0
    case pos =>
     by_cases hia:i=na
     ·subst hi0 hn0;subst hia;have e2:=HIB.out.2.2.1;clear hin;go_wp2_with (first|refine sL ?_|(refine sS ?_;clear H;intros;rename_i H)|(go_at_call 92;(first|(with_reducible refine zm (HSB.out _ (H.get pk)) ?_)|(with_reducible refine zm (HSA.out _ (H.get pk)) ?_));rintro e9 wc ⟨rfl,hb⟩;replace H:=H.grew hb.below;clear hb));go_ret2;exact ⟨X1,a,rfl,HX1.out.1,HX1.out.2.1,by rw [HX1.out.2.2];have h1:=HSS.out;have h2:sb.drop j=[]:=yo (by have:=HIB.out.2.2.2;omega);have h3:=HIB.out.1;have h4:sa=[]:=qe e2;rw [h2,h4];rw [h4] at h3;simpa using h3,by rw [HX1.out.2.2];omega,H.picks (.cons pk .nil)⟩
     ·subst hi0 hn0;have e2:(0:Int)≠(na:Int):=(by omega);have e3:((0:Int)==(na:Int))=false:=(by simp;omega);clear hin;go_wp2_with (first|refine sL ?_|(refine sS ?_;clear H;intros;rename_i H)|(go_at_call 92;(first|(with_reducible refine zm (HSB.out _ (H.get pk)) ?_)|(with_reducible refine zm (HSA.out _ (H.get pk)) ?_));rintro e9 wc ⟨rfl,hb⟩;replace H:=H.grew hb.below;clear hb));go_ret2;exact ⟨X1,0,rfl,HX1.out.1,HX1.out.2.1,by rw [show sa.take 0++sb.drop j=[] by rw [yo (by have:=HIB.out.2.2.2;omega)];simp];exact .inl ⟨rfl,rfl⟩,by rw [HX1.out.2.2];omega,H.picks (.cons pk .nil)⟩
    have e0:((i:Int)==0)=true:=(by simp [hi0]);have e2:((n:Int)==0)=false:=(by simp;omega);have HIN:=zh (hin (by omega) (by omega) (by omega));have HBR:=zh (za hi0 (za hj0 hn0));clear hin hi0 hn0 hj0
   case' neg =>
    have e1:((i:Int)==0)=false:=(by simp;omega);by_cases hn0:n=0
    case' pos =>
     by_cases hia:i=na
     case pos =>
      subst hn0;subst hia;clear hin;go_wp2_with (first|refine sL ?_|(refine sS ?_;clear H;intros;rename_i H)|(go_at_call 92;(first|(with_reducible refine zm (HSB.out _ (H.get pk)) ?_)|(with_reducible refine zm (HSA.out _ (H.get pk)) ?_));rintro e9 wc ⟨rfl,hb⟩;replace H:=H.grew hb.below;clear hb));go_ret2;exact ⟨X1,a,rfl,HX1.out.1,HX1.out.2.1,by rw [HX1.out.2.2];rw [qp (by have:=HIB.out.2.2.1;omega),yo (by have:=HIB.out.2.2.2;omega),qO];exact HIB.out.1,by rw [HX1.out.2.2];omega,H.picks (.cons pk .nil)⟩
     have e0:((n:Int)==0)=true:=(by simp [hn0]);have e3:((i:Int)==(na:Int))=false:=(by simp;omega);have HIN:=zh (hin (by omega) (by omega) (by omega));have HBR:=zh (za hi0 (za hia hn0));clear hin hi0 hn0 hia
    case' neg =>
     have e2:((n:Int)==0)=false:=(by simp;omega);have HIN:=zh (hin (by omega) (by omega) (by omega));have HBR:=zh (za hi0 hn0);clear hin hi0 hn0
   all_goals
    first
    |exfalso;have h6:=HBR.out;have h9:=HCS.out;have h8:=HIB.out.2.2.1;have h7:=HIB.out.2.2.2;omega
    |skip
     have HN1:Hid (∀ w,((pA X1).sep deA).ho w->Calls zb 147 #[.pointer (some ⟨X.p,0,none⟩),.int .i64 a,.int .i64 (i:Nat),.bool false] w (fun e w'=>∃ (X':Px) (pv':Value) (fs':List Fr) (id' ky':Nat) (d:qK),e=.returned (.agg #[.pointer (some ⟨X.p,0,none⟩),.bool false,pv',.int .i64 id',.int .u64 ky'])∧X1.Ext X'∧zK X'∧X'.S=X1.S∧PathOf X'.S false d.1 fs'∧(match d.2 with|some x=>Den X'.S id' x∧ky'=x.key|none=>id'=0∧ky'=0)∧(false=false->EndL ta 0 d ((ta.lay 0).take i))∧(false=true->EndR ta 0 d ((ta.lay 0).drop (ta.len-i)))∧St w (pA X1).fp [pA X',zc ze 265 8 pv' fs'] w')):=zh fun w h=>by
      have:=Ze (bk:=false) HX1.out.2.1 (fun q=>by rw [HX1.out.2.2];exact HIN.out.da q) HIN.out.ca.gd HIN.out.la HIN.out.ia w h;rw [HX1.out.1.p] at this;refine this.mono ?_;rintro e w' ⟨X',pv',fs',id',ky',d,rfl,q⟩;exact ⟨X',pv',fs',id',ky',d,by rw [HX1.out.1.p],q⟩
     have HN2:Hid (∀ X2:Px,X1.Ext X2->zK X2->X2.S=X1.S->∀ w,((pA X2).sep deA).ho w->Calls zb 147 #[.pointer (some ⟨X.p,0,none⟩),.int .i64 b,.int .i64 (n:Nat),.bool true] w (fun e w'=>∃ (X':Px) (pv':Value) (fs':List Fr) (id' ky':Nat) (d:qK),e=.returned (.agg #[.pointer (some ⟨X.p,0,none⟩),.bool true,pv',.int .i64 id',.int .u64 ky'])∧X2.Ext X'∧zK X'∧X'.S=X2.S∧PathOf X'.S true d.1 fs'∧(match d.2 with|some x=>Den X'.S id' x∧ky'=x.key|none=>id'=0∧ky'=0)∧(true=false->EndL tb 0 d ((tb.lay 0).take n))∧(true=true->EndR tb 0 d ((tb.lay 0).drop (tb.len-n)))∧St w (pA X2).fp [pA X',zc ze 265 8 pv' fs'] w')):=zh fun X2 q1 q2 q3 w h=>by
      have:=Ze (bk:=true) q2 (fun q=>by rw [q3,HX1.out.2.2];exact HIN.out.db q) HIN.out.cb.gd HIN.out.lb HIN.out.nb w h;rw [(HX1.out.1.trans q1).p] at this;refine this.mono ?_;rintro e w' ⟨X',pv',fs',id',ky',d,rfl,q⟩;exact ⟨X',pv',fs',id',ky',d,by rw [(HX1.out.1.trans q1).p],q⟩
     go_wp2_with (first|refine sL ?_|(refine sS ?_;clear H;intros;rename_i H)|(go_at_call 92;(first|(with_reducible refine zm (HSB.out _ (H.get pk)) ?_)|(with_reducible refine zm (HSA.out _ (H.get pk)) ?_));rintro e9 wc ⟨rfl,hb⟩;replace H:=H.grew hb.below;clear hb)|(first|(go_at_call 147;with_reducible refine zm (HN1.out _ (H.sepK HK pk pk)) ?_;rintro e9 wc ⟨X2,pl,fl,il,kl,dl,rfl,y1,y2,y3,y4,y5,y6,y7,hb⟩;have HYL:=zh (za y1 (za y2 (za y3 (za y4 (za y5 (za y6 y7))))));clear y1 y2 y3 y4 y5 y6 y7;replace H:=zn ((H.pick pk).call hb);clear hb;obtain ⟨al,cl,e8,_⟩:=zE (H.get (A:=zc ze 265 8 pl fl) pk);obtain ⟨nl,e7⟩:∃ l,fl.length=l:=⟨_,rfl⟩;rw [e7] at e8;clear e7;subst e8)|(go_at_call 147;with_reducible refine zm (HN2.out X2 HYL.out.1 HYL.out.2.1 HYL.out.2.2.1 _ (H.sepK HK pk pk)) ?_;rintro e9 wc ⟨X3,pr,fr,ir,kr,dr,rfl,y1,y2,y3,y4,y5,y6,y7,hb⟩;have HYR:=zh (za y1 (za y2 (za y3 (za y4 (za y5 (za y6 y7))))));clear y1 y2 y3 y4 y5 y6 y7;replace H:=zn ((H.pick pk).call hb);clear hb;obtain ⟨ar,cr,e8,_⟩:=zE (H.get (A:=zc ze 265 8 pr fr) pk);obtain ⟨nr,e7⟩:∃ l,fr.length=l:=⟨_,rfl⟩;rw [e7] at e8;clear e7;subst e8)));rename_i b17 _ _;go_loopg [18] 25340 (fun mm v18 wr=>SpRel X b17 ta tb s i n N w mm v18 wr);case atStart =>
      have hy:=HYL.out;have hz:=HYR.out;exact ⟨0,1,X3,#[.pointer (some ⟨X.p,0,none⟩),.pointer (some ⟨X.p,0,none⟩),.bool false,.slice al nl cl,.int .i64 il,.int .u64 kl,.pointer (some ⟨X.p,0,none⟩),.bool true,.slice ar nr cr,.int .i64 ir,.int .u64 kr,.slice none 0 0],.slice al nl cl,fl,il,kl,.slice ar nr cr,fr,ir,kr,.slice none 0 0,[],dl,dr,[],rfl,by omega,rfl,rfl,HIN.out.start dl dr (hy.2.2.2.2.2.1 (by first|rfl|trivial)) (hz.2.2.2.2.2.2 (by first|rfl|trivial)),⟨HX1.out.1.trans (hy.1.trans hz.1),hz.2.1,⟨rfl,by rw [(HX1.out.1.trans (hy.1.trans hz.1)).p];rfl,rfl,⟨⟨by simp,by rw [(HX1.out.1.trans (hy.1.trans hz.1)).p];rfl,rfl,rfl,rfl,rfl⟩,by rw [hz.2.2.1];exact hy.2.2.2.1,by rw [hz.2.2.1];exact hy.2.2.2.2.1⟩,⟨⟨by simp,by rw [(HX1.out.1.trans (hy.1.trans hz.1)).p];rfl,rfl,rfl,rfl,rfl⟩,hz.2.2.2.1,hz.2.2.2.2.1⟩,trivial⟩,by rw [hz.2.2.1,hy.2.2.1,HX1.out.2.2];exact zr _⟩,(H.empty (A:=zc zj 254 4 (.slice none 0 0) []) (qq _) (by rw [qW];rfl)).picks (.cons (A:=pA X3) pk (.cons (A:=blk b17 (.cells #[.pointer (some ⟨X.p,0,none⟩),.pointer (some ⟨X.p,0,none⟩),.bool false,.slice al nl cl,.int .i64 il,.int .u64 kl,.pointer (some ⟨X.p,0,none⟩),.bool true,.slice ar nr cr,.int .i64 ir,.int .u64 kr,.slice none 0 0] 250)) pk (.cons (A:=zc ze 265 8 (.slice al nl cl) fl) pk (.cons (A:=zc ze 265 8 (.slice ar nr cr) fr) pk (.cons (A:=zc zj 254 4 (.slice none 0 0) []) pk .nil)))))⟩
     case round =>
      clear H HYL HYR HX1;obtain ⟨m,lv,X1,cs,pl,fl,il,kl,pr,fr,ir,kr,mv,rs,d,e,M,rfl,hm,hlv,rfl,hI,hrel,H⟩:=hrel;have HLV:=zh hlv;have HI:=zh hI;have HREL:=zh hrel;have hlvb:lv<=25339:=(by omega);have HGA:Hid (∀ w,(((pA X1).sep ((blk b17 (.cells cs 250)).sep ((zc ze 265 8 pl fl).sep ((zc ze 265 8 pr fr).sep (zc zj 254 4 mv rs))))).sep deA).ho w->Calls zb 148 #[.pointer (some ⟨b17,0,none⟩),.int .i64 lv] w fun x w'=>∃ d1 e2 M2,GatR lv d e M d1 e2 M2∧jB X1 b17 ((pA X1).sep ((blk b17 (.cells cs 250)).sep ((zc ze 265 8 pl fl).sep ((zc ze 265 8 pr fr).sep (zc zj 254 4 mv rs))))).fp w (.tuple #[]) d1 e2 M2 x w'):=zh fun w h=>Vn HREL.out.2.1 HREL.out.2.2.1 HI.out HLV.out (by omega) HIN.out.cnt HIN.out.la HIN.out.lb w h
      clear hlv hI hrel;go_wp2_with (first|refine sL ?_|(refine sS ?_;clear H;intros;rename_i H)|(go_at_call 148;with_reducible refine zm (HGA.out _ ((St.join5 (H.pick5 (A:=pA X1) (B:=blk b17 (.cells cs 250)) (C:=zc ze 265 8 pl fl) (D:=zc ze 265 8 pr fr) (E:=zc zj 254 4 mv rs) pk pk pk pk pk)).sepK HK pk pk)) ?_;rintro e9 wc ⟨d2,e2,M2,hgr,X2,cs2,pl2,fl2,il2,kl2,pr2,fr2,ir2,kr2,mv2,rs2,rfl,y1,y2,y3,y4,hb⟩;have HY2:=zh (za hgr (za y1 (za y2 (za y3 y4))));clear hgr y1 y2 y3 y4;replace H:=zn ((St.join5 (H.pick5 (A:=pA X1) (B:=blk b17 (.cells cs 250)) (C:=zc ze 265 8 pl fl) (D:=zc ze 265 8 pr fr) (E:=zc zj 254 4 mv rs) pk pk pk pk pk)).call hb);clear hb));have hok:=HI.out.gat HIN.out.leaves (by have:=HY2.out.1;rwa [HLV.out] at this);have hme:=fun w h=>merge_c (b:=b17) HY2.out.2.2.1 HY2.out.2.2.2.2 hok HIN.out.ca.gd HIN.out.cb.gd HLV.out (by omega) ⟨HIN.out.cnt,by rw [Xh HIN.out.leaves];exact HIN.out.cnt⟩ HIN.out.la HIN.out.lb (by
       have h1:=hok.cnt;have h2:=HREL.out.2.2.2;have h3:=HIN.out.room;have h4:X2.S.most=X.S.most:=(HREL.out.1.trans HY2.out.2.1).le.1;have h5:X2.S=X1.S:=HY2.out.2.2.2.1;rw [h5] at h4 ⊢;omega) w h
      have HME:Hid (∀ w,(((pA X2).sep ((blk b17 (.cells cs2 250)).sep ((zc ze 265 8 pl2 fl2).sep ((zc ze 265 8 pr2 fr2).sep (zc zj 254 4 mv2 rs2))))).sep deA).ho w->Calls zb 149 #[.pointer (some ⟨b17,0,none⟩),.int .i64 lv] w fun x w'=>∃ (X':Px) (cs':Array Value) (pl':Value) (fl':List Fr) (il' kl':Nat) (pr':Value) (fr':List Fr) (ir' kr':Nat) (mv':Value) (rs':List ItR),x=.returned .nilIface∧X2.Ext X'∧zK X'∧SpIn X' cs' pl' fl' il' kl' pr' fr' ir' kr' mv' rs' (upT false lv d2) (upT true lv e2) (kB lv M2)∧X'.S.list.length+(zT (kB lv M2)).length<=X2.S.list.length+(zT M2).length∧St w ((pA X2).sep ((blk b17 (.cells cs2 250)).sep ((zc ze 265 8 pl2 fl2).sep ((zc ze 265 8 pr2 fr2).sep (zc zj 254 4 mv2 rs2))))).fp [pA X',blk b17 (.cells cs' 250),zc ze 265 8 pl' fl',zc ze 265 8 pr' fr',zc zj 254 4 mv' rs'] w'):=zh hme;have HOK:=zh hok;clear hok hme;go_at_call 149;with_reducible refine zm (HME.out _ ((St.join5 (H.pick5 (A:=pA X2) (B:=blk b17 (.cells cs2 250)) (C:=zc ze 265 8 pl2 fl2) (D:=zc ze 265 8 pr2 fr2) (E:=zc zj 254 4 mv2 rs2) pk pk pk pk pk)).sepK HK pk pk)) ?_;rintro e9 wc ⟨X3,cs3,pl3,fl3,il3,kl3,pr3,fr3,ir3,kr3,mv3,rs3,rfl,y1,y2,y4,y5,hb⟩;have HY3:=zh (za y1 (za y2 (za y4 y5)));clear y1 y2 y4 y5;replace H:=zn ((St.join5 (H.pick5 (A:=pA X2) (B:=blk b17 (.cells cs2 250)) (C:=zc ze 265 8 pl2 fl2) (D:=zc ze 265 8 pr2 fr2) (E:=zc zj 254 4 mv2 rs2) pk pk pk pk pk)).call hb);clear hb
      have HI3:Hid (SpI ta tb s i n (m+1) (upT false lv d2) (upT true lv e2) (kB lv M2)):=zh (HI.out.next (by have:=HY2.out.1.lev;rwa [HLV.out] at this ⊢));have HREL3:Hid (X.Ext X3∧zK X3∧SpIn X3 cs3 pl3 fl3 il3 kl3 pr3 fr3 ir3 kr3 mv3 rs3 (upT false lv d2) (upT true lv e2) (kB lv M2)∧X3.S.list.length+(xf s (m+1)).length<=X.S.list.length+s.length):=zh ⟨HREL.out.1.trans (HY2.out.2.1.trans HY3.out.1),HY3.out.2.1,HY3.out.2.2.1,by
       have h1:=HOK.out.gain;rw [← HLV.out] at h1 ⊢;have h2:=HREL.out.2.2.2;have h3:=HY3.out.2.2.2;have h5:X2.S=X1.S:=HY2.out.2.2.2.1;rw [h5] at h3;omega⟩
      have HEND:Hid (25339<=m+1->(upT false lv d2).2=none∧(upT true lv e2).2=none∧∃ T,kB lv M2=[⟨T,none,1⟩]):=zh fun q=>HI3.out.ends HIN.out.leaves HIN.out.ne HIN.out.len (by have:=HIN.out.cnt;omega) q HIN.out.la HIN.out.lb HIN.out.ia HIN.out.nb HIN.out.n1 HIN.out.n2
      have D4:=zh HREL3.out.2.2.1.c4;have D9:=zh HREL3.out.2.2.1.c9;have D11:=zh HREL3.out.2.2.1.c11;clear HGA HME HY2 HY3 HREL HI HOK;by_cases c1:il3=0
      ·by_cases c2:ir3=0
       ·by_cases c3:rs3.length=1
        ·obtain ⟨r3,hr3⟩:∃ r,rs3=[r]:=by
          match rs3,c3 with
          |[r],_=>exact ⟨r,rfl⟩
         subst hr3;obtain ⟨g3,c3',e5,_,_⟩:=q8 (H.get (A:=zc zj 254 4 mv3 [r3]) pk) (by simp);simp only [zw,zC] at e5;subst e5;have HR3:Hid (∀ w,(zc zj 254 4 (.slice (some ⟨g3,0,none⟩) 1 c3') [r3]).ho w->w.cell? ⟨g3,3,none⟩=some (.int .i64 r3.n)):=zh fun w h=>qj (i:=0) (j:=3) h q7 rfl rfl
         have HR0:Hid (∀ w,(zc zj 254 4 (.slice (some ⟨g3,0,none⟩) 1 c3') [r3]).ho w->w.cell? ⟨g3,0,none⟩=some (.int .i64 r3.id)):=zh fun w h=>qj (i:=0) (j:=0) h q7 rfl rfl
         subst c1 c2;by_cases c4:r3.n=1
         ·have e4:((r3.n:Int)==1)=true:=(by simp [c4]);have HFIN:Hid (IdIs X3.S r3.id s):=zh (by
           have h1:=HREL3.out.2.2.1;have h2:=h1.left.id_zero.1 rfl;have h3:=h1.right.id_zero.1 rfl;obtain ⟨ix,hx⟩:∃ ix,kB lv M2=[ix]:=by
            have:=h1.its.len
            match hq:kB lv M2,this with
            |[ix],_=>exact ⟨ix,rfl⟩
            |[],h=>simp at h
            |_::_::_,h=>simp at h
           have h4:=h1.its;have h5:=HI3.out;rw [hx] at h4 h5;have h6:=h4.1.n;obtain ⟨xt,xn,xc⟩:=ix;simp only at h6;rw [c4] at h6;subst h6;obtain ⟨q1,q2,_⟩:=h5.done (k:=0) HIN.out.leaves h2 h3;exact .inr ⟨xt,h4.1.den,q1,q2⟩)
          go_wp2_with (first|refine sL ?_|(refine sS ?_;clear H;intros;rename_i H));go_ret2;exact ⟨X3,r3.id,rfl,HREL3.out.1,HREL3.out.2.1,by rw [HSS.out];exact HFIN.out,by rw [HSS.out];have:=HREL3.out.2.2.2;omega,H.picks (.cons pk .nil)⟩
         ·have e4:((r3.n:Int)==1)=false:=(by simp;omega);have HND:Hid (m+1<25339):=zh (by
           refine vD fun q=>?_
           obtain ⟨_,_,TT,hT⟩:=HEND.out q;have h4:=HREL3.out.2.2.1.its;rw [hT] at h4;exact c4 h4.1.n)
          go_wp2_with (first|refine sL ?_|(refine sS ?_;clear H;intros;rename_i H));go_roundg (25340-(m+1));case measure=>omega
          case rel=>exact ⟨m+1,lv+1,X3,cs3,pl3,fl3,0,kl3,pr3,fr3,0,kr3,(.slice (some ⟨g3,0,none⟩) 1 c3'),[r3],_,_,_,rfl,HND.out,by rw [HLV.out],by simp,HI3.out,HREL3.out,H.picks (.cons pk (.cons pk (.cons pk (.cons pk (.cons pk .nil)))))⟩
        ·obtain ⟨a3,c3',e5,_⟩:=zE (H.get (A:=zc zj 254 4 mv3 rs3) pk);obtain ⟨n3,hn3⟩:∃ n,rs3.length=n:=⟨_,rfl⟩
         rw [hn3] at e5 c3;subst e5;have e4:((n3:Int)==1)=false:=(by simp;omega);have hn3b:n3<=1048576:=by
          have h1:=HREL3.out.2.2.1.its.len;have h2:=HI3.out.zero.cnt;have h3:=HIN.out.cnt;omega
         have HND:Hid (m+1<25339):=zh (by
          refine vD fun q=>?_
          obtain ⟨_,_,TT,hT⟩:=HEND.out q;have h4:=HREL3.out.2.2.1.its.len;rw [hT,hn3] at h4;exact c3 h4)
         subst c1 c2;go_wp2_with (first|refine sL ?_|(refine sS ?_;clear H;intros;rename_i H));go_roundg (25340-(m+1));case measure=>omega
         case rel=>exact ⟨m+1,lv+1,X3,cs3,pl3,fl3,0,kl3,pr3,fr3,0,kr3,(.slice a3 n3 c3'),rs3,_,_,_,rfl,HND.out,by rw [HLV.out],by simp,HI3.out,HREL3.out,H.picks (.cons pk (.cons pk (.cons pk (.cons pk (.cons pk .nil)))))⟩
       ·have e4:((ir3:Int)==0)=false:=(by simp;omega);have HND:Hid (m+1<25339):=zh (by
         refine vD fun q=>?_
         exact c2 (HREL3.out.2.2.1.right.id_zero.2 (HEND.out q).2.1))
        subst c1;go_wp2_with (first|refine sL ?_|(refine sS ?_;clear H;intros;rename_i H));go_roundg (25340-(m+1));case measure=>omega
        case rel=>exact ⟨m+1,lv+1,X3,cs3,pl3,fl3,0,kl3,pr3,fr3,ir3,kr3,mv3,rs3,_,_,_,rfl,HND.out,by rw [HLV.out],by simp,HI3.out,HREL3.out,H.picks (.cons pk (.cons pk (.cons pk (.cons pk (.cons pk .nil)))))⟩
      ·have e4:((il3:Int)==0)=false:=(by simp;omega);have HND:Hid (m+1<25339):=zh (by
        refine vD fun q=>?_
        exact c1 (HREL3.out.2.2.1.left.id_zero.2 (HEND.out q).1))
       go_wp2_with (first|refine sL ?_|(refine sS ?_;clear H;intros;rename_i H));go_roundg (25340-(m+1));case measure=>omega
       case rel=>exact ⟨m+1,lv+1,X3,cs3,pl3,fl3,il3,kl3,pr3,fr3,ir3,kr3,mv3,rs3,_,_,_,rfl,HND.out,by rw [HLV.out],by simp,HI3.out,HREL3.out,H.picks (.cons pk (.cons pk (.cons pk (.cons pk (.cons pk .nil)))))⟩):P:=h
end
end Go.Proofs.YtgnppnokkdghcaaGreatDoor
