/-
  Part 8 of the texts behind the statements of this seat: walks and laws Cz, Fa, Da, Db, Dc. Conditions: as each states.
-/
import Derived.Test.YtgnppnokkdghcaaGreatDoorAk7
set_option linter.unusedSimpArgs false
set_option linter.unusedVariables false
set_option maxRecDepth 100000
set_option maxHeartbeats 80000000
open Go.Proofs.Tryz renaming prog→z9
open List renaming append_nil→qO,cons_append→zl,drop_eq_getElem_cons→ym,drop_of_length_le→yq,drop_succ_cons→wL,drop_zero→yx,eq_nil_of_length_eq_zero→qg,flatMap_append→zI,flatMap_cons→zu,flatMap_nil→wR,flatMap_replicate→jc,getElem?_cons_succ→yO,getElem?_cons_zero→Qc,length_cons→zw,length_nil→zA,map_cons→q7,map_nil→yh,mem_append→zk,mem_of_getElem?→zv,mem_replicate→kJ,nil_append→zr,replicate→zc,take_of_length_le→qq,take_zero→jB
open Nat renaming le_refl→zt,lt_of_not_le→vI,zero_add→qT
open Option renaming some→yn
namespace Go.Proofs.YtgnppnokkdghcaaGreatDoor
section
open Go.RowKit Go.Maps
attribute [local go_sem] qw
def SpRel (X:Px) (b17:Nat) (ta tb:Tr) (s:List Tr) (i n:Nat) (N:List Nat) (w:World) (mm:Nat) (v18:Value) (wr:World):Prop :=
 ∃ (m lv:Nat) (X1:Px) (cs:Array Value) (pl:Value) (fl:List Fr) (il kl:Nat) (pr:Value) (fr:List Fr) (ir kr:Nat) (mv:Value) (rs:List ItR) (d e:qK) (M:List It),mm=25340-m∧m<25339∧lv=m+1∧v18=.int .i64 lv∧SpI ta tb s i n m d e M∧(X.Ext X1∧zL X1∧SpIn X1 cs pl fl il kl pr fr ir kr mv rs d e M∧X1.S.list.length+(xg s m).length<=X.S.list.length+s.length)∧St w N [pA X1,blk b17 (.cells cs 250),zb zd 265 8 pl fl,zb zd 265 8 pr fr,zb zi 254 4 mv rs] wr
def TopRel (X:Px) (N:List Nat) (w:World) (mm:Nat) (v23:Value) (wr:World):Prop :=
 ∃ (X1:Px),((v23=.int .i64 0∧mm=2)∨(v23=.int .i64 1∧mm=1)∨(v23=.int .i64 2∧mm=0))∧(X.Ext X1∧zL X1∧X1.S=X.S)∧St w N [pA X1] wr
structure SplIn (X:Px) (ta tb:Tr) (s:List Tr) (a b i n:Nat):Prop where
 ca:Canon ta
 cb:Canon tb
 la:ta.lv<=25339
 lb:tb.lv<=25339
 ia:i<=(ta.lay 0).length
 nb:n<=(tb.lay 0).length
 da:1<=i->Den X.S a ta
 db:1<=n->Den X.S b tb
 leaves:xo s
 ne:s≠[]
 len:s.length=i+n
 cnt:s.length<=1048576
 room:X.S.list.length+s.length<=X.S.most
 n1:¬ (i=0∧n=(tb.lay 0).length)
 n2:¬ (n=0∧i=(ta.lay 0).length)
 start:∀ d e,EndL ta 0 d ((ta.lay 0).take i)->EndR tb 0 e ((tb.lay 0).drop (tb.len-n))->SpI ta tb s i n 0 d e []
theorem KN {P:Prop} (h:P:=by
 rw [qx] at h;obtain ⟨k1,k2,hdd⟩:=h;have H:=St.one k1;have HK:Ks w (pA X).fp [deA]:=⟨by simpa using k2,by simpa using fun b hb hm=>hdd b hm hb⟩
 generalize (pA X).fp=N at *;have HCS:=zh hc;clear k1 k2 hdd hc;obtain ⟨s,hs⟩:∃ s,sa.take i++sb.drop j=s:=⟨_,rfl⟩
 have HSS:=zh hs;rw [hs] at hl hroom;have hsl:s.length=i+(sb.length-j):=(by rw [← hs];simp;omega);obtain ⟨n,hn⟩:∃ n,sb.length-j=n:=⟨_,rfl⟩
 rw [hn] at hsl;obtain ⟨la,hla,htpa⟩:=Yg hX ha;obtain ⟨lb,hlb,htpb⟩:=Yg hX hb;have HTA:=zh htpa;have HTB:=zh htpb;have d1:decide ((32768:Int)<(la:Int))=false:=(by simp;omega);have d2:decide (32768<la)=false:=(by simp;omega);have d3:decide ((32768:Int)<(lb:Int))=false:=(by simp;omega);have d4:decide (32768<lb)=false:=(by simp;omega);have hal:=ha.len hX.ok;have hbl:=hb.len hX.ok;obtain ⟨na,hna⟩:∃ n,sa.length=n:=⟨_,rfl⟩
 obtain ⟨nb,hnb⟩:∃ n,sb.length=n:=⟨_,rfl⟩
 have i1:(nb:Int)-(j:Int)=(n:Nat):=(by omega);have hnab:na<=1152921504606846976∧nb<=1152921504606846976∧j<=nb∧i<=na∧n<=nb:=(by omega);have HSA0:Hid (∀ X1:Px,X.Ext X1->zL X1->X1.S=X.S->∀ w,(pA X1).ho w->Calls z9 92 #[.pointer (some ⟨X.p,0,none⟩),.int .i64 a] w fun e w'=>e=.returned (.int .i64 (na:Nat))∧St w [] [] w'):=zh fun X1 q1 q2 q3 w h=>by have:=vh q2 (by rw [q3];exact ha) w h;rwa [q1.p,hna] at this
 have HSB0:Hid (∀ X1:Px,X.Ext X1->zL X1->X1.S=X.S->∀ w,(pA X1).ho w->Calls z9 92 #[.pointer (some ⟨X.p,0,none⟩),.int .i64 b] w fun e w'=>e=.returned (.int .i64 (nb:Nat))∧St w [] [] w'):=zh fun X1 q1 q2 q3 w h=>by have:=vh q2 (by rw [q3];exact hb) w h;rwa [q1.p,hnb] at this
 obtain ⟨ta,t1,t2,t3,t4,t5,t6⟩:=side_left hX.ok ha hi;obtain ⟨tb,j',u1,u2,u3,u4,u5,u6,u7⟩:=side_right hX.ok hb hj;rw [hn] at u4 u6 u7;have hlvs:xo s:=by
  rw [← hs];intro t ht;rcases zk.1 ht with ht|ht
  ·exact ha.leaves t (List.mem_of_mem_take ht)
  ·exact hb.leaves t (List.mem_of_mem_drop ht)
 have hin:¬ (i=0∧j=0)->¬ (n=0∧i=na)->¬ (i=0∧n=0)->SplIn X ta tb s a b i n:=fun q1 q2 q3=>⟨t1,u1,t2,u2,t3,by omega,t5,u6,hlvs,fun e=>q3 (by rw [e] at hsl;simp at hsl;omega),hsl,hl,hroom,fun q=>q1 ⟨q.1,u7 q.2⟩,fun q=>q2 ⟨q.1,by rw [← hna];exact t6 q.2⟩,fun d e h1 h2=>by
  have h3:tb.len-n=j':=(by rw [← xP u1.gd];omega);rw [h3] at h2;have h4:=SpI.start t1 u1 h1 h2;rw [t4,u5,hs,u4] at h4;exact h4⟩
 have HIB:Hid (IdIs X.S a sa∧IdIs X.S b sb∧sa.length=na∧sb.length=nb):=zh ⟨ha,hb,hna,hnb⟩;have HXX:=zh hX;have hs2:=hs;clear hs t1 t2 t3 t4 t5 t6 u1 u2 u3 u4 u5 u6 u7 hlvs hX ha hb hi hj hla hlb htpa htpb hal hbl hna hnb hn hsl hs2 hroom hl;have hix0:∀ wr:World,(Instr.index 226 (.agg #[.int .i64 a,.int .i64 b]) (.int .i64 0)).run z9 wr=.ok (.int .i64 a) wr:=fun wr=>by kernel_rfl
 have hix1:∀ wr:World,(Instr.index 226 (.agg #[.int .i64 a,.int .i64 b]) (.int .i64 1)).run z9 wr=.ok (.int .i64 b) wr:=fun wr=>by kernel_rfl
 go_enter Tryz.func123,Tryz.ntmps123;go_wp2_with (first|refine sL ?_|(refine sS ?_;clear H;intros;rename_i H));go_loopg [23] 2 (fun mm v23 wr=>TopRel X N w mm v23 wr);case atStart=>exact ⟨X,.inl ⟨rfl,rfl⟩,⟨.refl _,HXX.out,rfl⟩,H.picks (.cons pk .nil)⟩
 case round =>
  clear H;obtain ⟨X1,hk,hx1,H⟩:=hrel;have HX1:=zh hx1;clear hx1;rcases hk with ⟨rfl,rfl⟩|⟨rfl,rfl⟩|⟨rfl,rfl⟩
  ·go_wp2_with (first|refine sL ?_|(refine sS ?_;clear H;intros;rename_i H)|(go_at_call 91;with_reducible refine zm (HTA.out X1 _ HX1.out.1 HX1.out.2.1 HX1.out.2.2 (H.sepK HK pk pk)) ?_;rintro e9 wc ⟨X2,y1,y2,y3,rfl,hb⟩;have HY:=zh (za y1 (za y2 y3));clear y1 y2 y3;replace H:=zn ((H.pick pk).call hb);clear hb));go_roundg 1;case measure=>omega
   case rel=>exact ⟨X2,.inr (.inl ⟨rfl,rfl⟩),⟨HX1.out.1.trans HY.out.1,HY.out.2.1,HY.out.2.2.trans HX1.out.2.2⟩,H.picks (.cons pk .nil)⟩
  ·go_wp2_with (first|refine sL ?_|(refine sS ?_;clear H;intros;rename_i H)|(go_at_call 91;with_reducible refine zm (HTB.out X1 _ HX1.out.1 HX1.out.2.1 HX1.out.2.2 (H.sepK HK pk pk)) ?_;rintro e9 wc ⟨X2,y1,y2,y3,rfl,hb⟩;have HY:=zh (za y1 (za y2 y3));clear y1 y2 y3;replace H:=zn ((H.pick pk).call hb);clear hb));go_roundg 0;case measure=>omega
   case rel=>exact ⟨X2,.inr (.inr ⟨rfl,rfl⟩),⟨HX1.out.1.trans HY.out.1,HY.out.2.1,HY.out.2.2.trans HX1.out.2.2⟩,H.picks (.cons pk .nil)⟩
  ·have HSA:=zh (HSA0.out X1 HX1.out.1 HX1.out.2.1 HX1.out.2.2);have HSB:=zh (HSB0.out X1 HX1.out.1 HX1.out.2.1 HX1.out.2.2);clear HSA0 HSB0 HTA HTB d1 d2 d3 d4 hix0 hix1;by_cases hi0:i=0
   case' pos =>
    by_cases hj0:j=0
    case pos =>
     subst hi0 hj0;clear hin;go_wp2_with (first|refine sL ?_|(refine sS ?_;clear H;intros;rename_i H)|(go_at_call 92;(first|(with_reducible refine zm (HSB.out _ (H.get pk)) ?_)|(with_reducible refine zm (HSA.out _ (H.get pk)) ?_));rintro e9 wc ⟨rfl,hb⟩;replace H:=H.grew hb.below;clear hb));go_ret2;exact ⟨X1,b,rfl,HX1.out.1,HX1.out.2.1,by rw [HX1.out.2.2];simpa using HIB.out.2.1,by rw [HX1.out.2.2];omega,H.picks (.cons pk .nil)⟩
    have e1:((j:Int)==0)=false:=(by simp;omega);by_cases hn0:n=0
    case pos =>
     by_cases hia:i=na
     ·subst hi0 hn0;subst hia;have e2:=HIB.out.2.2.1;clear hin;go_wp2_with (first|refine sL ?_|(refine sS ?_;clear H;intros;rename_i H)|(go_at_call 92;(first|(with_reducible refine zm (HSB.out _ (H.get pk)) ?_)|(with_reducible refine zm (HSA.out _ (H.get pk)) ?_));rintro e9 wc ⟨rfl,hb⟩;replace H:=H.grew hb.below;clear hb));go_ret2;exact ⟨X1,a,rfl,HX1.out.1,HX1.out.2.1,by rw [HX1.out.2.2];have h1:=HSS.out;have h2:sb.drop j=[]:=yq (by have:=HIB.out.2.2.2;omega);have h3:=HIB.out.1;have h4:sa=[]:=qg e2;rw [h2,h4];rw [h4] at h3;simpa using h3,by rw [HX1.out.2.2];omega,H.picks (.cons pk .nil)⟩
     ·subst hi0 hn0;have e2:(0:Int)≠(na:Int):=(by omega);have e3:((0:Int)==(na:Int))=false:=(by simp;omega);clear hin;go_wp2_with (first|refine sL ?_|(refine sS ?_;clear H;intros;rename_i H)|(go_at_call 92;(first|(with_reducible refine zm (HSB.out _ (H.get pk)) ?_)|(with_reducible refine zm (HSA.out _ (H.get pk)) ?_));rintro e9 wc ⟨rfl,hb⟩;replace H:=H.grew hb.below;clear hb));go_ret2;exact ⟨X1,0,rfl,HX1.out.1,HX1.out.2.1,by rw [show sa.take 0++sb.drop j=[] by rw [yq (by have:=HIB.out.2.2.2;omega)];simp];exact .inl ⟨rfl,rfl⟩,by rw [HX1.out.2.2];omega,H.picks (.cons pk .nil)⟩
    have e0:((i:Int)==0)=true:=(by simp [hi0]);have e2:((n:Int)==0)=false:=(by simp;omega);have HIN:=zh (hin (by omega) (by omega) (by omega));have HBR:=zh (za hi0 (za hj0 hn0));clear hin hi0 hn0 hj0
   case' neg =>
    have e1:((i:Int)==0)=false:=(by simp;omega);by_cases hn0:n=0
    case' pos =>
     by_cases hia:i=na
     case pos =>
      subst hn0;subst hia;clear hin;go_wp2_with (first|refine sL ?_|(refine sS ?_;clear H;intros;rename_i H)|(go_at_call 92;(first|(with_reducible refine zm (HSB.out _ (H.get pk)) ?_)|(with_reducible refine zm (HSA.out _ (H.get pk)) ?_));rintro e9 wc ⟨rfl,hb⟩;replace H:=H.grew hb.below;clear hb));go_ret2;exact ⟨X1,a,rfl,HX1.out.1,HX1.out.2.1,by rw [HX1.out.2.2];rw [qq (by have:=HIB.out.2.2.1;omega),yq (by have:=HIB.out.2.2.2;omega),qO];exact HIB.out.1,by rw [HX1.out.2.2];omega,H.picks (.cons pk .nil)⟩
     have e0:((n:Int)==0)=true:=(by simp [hn0]);have e3:((i:Int)==(na:Int))=false:=(by simp;omega);have HIN:=zh (hin (by omega) (by omega) (by omega));have HBR:=zh (za hi0 (za hia hn0));clear hin hi0 hn0 hia
    case' neg =>
     have e2:((n:Int)==0)=false:=(by simp;omega);have HIN:=zh (hin (by omega) (by omega) (by omega));have HBR:=zh (za hi0 hn0);clear hin hi0 hn0
   all_goals
    first
    |exfalso;have h6:=HBR.out;have h9:=HCS.out;have h8:=HIB.out.2.2.1;have h7:=HIB.out.2.2.2;omega
    |skip
     have HN1:Hid (∀ w,((pA X1).sep deA).ho w->Calls z9 147 #[.pointer (some ⟨X.p,0,none⟩),.int .i64 a,.int .i64 (i:Nat),.bool false] w (fun e w'=>∃ (X':Px) (pv':Value) (fs':List Fr) (id' ky':Nat) (d:qK),e=.returned (.agg #[.pointer (some ⟨X.p,0,none⟩),.bool false,pv',.int .i64 id',.int .u64 ky'])∧X1.Ext X'∧zL X'∧X'.S=X1.S∧PathOf X'.S false d.1 fs'∧(match d.2 with|some x=>Den X'.S id' x∧ky'=x.key|none=>id'=0∧ky'=0)∧(false=false->EndL ta 0 d ((ta.lay 0).take i))∧(false=true->EndR ta 0 d ((ta.lay 0).drop (ta.len-i)))∧St w (pA X1).fp [pA X',zb zd 265 8 pv' fs'] w')):=zh fun w h=>by
      have:=Zm (bk:=false) HX1.out.2.1 (fun q=>by rw [HX1.out.2.2];exact HIN.out.da q) HIN.out.ca.gd HIN.out.la HIN.out.ia w h;rw [HX1.out.1.p] at this;refine this.mono ?_;rintro e w' ⟨X',pv',fs',id',ky',d,rfl,q⟩;exact ⟨X',pv',fs',id',ky',d,by rw [HX1.out.1.p],q⟩
     have HN2:Hid (∀ X2:Px,X1.Ext X2->zL X2->X2.S=X1.S->∀ w,((pA X2).sep deA).ho w->Calls z9 147 #[.pointer (some ⟨X.p,0,none⟩),.int .i64 b,.int .i64 (n:Nat),.bool true] w (fun e w'=>∃ (X':Px) (pv':Value) (fs':List Fr) (id' ky':Nat) (d:qK),e=.returned (.agg #[.pointer (some ⟨X.p,0,none⟩),.bool true,pv',.int .i64 id',.int .u64 ky'])∧X2.Ext X'∧zL X'∧X'.S=X2.S∧PathOf X'.S true d.1 fs'∧(match d.2 with|some x=>Den X'.S id' x∧ky'=x.key|none=>id'=0∧ky'=0)∧(true=false->EndL tb 0 d ((tb.lay 0).take n))∧(true=true->EndR tb 0 d ((tb.lay 0).drop (tb.len-n)))∧St w (pA X2).fp [pA X',zb zd 265 8 pv' fs'] w')):=zh fun X2 q1 q2 q3 w h=>by
      have:=Zm (bk:=true) q2 (fun q=>by rw [q3,HX1.out.2.2];exact HIN.out.db q) HIN.out.cb.gd HIN.out.lb HIN.out.nb w h;rw [(HX1.out.1.trans q1).p] at this;refine this.mono ?_;rintro e w' ⟨X',pv',fs',id',ky',d,rfl,q⟩;exact ⟨X',pv',fs',id',ky',d,by rw [(HX1.out.1.trans q1).p],q⟩
     go_wp2_with (first|refine sL ?_|(refine sS ?_;clear H;intros;rename_i H)|(go_at_call 92;(first|(with_reducible refine zm (HSB.out _ (H.get pk)) ?_)|(with_reducible refine zm (HSA.out _ (H.get pk)) ?_));rintro e9 wc ⟨rfl,hb⟩;replace H:=H.grew hb.below;clear hb)|(first|(go_at_call 147;with_reducible refine zm (HN1.out _ (H.sepK HK pk pk)) ?_;rintro e9 wc ⟨X2,pl,fl,il,kl,dl,rfl,y1,y2,y3,y4,y5,y6,y7,hb⟩;have HYL:=zh (za y1 (za y2 (za y3 (za y4 (za y5 (za y6 y7))))));clear y1 y2 y3 y4 y5 y6 y7;replace H:=zn ((H.pick pk).call hb);clear hb;obtain ⟨al,cl,e8,_⟩:=zE (H.get (A:=zb zd 265 8 pl fl) pk);obtain ⟨nl,e7⟩:∃ l,fl.length=l:=⟨_,rfl⟩;rw [e7] at e8;clear e7;subst e8)|(go_at_call 147;with_reducible refine zm (HN2.out X2 HYL.out.1 HYL.out.2.1 HYL.out.2.2.1 _ (H.sepK HK pk pk)) ?_;rintro e9 wc ⟨X3,pr,fr,ir,kr,dr,rfl,y1,y2,y3,y4,y5,y6,y7,hb⟩;have HYR:=zh (za y1 (za y2 (za y3 (za y4 (za y5 (za y6 y7))))));clear y1 y2 y3 y4 y5 y6 y7;replace H:=zn ((H.pick pk).call hb);clear hb;obtain ⟨ar,cr,e8,_⟩:=zE (H.get (A:=zb zd 265 8 pr fr) pk);obtain ⟨nr,e7⟩:∃ l,fr.length=l:=⟨_,rfl⟩;rw [e7] at e8;clear e7;subst e8)));rename_i b17 _ _;go_loopg [18] 25340 (fun mm v18 wr=>SpRel X b17 ta tb s i n N w mm v18 wr);case atStart =>
      have hy:=HYL.out;have hz:=HYR.out;exact ⟨0,1,X3,#[.pointer (some ⟨X.p,0,none⟩),.pointer (some ⟨X.p,0,none⟩),.bool false,.slice al nl cl,.int .i64 il,.int .u64 kl,.pointer (some ⟨X.p,0,none⟩),.bool true,.slice ar nr cr,.int .i64 ir,.int .u64 kr,.slice none 0 0],.slice al nl cl,fl,il,kl,.slice ar nr cr,fr,ir,kr,.slice none 0 0,[],dl,dr,[],rfl,by omega,rfl,rfl,HIN.out.start dl dr (hy.2.2.2.2.2.1 (by first|rfl|trivial)) (hz.2.2.2.2.2.2 (by first|rfl|trivial)),⟨HX1.out.1.trans (hy.1.trans hz.1),hz.2.1,⟨rfl,by rw [(HX1.out.1.trans (hy.1.trans hz.1)).p];rfl,rfl,⟨⟨by simp,by rw [(HX1.out.1.trans (hy.1.trans hz.1)).p];rfl,rfl,rfl,rfl,rfl⟩,by rw [hz.2.2.1];exact hy.2.2.2.1,by rw [hz.2.2.1];exact hy.2.2.2.2.1⟩,⟨⟨by simp,by rw [(HX1.out.1.trans (hy.1.trans hz.1)).p];rfl,rfl,rfl,rfl,rfl⟩,hz.2.2.2.1,hz.2.2.2.2.1⟩,trivial⟩,by rw [hz.2.2.1,hy.2.2.1,HX1.out.2.2];exact zt _⟩,(H.empty (A:=zb zi 254 4 (.slice none 0 0) []) (qp _) (by rw [qX];rfl)).picks (.cons (A:=pA X3) pk (.cons (A:=blk b17 (.cells #[.pointer (some ⟨X.p,0,none⟩),.pointer (some ⟨X.p,0,none⟩),.bool false,.slice al nl cl,.int .i64 il,.int .u64 kl,.pointer (some ⟨X.p,0,none⟩),.bool true,.slice ar nr cr,.int .i64 ir,.int .u64 kr,.slice none 0 0] 250)) pk (.cons (A:=zb zd 265 8 (.slice al nl cl) fl) pk (.cons (A:=zb zd 265 8 (.slice ar nr cr) fr) pk (.cons (A:=zb zi 254 4 (.slice none 0 0) []) pk .nil)))))⟩
     case round =>
      clear H HYL HYR HX1;obtain ⟨m,lv,X1,cs,pl,fl,il,kl,pr,fr,ir,kr,mv,rs,d,e,M,rfl,hm,hlv,rfl,hI,hrel,H⟩:=hrel;have HLV:=zh hlv;have HI:=zh hI;have HREL:=zh hrel;have hlvb:lv<=25339:=(by omega);have HGA:Hid (∀ w,(((pA X1).sep ((blk b17 (.cells cs 250)).sep ((zb zd 265 8 pl fl).sep ((zb zd 265 8 pr fr).sep (zb zi 254 4 mv rs))))).sep deA).ho w->Calls z9 148 #[.pointer (some ⟨b17,0,none⟩),.int .i64 lv] w fun x w'=>∃ d1 e2 M2,GatR lv d e M d1 e2 M2∧jC X1 b17 ((pA X1).sep ((blk b17 (.cells cs 250)).sep ((zb zd 265 8 pl fl).sep ((zb zd 265 8 pr fr).sep (zb zi 254 4 mv rs))))).fp w (.tuple #[]) d1 e2 M2 x w'):=zh fun w h=>Vk HREL.out.2.1 HREL.out.2.2.1 HI.out HLV.out (by omega) HIN.out.cnt HIN.out.la HIN.out.lb w h
      clear hlv hI hrel;go_wp2_with (first|refine sL ?_|(refine sS ?_;clear H;intros;rename_i H)|(go_at_call 148;with_reducible refine zm (HGA.out _ ((St.join5 (H.pick5 (A:=pA X1) (B:=blk b17 (.cells cs 250)) (C:=zb zd 265 8 pl fl) (D:=zb zd 265 8 pr fr) (E:=zb zi 254 4 mv rs) pk pk pk pk pk)).sepK HK pk pk)) ?_;rintro e9 wc ⟨d2,e2,M2,hgr,X2,cs2,pl2,fl2,il2,kl2,pr2,fr2,ir2,kr2,mv2,rs2,rfl,y1,y2,y3,y4,hb⟩;have HY2:=zh (za hgr (za y1 (za y2 (za y3 y4))));clear hgr y1 y2 y3 y4;replace H:=zn ((St.join5 (H.pick5 (A:=pA X1) (B:=blk b17 (.cells cs 250)) (C:=zb zd 265 8 pl fl) (D:=zb zd 265 8 pr fr) (E:=zb zi 254 4 mv rs) pk pk pk pk pk)).call hb);clear hb));have hok:=HI.out.gat HIN.out.leaves (by have:=HY2.out.1;rwa [HLV.out] at this);have hme:=fun w h=>merge_c (b:=b17) HY2.out.2.2.1 HY2.out.2.2.2.2 hok HIN.out.ca.gd HIN.out.cb.gd HLV.out (by omega) ⟨HIN.out.cnt,by rw [Xh HIN.out.leaves];exact HIN.out.cnt⟩ HIN.out.la HIN.out.lb (by
       have h1:=hok.cnt;have h2:=HREL.out.2.2.2;have h3:=HIN.out.room;have h4:X2.S.most=X.S.most:=(HREL.out.1.trans HY2.out.2.1).le.1;have h5:X2.S=X1.S:=HY2.out.2.2.2.1;rw [h5] at h4 ⊢;omega) w h
      have HME:Hid (∀ w,(((pA X2).sep ((blk b17 (.cells cs2 250)).sep ((zb zd 265 8 pl2 fl2).sep ((zb zd 265 8 pr2 fr2).sep (zb zi 254 4 mv2 rs2))))).sep deA).ho w->Calls z9 149 #[.pointer (some ⟨b17,0,none⟩),.int .i64 lv] w fun x w'=>∃ (X':Px) (cs':Array Value) (pl':Value) (fl':List Fr) (il' kl':Nat) (pr':Value) (fr':List Fr) (ir' kr':Nat) (mv':Value) (rs':List ItR),x=.returned .nilIface∧X2.Ext X'∧zL X'∧SpIn X' cs' pl' fl' il' kl' pr' fr' ir' kr' mv' rs' (upT false lv d2) (upT true lv e2) (kE lv M2)∧X'.S.list.length+(zV (kE lv M2)).length<=X2.S.list.length+(zV M2).length∧St w ((pA X2).sep ((blk b17 (.cells cs2 250)).sep ((zb zd 265 8 pl2 fl2).sep ((zb zd 265 8 pr2 fr2).sep (zb zi 254 4 mv2 rs2))))).fp [pA X',blk b17 (.cells cs' 250),zb zd 265 8 pl' fl',zb zd 265 8 pr' fr',zb zi 254 4 mv' rs'] w'):=zh hme;have HOK:=zh hok;clear hok hme;go_at_call 149;with_reducible refine zm (HME.out _ ((St.join5 (H.pick5 (A:=pA X2) (B:=blk b17 (.cells cs2 250)) (C:=zb zd 265 8 pl2 fl2) (D:=zb zd 265 8 pr2 fr2) (E:=zb zi 254 4 mv2 rs2) pk pk pk pk pk)).sepK HK pk pk)) ?_;rintro e9 wc ⟨X3,cs3,pl3,fl3,il3,kl3,pr3,fr3,ir3,kr3,mv3,rs3,rfl,y1,y2,y4,y5,hb⟩;have HY3:=zh (za y1 (za y2 (za y4 y5)));clear y1 y2 y4 y5;replace H:=zn ((St.join5 (H.pick5 (A:=pA X2) (B:=blk b17 (.cells cs2 250)) (C:=zb zd 265 8 pl2 fl2) (D:=zb zd 265 8 pr2 fr2) (E:=zb zi 254 4 mv2 rs2) pk pk pk pk pk)).call hb);clear hb
      have HI3:Hid (SpI ta tb s i n (m+1) (upT false lv d2) (upT true lv e2) (kE lv M2)):=zh (HI.out.next (by have:=HY2.out.1.lev;rwa [HLV.out] at this ⊢));have HREL3:Hid (X.Ext X3∧zL X3∧SpIn X3 cs3 pl3 fl3 il3 kl3 pr3 fr3 ir3 kr3 mv3 rs3 (upT false lv d2) (upT true lv e2) (kE lv M2)∧X3.S.list.length+(xg s (m+1)).length<=X.S.list.length+s.length):=zh ⟨HREL.out.1.trans (HY2.out.2.1.trans HY3.out.1),HY3.out.2.1,HY3.out.2.2.1,by
       have h1:=HOK.out.gain;rw [← HLV.out] at h1 ⊢;have h2:=HREL.out.2.2.2;have h3:=HY3.out.2.2.2;have h5:X2.S=X1.S:=HY2.out.2.2.2.1;rw [h5] at h3;omega⟩
      have HEND:Hid (25339<=m+1->(upT false lv d2).2=none∧(upT true lv e2).2=none∧∃ T,kE lv M2=[⟨T,none,1⟩]):=zh fun q=>HI3.out.ends HIN.out.leaves HIN.out.ne HIN.out.len (by have:=HIN.out.cnt;omega) q HIN.out.la HIN.out.lb HIN.out.ia HIN.out.nb HIN.out.n1 HIN.out.n2
      have D4:=zh HREL3.out.2.2.1.c4;have D9:=zh HREL3.out.2.2.1.c9;have D11:=zh HREL3.out.2.2.1.c11;clear HGA HME HY2 HY3 HREL HI HOK;by_cases c1:il3=0
      ·by_cases c2:ir3=0
       ·by_cases c3:rs3.length=1
        ·obtain ⟨r3,hr3⟩:∃ r,rs3=[r]:=by
          match rs3,c3 with
          |[r],_=>exact ⟨r,rfl⟩
         subst hr3;obtain ⟨g3,c3',e5,_,_⟩:=zZ (H.get (A:=zb zi 254 4 mv3 [r3]) pk) (by simp);simp only [zw,zA] at e5;subst e5;have HR3:Hid (∀ w,(zb zi 254 4 (.slice (some ⟨g3,0,none⟩) 1 c3') [r3]).ho w->w.cell? ⟨g3,3,none⟩=some (.int .i64 r3.n)):=zh fun w h=>zU (i:=0) (j:=3) h qb rfl rfl
         have HR0:Hid (∀ w,(zb zi 254 4 (.slice (some ⟨g3,0,none⟩) 1 c3') [r3]).ho w->w.cell? ⟨g3,0,none⟩=some (.int .i64 r3.id)):=zh fun w h=>zU (i:=0) (j:=0) h qb rfl rfl
         subst c1 c2;by_cases c4:r3.n=1
         ·have e4:((r3.n:Int)==1)=true:=(by simp [c4]);have HFIN:Hid (IdIs X3.S r3.id s):=zh (by
           have h1:=HREL3.out.2.2.1;have h2:=h1.left.id_zero.1 rfl;have h3:=h1.right.id_zero.1 rfl;obtain ⟨ix,hx⟩:∃ ix,kE lv M2=[ix]:=by
            have:=h1.its.len
            match hq:kE lv M2,this with
            |[ix],_=>exact ⟨ix,rfl⟩
            |[],h=>simp at h
            |_::_::_,h=>simp at h
           have h4:=h1.its;have h5:=HI3.out;rw [hx] at h4 h5;have h6:=h4.1.n;obtain ⟨xt,xn,xc⟩:=ix;simp only at h6;rw [c4] at h6;subst h6;obtain ⟨q1,q2,_⟩:=h5.done (k:=0) HIN.out.leaves h2 h3;exact .inr ⟨xt,h4.1.den,q1,q2⟩)
          go_wp2_with (first|refine sL ?_|(refine sS ?_;clear H;intros;rename_i H));go_ret2;exact ⟨X3,r3.id,rfl,HREL3.out.1,HREL3.out.2.1,by rw [HSS.out];exact HFIN.out,by rw [HSS.out];have:=HREL3.out.2.2.2;omega,H.picks (.cons pk .nil)⟩
         ·have e4:((r3.n:Int)==1)=false:=(by simp;omega);have HND:Hid (m+1<25339):=zh (by
           refine vI fun q=>?_
           obtain ⟨_,_,TT,hT⟩:=HEND.out q;have h4:=HREL3.out.2.2.1.its;rw [hT] at h4;exact c4 h4.1.n)
          go_wp2_with (first|refine sL ?_|(refine sS ?_;clear H;intros;rename_i H));go_roundg (25340-(m+1));case measure=>omega
          case rel=>exact ⟨m+1,lv+1,X3,cs3,pl3,fl3,0,kl3,pr3,fr3,0,kr3,(.slice (some ⟨g3,0,none⟩) 1 c3'),[r3],_,_,_,rfl,HND.out,by rw [HLV.out],by simp,HI3.out,HREL3.out,H.picks (.cons pk (.cons pk (.cons pk (.cons pk (.cons pk .nil)))))⟩
        ·obtain ⟨a3,c3',e5,_⟩:=zE (H.get (A:=zb zi 254 4 mv3 rs3) pk);obtain ⟨n3,hn3⟩:∃ n,rs3.length=n:=⟨_,rfl⟩
         rw [hn3] at e5 c3;subst e5;have e4:((n3:Int)==1)=false:=(by simp;omega);have hn3b:n3<=1048576:=by
          have h1:=HREL3.out.2.2.1.its.len;have h2:=HI3.out.zero.cnt;have h3:=HIN.out.cnt;omega
         have HND:Hid (m+1<25339):=zh (by
          refine vI fun q=>?_
          obtain ⟨_,_,TT,hT⟩:=HEND.out q;have h4:=HREL3.out.2.2.1.its.len;rw [hT,hn3] at h4;exact c3 h4)
         subst c1 c2;go_wp2_with (first|refine sL ?_|(refine sS ?_;clear H;intros;rename_i H));go_roundg (25340-(m+1));case measure=>omega
         case rel=>exact ⟨m+1,lv+1,X3,cs3,pl3,fl3,0,kl3,pr3,fr3,0,kr3,(.slice a3 n3 c3'),rs3,_,_,_,rfl,HND.out,by rw [HLV.out],by simp,HI3.out,HREL3.out,H.picks (.cons pk (.cons pk (.cons pk (.cons pk (.cons pk .nil)))))⟩
       ·have e4:((ir3:Int)==0)=false:=(by simp;omega);have HND:Hid (m+1<25339):=zh (by
         refine vI fun q=>?_
         exact c2 (HREL3.out.2.2.1.right.id_zero.2 (HEND.out q).2.1))
        subst c1;go_wp2_with (first|refine sL ?_|(refine sS ?_;clear H;intros;rename_i H));go_roundg (25340-(m+1));case measure=>omega
        case rel=>exact ⟨m+1,lv+1,X3,cs3,pl3,fl3,0,kl3,pr3,fr3,ir3,kr3,mv3,rs3,_,_,_,rfl,HND.out,by rw [HLV.out],by simp,HI3.out,HREL3.out,H.picks (.cons pk (.cons pk (.cons pk (.cons pk (.cons pk .nil)))))⟩
      ·have e4:((il3:Int)==0)=false:=(by simp;omega);have HND:Hid (m+1<25339):=zh (by
        refine vI fun q=>?_
        exact c1 (HREL3.out.2.2.1.left.id_zero.2 (HEND.out q).1))
       go_wp2_with (first|refine sL ?_|(refine sS ?_;clear H;intros;rename_i H));go_roundg (25340-(m+1));case measure=>omega
       case rel=>exact ⟨m+1,lv+1,X3,cs3,pl3,fl3,il3,kl3,pr3,fr3,ir3,kr3,mv3,rs3,_,_,_,rfl,HND.out,by rw [HLV.out],by simp,HI3.out,HREL3.out,H.picks (.cons pk (.cons pk (.cons pk (.cons pk (.cons pk .nil)))))⟩):P:=h
theorem splice_g1 {X:Px} {a b i j:Nat} {sa sb:List Tr} (hX:zL X) (ha:IdIs X.S a sa) (hb:IdIs X.S b sb) (hi:i<=sa.length) (hj:j<=sb.length) (hl:(sa.take i++sb.drop j).length<=1048576) (hroom:X.S.list.length+(sa.take i++sb.drop j).length<=X.S.most) (hc:i=0∧¬ j=0∧¬ sb.length-j=0) (w:World) (h:((pA X).sep deA).ho w) :
  Calls z9 123 #[.pointer (some ⟨X.p,0,none⟩),.int .i64 a,.int .i64 (i:Nat),.int .i64 b,.int .i64 (j:Nat)] w fun e w'=>∃ (X':Px) (id:Nat),e=.returned (.tuple #[.int .i64 id,.nilIface])∧X.Ext X'∧zL X'∧IdIs X'.S id (sa.take i++sb.drop j)∧X'.S.list.length<=X.S.list.length+(sa.take i++sb.drop j).length∧St w (pA X).fp [pA X'] w':=by
 exact KN
theorem splice_g2 {X:Px} {a b i j:Nat} {sa sb:List Tr} (hX:zL X) (ha:IdIs X.S a sa) (hb:IdIs X.S b sb) (hi:i<=sa.length) (hj:j<=sb.length) (hl:(sa.take i++sb.drop j).length<=1048576) (hroom:X.S.list.length+(sa.take i++sb.drop j).length<=X.S.most) (hc:¬ i=0∧sb.length-j=0∧¬ i=sa.length) (w:World) (h:((pA X).sep deA).ho w) :
  Calls z9 123 #[.pointer (some ⟨X.p,0,none⟩),.int .i64 a,.int .i64 (i:Nat),.int .i64 b,.int .i64 (j:Nat)] w fun e w'=>∃ (X':Px) (id:Nat),e=.returned (.tuple #[.int .i64 id,.nilIface])∧X.Ext X'∧zL X'∧IdIs X'.S id (sa.take i++sb.drop j)∧X'.S.list.length<=X.S.list.length+(sa.take i++sb.drop j).length∧St w (pA X).fp [pA X'] w':=by
 exact KN
theorem splice_g3 {X:Px} {a b i j:Nat} {sa sb:List Tr} (hX:zL X) (ha:IdIs X.S a sa) (hb:IdIs X.S b sb) (hi:i<=sa.length) (hj:j<=sb.length) (hl:(sa.take i++sb.drop j).length<=1048576) (hroom:X.S.list.length+(sa.take i++sb.drop j).length<=X.S.most) (hc:¬ i=0∧¬ sb.length-j=0) (w:World) (h:((pA X).sep deA).ho w) :
  Calls z9 123 #[.pointer (some ⟨X.p,0,none⟩),.int .i64 a,.int .i64 (i:Nat),.int .i64 b,.int .i64 (j:Nat)] w fun e w'=>∃ (X':Px) (id:Nat),e=.returned (.tuple #[.int .i64 id,.nilIface])∧X.Ext X'∧zL X'∧IdIs X'.S id (sa.take i++sb.drop j)∧X'.S.list.length<=X.S.list.length+(sa.take i++sb.drop j).length∧St w (pA X).fp [pA X'] w':=by
 exact KN
theorem splice_g0 {X:Px} {a b i j:Nat} {sa sb:List Tr} (hX:zL X) (ha:IdIs X.S a sa) (hb:IdIs X.S b sb) (hi:i<=sa.length) (hj:j<=sb.length) (hl:(sa.take i++sb.drop j).length<=1048576) (hroom:X.S.list.length+(sa.take i++sb.drop j).length<=X.S.most) (hc:(i=0∧j=0)∨(sb.length-j=0∧(i=0∨i=sa.length))) (w:World) (h:((pA X).sep deA).ho w) :
  Calls z9 123 #[.pointer (some ⟨X.p,0,none⟩),.int .i64 a,.int .i64 (i:Nat),.int .i64 b,.int .i64 (j:Nat)] w fun e w'=>∃ (X':Px) (id:Nat),e=.returned (.tuple #[.int .i64 id,.nilIface])∧X.Ext X'∧zL X'∧IdIs X'.S id (sa.take i++sb.drop j)∧X'.S.list.length<=X.S.list.length+(sa.take i++sb.drop j).length∧St w (pA X).fp [pA X'] w':=by
 exact KN
theorem splice_c {X:Px} {a b i j:Nat} {sa sb:List Tr} (hX:zL X) (ha:IdIs X.S a sa) (hb:IdIs X.S b sb) (hi:i<=sa.length) (hj:j<=sb.length) (hl:(sa.take i++sb.drop j).length<=1048576) (hroom:X.S.list.length+(sa.take i++sb.drop j).length<=X.S.most) (w:World) (h:((pA X).sep deA).ho w) :
  Calls z9 123 #[.pointer (some ⟨X.p,0,none⟩),.int .i64 a,.int .i64 (i:Nat),.int .i64 b,.int .i64 (j:Nat)] w fun e w'=>∃ (X':Px) (id:Nat),e=.returned (.tuple #[.int .i64 id,.nilIface])∧X.Ext X'∧zL X'∧IdIs X'.S id (sa.take i++sb.drop j)∧X'.S.list.length<=X.S.list.length+(sa.take i++sb.drop j).length∧St w (pA X).fp [pA X'] w':=by
 by_cases g1:i=0∧¬ j=0∧¬ sb.length-j=0
 ·exact splice_g1 hX ha hb hi hj hl hroom g1 w h
 by_cases g2:¬ i=0∧sb.length-j=0∧¬ i=sa.length
 ·exact splice_g2 hX ha hb hi hj hl hroom g2 w h
 by_cases g3:¬ i=0∧¬ sb.length-j=0
 ·exact splice_g3 hX ha hb hi hj hl hroom g3 w h
 exact splice_g0 hX ha hb hi hj hl hroom (by omega) w h
end
section
open Go.RowKit Go.Maps
def IdL (S:Sto):List Nat->List (List Tr)->Prop
 |[],[]=>True
 |a::l,t::u=>IdIs S a t∧IdL S l u
 |_,_=>False
theorem IdL.len {S:Sto}:∀ {l:List Nat} {u:List (List Tr)},IdL S l u->l.length=u.length
 |[],[],_=>rfl
 |a::l,t::u,h=>by simp [IdL.len h.2]
 |[],_::_,h=>h.elim
 |_::_,[],h=>h.elim
theorem IdL.get {S:Sto}:∀ {l:List Nat} {u:List (List Tr)} {i:Nat} {a:Nat},IdL S l u->l[i]?=some a->∃ t,u[i]?=some t∧IdIs S a t
 |[],[],i,a,_,h=>by simp at h
 |b::l,t::u,0,a,h,e=>by
  simp only [Qc,yn.injEq] at e;subst e;exact ⟨t,rfl,h.1⟩
 |b::l,t::u,i+1,a,h,e=>by
  simp only [yO] at e ⊢;exact IdL.get h.2 e
 |[],_::_,_,_,h,_=>h.elim
 |_::_,[],_,_,h,_=>h.elim
theorem IdL.of {S:Sto}:∀ {l:List Nat} {u:List (List Tr)} {i:Nat} {t:List Tr},IdL S l u->u[i]?=some t->∃ a,l[i]?=some a∧IdIs S a t
 |[],[],i,a,_,h=>by simp at h
 |b::l,t::u,0,a,h,e=>by
  simp only [Qc,yn.injEq] at e;subst e;exact ⟨b,rfl,h.1⟩
 |b::l,t::u,i+1,a,h,e=>by
  simp only [yO] at e ⊢;exact IdL.of h.2 e
 |[],_::_,_,_,h,_=>h.elim
 |_::_,[],_,_,h,_=>h.elim
theorem IdL.le {S S':Sto} (hS:S.Ok) (hl:S.Le S'):∀ {l:List Nat} {u:List (List Tr)},IdL S l u->IdL S' l u
 |[],[],_=>trivial
 |a::l,t::u,h=>⟨h.1.le hS hl,IdL.le hS hl h.2⟩
 |[],_::_,h=>h.elim
 |_::_,[],h=>h.elim
theorem IdL.append {S:Sto}:∀ {l l':List Nat} {u u':List (List Tr)},IdL S l u->IdL S l' u'->IdL S (l++l') (u++u')
 |[],_,[],_,_,h=>h
 |a::l,_,t::u,_,h,k=>⟨h.1,IdL.append h.2 k⟩
 |[],_,_::_,_,h,_=>h.elim
 |_::_,_,[],_,h,_=>h.elim
theorem IdL.snoc {S:Sto} {l:List Nat} {u:List (List Tr)} {a:Nat} {t:List Tr} (h:IdL S l u) (ha:IdIs S a t):IdL S (l++[a]) (u++[t]):=h.append ⟨ha,trivial⟩
end
section
theorem step_cut {m:Nat} {a:Tr} (h:Canon a) {A C B:List Tr} (e:a.lay (m+1)=A++C++B) (hC:C.flatMap (Tr.lay m)≠[]):yd (m+1) (C.flatMap (Tr.lay m))=C:=by
 have e1:a.lay (m+1)=A++(C++B):=(by rw [e];simp);have hd:∀ y,(C.flatMap (Tr.lay m)).head?=some y->((C++B).flatMap (Tr.lay m)).head?=some y:=fun y hy=>by
  rw [zI];cases hq:C.flatMap (Tr.lay m) with
  |nil=>exact absurd hq hC
  |cons z l=>rw [hq] at hy;simpa using hy
 by_cases he:m%2=0
 ·obtain ⟨_,c2,c3⟩:=ko he h e1;obtain ⟨_,_,d3⟩:=ko he h e;have h1:=d3 [] (fun x y _ hy=>by simp at hy);have h2:=c3 (C.flatMap (Tr.lay m)) (fun x y hx hy=>c2 x y hx (hd y hy));rw [zI,qO,h2] at h1;have h3:runs ([]:List Tr)=[]:=rfl;rw [h3,qO] at h1;rw [xF he];exact List.append_cancel_left h1
 ·have ho:m%2=1:=(by omega);obtain ⟨_,c2,c3⟩:=jk ho h e1;obtain ⟨_,_,d3⟩:=jk ho h e;have h1:=d3 [] (fun x y _ _ hy=>by simp at hy);have h2:=c3 (C.flatMap (Tr.lay m)) (fun x y hx hl hy=>c2 x y hx hl (hd y hy));rw [zI,qO,h2] at h1;have h3:zH (fits (m+1)) ([]:List Tr)=[]:=(by simp [zH]);rw [h3,qO] at h1;rw [yI ho];exact List.append_cancel_left h1
theorem Canon.kid {a c:Tr} (h:Canon a) {j:Nat} (hj:(zT a)[j]?=some c):Canon c:=by
 have hc:=h.gd.kid (zv hj);have hk:zT a=(zT a).take j++c::(zT a).drop (j+1):=by
  have hlt:=yF hj;rw [zg hlt] at hj;injection hj with hj
  conv=>lhs;rw [← List.take_append_drop j (zT a),ym hlt,hj]
 have hlay:∀ m,m<a.lv->a.lay m=((zT a).take j).flatMap (Tr.lay m)++c.lay m++((zT a).drop (j+1)).flatMap (Tr.lay m):=fun m hm=>by
  rw [x9 hm];conv=>lhs;rw [hk]
  rw [zI,zu];simp
 refine ⟨fun t ht=>h.leaves t (by rw [hlay 0 (by omega)];simp [ht]),fun m=>?_⟩;induction m with
 |zero=>rfl
 |succ m ih =>
  show yd (m+1) (xg (c.lay 0) m)=c.lay (m+1)
  rw [ih];by_cases hm:c.lv<=m
  ·rw [qH hm,qH (Nat.le_succ_of_le hm),WQ]
  ·have h1:=step_cut h (m:=m) (hlay (m+1) (by omega));rw [Zl (Nat.le_succ m) c] at h1;refine h1 fun e=>?_
   have:=wN (m:=m) hc.1.2;rw [e] at this;simp at this
theorem VG {s:Tr} {k:Nat} (h:(Tr.pow s k).Gd):(Tr.pow s k).lay 0=(zc k (s.lay 0)).flatten:=by
 have hk:2<=k:=h.2.2;rw [x9 (by have:=(h.kid (c:=s) (kJ.2 ⟨by omega,rfl⟩)).2;omega)];simp [zT,jc]
end
section
open Go.RowKit Go.Maps
attribute [local go_sem] qw
end
section
open Go.RowKit Go.Maps
attribute [local go_sem] qw
end
end Go.Proofs.YtgnppnokkdghcaaGreatDoor
