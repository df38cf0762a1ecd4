/-
  Part 5 of the texts behind the statements of this seat: walks and laws Ch, Ci, Cj, Cl, Cm, Cn, Co, Cs, Ct, Cu, Cw, Cp. Conditions: as each states.
-/
import Derived.Test.YtgnppnokkdghcaaGreatDoorAz4
import Derived.Lib.Overlaps
set_option linter.unusedSimpArgs false
set_option linter.unusedVariables false
set_option maxRecDepth 100000
set_option maxHeartbeats 80000000
open Array renaming getElem?_setIfInBounds_ne→zz,getElem?_setIfInBounds_self_of_lt→wO,size_setIfInBounds→yD
open Bool renaming false_eq_true→xA
open Go.Proofs.Tryz renaming func152→YW,func164→YX,func166→YY,func179→YZ,ntmps152→QO,ntmps164→QP,ntmps166→QQ,ntmps179→QR,prog→zb
open Int renaming natCast_mul→Yl
open List renaming append_assoc→zQ,append_nil→qO,cons_append→zo,drop_append_of_le_length→XU,drop_eq_getElem_cons→yj,drop_of_length_le→yo,drop_succ_cons→wQ,drop_zero→yw,eq_nil_of_length_eq_zero→qe,ext_getElem?→Zm,flatMap_cons→zt,flatMap_nil→wW,flatMap_replicate→jc,flatten_append→Xy,getD_eq_getElem?_getD→Zn,getElem?_append→yS,getElem?_append_right→yd,getElem?_eq_none→Qm,getElem?_eq_some_iff→xB,getElem?_replicate→x4,getElem?_take→wh,length→ym,length_append→zi,length_cons→zw,length_map→qd,length_nil→zC,length_replicate→qr,length_set→wo,length_take→qg,map_append→xH,map_cons→zX,map_nil→ye,map_toArray→xo,mem_cons→zL,mem_cons_self→zN,mem_iff_getElem?→Yi,mem_of_getElem?→zy,mem_of_getLast?→vq,mem_replicate→wq,nil_append→zv,pairwise_cons→qu,replicate→zd,replicate_succ→zS,set_cons_zero→zq,take_add_one→x5,take_append→Zy,take_append_of_le_length→XW,take_length→jx,take_of_length_le→qp,take_zero→jA
open Nat renaming add_comm→kf,add_mul→xl,add_one_sub_one→QI,eq_zero_or_pos→qk,le_mul_of_pos_right→jg,le_refl→zr,le_trans→qs,lt_of_not_le→vD,min→QF,min_def→J6,min_eq_left→kF,mod_lt→qM,mul_comm→xO,mul_le_mul_right→y9,one_mul→QK,sub_self→QL,succ_mul→XX,zero_add→qQ,zero_le→qy,zero_mul→QM
open Option renaming map_some→Qb,toList→qb
namespace Go.Proofs.YtgnppnokkdghcaaGreatDoor
section
open Go.RowKit Go.Maps
attribute [local go_sem] qt
attribute [local go_sem] StStep jw yM in
theorem KW {X:Px} {a:Tr} {bk:Bool} {m b o id ky:Nat} {ty:TypeId} {d:qK} {cs:Array Value} {pv:Value} {fs:List Fr} (hX:zK X) (he:EndIn X bk cs o pv fs id ky d) (hz:EndZ a d) (ga:a.Gd) (hal:a.lv<=25339) (hm:m<9223372036854775808) (w:World) (h:(((pA X).sep ((blk b (.cells cs ty)).sep (zc ze 265 8 pv fs))).sep deA).ho w) :
  Calls zb 152 #[.pointer (some ⟨b,o,none⟩),.int .i64 m] w (xY X bk b o ty cs (upT bk m d) ((pA X).sep ((blk b (.cells cs ty)).sep (zc ze 265 8 pv fs))).fp w (.tuple #[])):=by
 rw [qz] at h;obtain ⟨k1,k2,hdd⟩:=h;have H:=St.one k1;have HK:Ks w ((pA X).sep ((blk b (.cells cs ty)).sep (zc ze 265 8 pv fs))).fp [deA]:=⟨by simpa using k2,by simpa using fun b hb hm=>hdd b hm hb⟩
 generalize ((pA X).sep ((blk b (.cells cs ty)).sep (zc ze 265 8 pv fs))).fp=M at *;replace H:=H.sep;replace H:=(H.pick (.there .here)).sep;clear k1 k2 hdd;have HN20:∀ {n:Nat},fs.length=n+1->n<=1048576:=fun {n} hn=>by
  have h1:=he.path.len;obtain ⟨p,s⟩:=d;cases s with
  |none=>have:p=[]:=hz;subst this;rw [hn] at h1;simp at h1
  |some x=>have:=(show Zip a p x from hz).room ga;simp only at h1;omega
 have HX0:=zh hX;clear hX;have hX:=HX0;obtain ⟨p,sx⟩:=d;rcases yn fs with rfl|⟨fs1,f,rfl⟩
 ·have HE:=zh he;have hp:p=[]:=qe (by have:=he.path.len;simpa using this.symm);subst hp;obtain ⟨ad,c,e1,_⟩:=zE (H.get (A:=zc ze 265 8 pv []) pk);simp only [zC] at e1;subst e1;have HPA:Hid (∀ w,(blk b (.cells cs ty)).ho w->Calls zb 172 #[.pointer (some ⟨b,o,none⟩),.int .i64 m] w fun e w'=>e=.returned (.pointer none)∧w'=w):=zh fun w h=>ZP (fun w h=>zV h he.at_.c2) w h
  rw [upT_nil];clear he hz ga hal hm HN20;go_enter YW,QO;go_wp2_with (first|refine sL ?_|(refine sS ?_;clear H;intros;rename_i H)|(go_at_call 172;with_reducible refine same (HPA.out _ (H.get pk)) ?_));refine zG H 14 [] [] (by kernel_rfl) (by kernel_rfl) ?_;apply Exists.intro;refine ⟨fun w1 hw1 HX=>?_,fun bs wr Hr=>?_⟩
  ·refine sG ?_;repeat (first|go_big_quiet_skip|refine sQ ?_|fail|go_big_quiet_step (fail))
   exact wpQuiet_nil rfl
  clear H;have H:=Hr;clear Hr;replace H:=sH H;refine sT ?_;go_wp2_with (first|refine sL ?_|(refine sS ?_;clear H;intros;rename_i H));refine nR ?_;exact ⟨X,cs,_,_,id,ky,rfl,.refl _,hX.out,rfl,HE.out,.refl _ _,H.picks (.cons pk (.cons pk (.cons pk .nil)))⟩
 ·have HE:=zh he;obtain ⟨q,p,rfl,hfr,hpp⟩:=he.path.last;obtain ⟨g,c,e1,hc1,hc2⟩:=q8 (H.get (A:=zc ze 265 8 pv (fs1++[f])) pk) (by simp);obtain ⟨n,hn⟩:∃ n,fs1.length=n:=⟨_,rfl⟩
  have hlen:(fs1++[f]).length=n+1:=(by simp [hn]);rw [hlen] at e1 hc1;subst e1;have hn20:n<=1048576:=HN20 (by simpa using hlen);have hfx:(fs1++[f])[n]?=some f:=(by rw [← hn];simp);have HC0:Hid (∀ w,(zc ze 265 8 (.slice (some ⟨g,0,none⟩) (n+1) c) (fs1++[f])).ho w->w.cell? ⟨g,n*8,none⟩=some (.int .i64 f.id)):=zh fun w h=>xg (j:=0) h hfx rfl
  have HC5:Hid (∀ w,(zc ze 265 8 (.slice (some ⟨g,0,none⟩) (n+1) c) (fs1++[f])).ho w->w.cell? ⟨g,n*8+5,none⟩=some (.int .i64 f.r.times)):=zh fun w h=>xg h hfx rfl
  have HC6:Hid (∀ w,(zc ze 265 8 (.slice (some ⟨g,0,none⟩) (n+1) c) (fs1++[f])).ho w->w.cell? ⟨g,n*8+6,none⟩=some (.int .i64 f.lev)):=zh fun w h=>xg h hfx rfl
  have HC7:Hid (∀ w,(zc ze 265 8 (.slice (some ⟨g,0,none⟩) (n+1) c) (fs1++[f])).ho w->w.cell? ⟨g,n*8+7,none⟩=some (.int .i64 f.hv)):=zh fun w h=>xg h hfx rfl
  have HCR:Hid (∀ w,(zc ze 265 8 (.slice (some ⟨g,0,none⟩) (n+1) c) (fs1++[f])).ho w->w.rangeAt g (n*8+1) [.int .i64 f.r.kind,.int .u8 f.r.letter,.int .i64 f.r.left,.int .i64 f.r.right,.int .i64 f.r.times]):=zh fun w h=>fr_rule h hfx
  have HPA:Hid (∀ w,(blk b (.cells cs ty)).ho w->(zc ze 265 8 (.slice (some ⟨g,0,none⟩) (n+1) c) (fs1++[f])).ho w->Calls zb 172 #[.pointer (some ⟨b,o,none⟩),.int .i64 m] w fun e w'=>e=.returned (if f.lev=m then .pointer (some ⟨g,n*8,none⟩) else .pointer none)∧w'=w):=zh fun w h1 h2=>vy (fs:=fs1) (Y:=(blk b (.cells cs ty)).both (zc ze 265 8 (.slice (some ⟨g,0,none⟩) (n+1) c) (fs1++[f]))) (fun w h=>zV h.1 he.at_.c2) hn20 (fun w h=>HC6.out w h.2) w ⟨h1,h2⟩
  have hsx:∃ x,sx=some x:=by
   cases sx with
   |none=>have:q::p=[]:=hz;cases this
   |some x=>exact ⟨x,rfl⟩
  obtain ⟨x,rfl⟩:=hsx;have hup:=upT_eq (bk:=bk) (m:=m) (p:=p) (x:=x) hfr.lt;have hwh:=hfr.whole hX.out.ok;rw [hfr.lv,← hfr.hvT,← hwh] at hup;have HWH:Hid (∀ w,Calls zb 173 #[.agg #[.int .i64 f.r.kind,.int .u8 f.r.letter,.int .i64 f.r.left,.int .i64 f.r.right,.int .i64 f.r.times]] w fun e w'=>e=.returned (.int .i64 (xF f.r:Nat))∧St w [] [] w'):=zh fun w=>whole_c f.r w
  have hle:f.hv<=xF f.r:=by
   rw [hwh,hfr.hvT];have:=hfr.lt;unfold hvT;cases bk <;> simp <;> omega
  by_cases hlv:f.lev=m
  ·rw [if_pos hlv] at HPA;by_cases hwl:f.hv=xF f.r
   ·rw [if_pos ⟨hlv,hwl⟩] at hup;rw [hup];have d1:decide ((f.hv:Int)<((xF f.r:Nat):Int))=false:=(by simp;omega);have d2:decide (f.hv<xF f.r)=false:=(by simp;omega);have hat2:=he.at_.setId f.id;obtain ⟨cs2,hcs2⟩:∃ c,cs.setIfInBounds (o+3) (.int .i64 f.id)=c:=⟨_,rfl⟩
    have HCS2:=zh hcs2;have HSZ:Hid (o+5<=cs.size):=zh he.at_.sz;rw [hcs2] at hat2;have HAT2:=zh hat2;have HSZ2:Hid (o+5<=cs2.size):=zh hat2.sz;obtain ⟨kk,hkk⟩:∃ kk,q.1.key=kk:=⟨_,rfl⟩
    have HKK:=zh hkk;have HKY:Hid (∀ w,(pA X).ho w->Calls zb 174 #[.pointer (some ⟨X.p,0,none⟩)] w fun e w'=>e=.returned (.pointer (some ⟨X.K.t,0,none⟩))∧w'=w):=zh fun w h=>Wj w h
    have HKE:Hid (∀ w,((pA X).sep deA).ho w->Calls zb 98 #[.pointer (some ⟨X.K.t,0,none⟩),.int .i64 f.id] w (jL X (.tuple #[.int .u64 kk,.nilIface]) (pA X).fp w)):=zh fun w h=>by rw [← HKK.out];exact Jx hX.out hfr.den w h
    have HFR:=zh hfr;have HPP:=zh hpp;have HNN:=zh hn;have HCB:=zh (za hc1 hc2);have HAL:Hid (AlikeBut cs (cs2.setIfInBounds (o+4) (.int .u64 kk)) o):=zh (by
     have h1:=AlikeBut.set cs o (o+3) (.int .i64 f.id) (by omega) (by omega);rw [hcs2] at h1;exact h1.trans (AlikeBut.set cs2 o (o+4) (.int .u64 kk) (by omega) (by omega)))
    have hat3:=HAT2.out.setKey kk;obtain ⟨cs3,hcs3⟩:∃ c,cs2.setIfInBounds (o+4) (.int .u64 kk)=c:=⟨_,rfl⟩
    have HCS3:=zh hcs3;rw [hcs3] at hat3;have HAT3:=zh hat3;have HSZ3:Hid (o+5<=cs3.size):=zh hat3.sz;have hat4:=hat3.setPath (.slice (some ⟨g,0,none⟩) n c);obtain ⟨cs4,hcs4⟩:∃ c',cs3.setIfInBounds (o+2) (.slice (some ⟨g,0,none⟩) n c)=c':=⟨_,rfl⟩
    have HCS4:=zh hcs4;rw [hcs4] at hat4;have HAT4:=zh hat4;have HAL4:Hid (AlikeBut cs cs4 o):=zh (by
     have h1:=HAL.out;rw [hcs3] at h1;have h2:=AlikeBut.set cs3 o (o+2) (.slice (some ⟨g,0,none⟩) n c) (by omega) (by omega);rw [hcs4] at h2;exact h1.trans h2)
    clear he hz ga hal hm HN20 hfr hpp hn hlen hfx hup hwh hle hlv hwl hat2 hcs2 hkk hat3 hcs3 hat4 hcs4 HAL hc1 hc2;go_enter YW,QO;go_wp2_with (first|refine sL ?_|(refine sS ?_;clear H;intros;rename_i H)|(go_at_call 172;with_reducible refine same (HPA.out _ (H.get pk) (H.get pk)) ?_));refine zG H 14 [] [] (by kernel_rfl) (by kernel_rfl) ?_;apply Exists.intro;refine ⟨fun w1 hw1 HX=>?_,fun bs wr Hr=>?_⟩
    ·refine sG ?_;repeat (first|go_big_quiet_skip|refine sQ ?_|((with_reducible refine yp ?_);(refine QtLoad.rngT rfl rfl rfl (fun y=>HCR.out _ ((HX y).get (A:=zc ze 265 8 (.slice (some ⟨g,0,none⟩) (n+1) c) (fs1++[f])) pk)) rfl ?_;simp only [Act.put,puA,puB,puC]))|go_big_quiet_step ((go_at_call 173;with_reducible exact wL (HWH.out _)))|go_big_quiet_step (fail))
     exact wpQuiet_nil rfl
    clear H;have H:=Hr;clear Hr;replace H:=sH H;refine sT ?_;go_wp2_with (first|refine sL ?_|(refine sS ?_;clear H;intros;rename_i H)|((with_reducible refine yl ?_);refine AtStore.cell H rfl rfl rfl rfl rfl (qL (qB rfl)) (cs:=cs) pk (by have:=HSZ.out;omega) HCS2.out ?_;clear H;intro _ H;simp only [Act.put,puA,puB,puC]));replace H:St w M [blk b (.cells cs2 ty),pA X,zc ze 265 8 (.slice (some ⟨g,0,none⟩) (n+1) c) (fs1++[f])] _:=H.picks (.cons pk (.cons pk (.cons pk .nil)));refine zM 17 [⟨[],fun v _=>v=.pointer (some ⟨b,o,none⟩)⟩,⟨[],fun v _=>v=.pointer (some ⟨b,o,none⟩)⟩,⟨[1],fun v _=>v=.pointer (some ⟨b,o,none⟩)⟩,⟨[2],fun v _=>v=.pointer (some ⟨b,o,none⟩)⟩,⟨[3],fun v _=>v=.pointer (some ⟨X.p,0,none⟩)⟩,⟨[4],fun v _=>v=.pointer (some ⟨X.K.t,0,none⟩)⟩,⟨[],fun v _=>v=.pointer (some ⟨b,o,none⟩)⟩,⟨[6],fun v _=>v=.pointer (some ⟨b,o,none⟩)⟩,⟨[7],fun v _=>v=.pointer (some ⟨b,o+3,none⟩)⟩,⟨[8],fun v _=>v=.int .i64 f.id⟩,⟨[5,9],fun v _=>v=.tuple #[.int .u64 kk,.nilIface]⟩,⟨[10],fun v _=>v=.tuple #[.int .u64 kk,.nilIface]⟩,⟨[11],fun v _=>v=.int .u64 kk⟩,⟨[11],fun v _=>v=.nilIface⟩,⟨[0],fun v _=>v=.pointer (some ⟨b,o,none⟩)⟩,⟨[14],fun v _=>v=.pointer (some ⟨b,o+4,none⟩)⟩,⟨[12,15],fun _ _=>True⟩] [10,16] [[0,1],[0],[0],[0],[0],[0],[0],[0],[0],[0],[0],[1],[1],[1,2],[1],[1],[1]] [fun _ wx=>St w M [blk b (.cells cs2 ty),pA X,zc ze 265 8 (.slice (some ⟨g,0,none⟩) (n+1) c) (fs1++[f])] wx,fun _ wx=>∃ X2:Px,(X.Ext X2∧zK X2∧X2.S=X.S)∧St w M [blk b (.cells cs2 ty),pA X2,zc ze 265 8 (.slice (some ⟨g,0,none⟩) (n+1) c) (fs1++[f])] wx,fun _ wx=>∃ X2:Px,(X.Ext X2∧zK X2∧X2.S=X.S)∧St w M [blk b (.cells (cs2.setIfInBounds (o+4) (.int .u64 kk)) ty),pA X2,zc ze 265 8 (.slice (some ⟨g,0,none⟩) (n+1) c) (fs1++[f])] wx]
     [[],[],[(1,31)],[(2,32)],[(3,33)],[(4,34)],[],[(6,36)],[(7,37)],[(8,38)],[(5,35),(9,39)],[(10,40)],[(11,29)],[(11,29)],[(0,30)],[(14,43)],[(12,41),(15,44)]] [(0,30),(1,31),(2,32),(3,33),(4,34),(5,35),(6,36),(7,37),(8,38),(9,39),(10,40),(11,29),(12,41),(13,42),(14,43),(15,44)] (by kernel_rfl) (by kernel_rfl) H.drew ⟨⟨qo,qo,trivial⟩,⟨qo,trivial⟩,⟨qo,trivial⟩,⟨qo,trivial⟩,⟨?_,trivial⟩,⟨?_,trivial⟩,⟨qo,trivial⟩,⟨qo,trivial⟩,⟨qo,trivial⟩,⟨?_,trivial⟩,⟨?_,trivial⟩,⟨qo,trivial⟩,⟨qo,trivial⟩,⟨qo,qo,trivial⟩,⟨qo,trivial⟩,⟨qo,trivial⟩,⟨?_,trivial⟩,trivial⟩ ?_
    ·intro vals wx hd HC;simp only [GF] at hd;have H:=HC;simp only [CA] at H;simp only [PS,hd];refine StStep.celC rfl rfl rfl rfl (zV (H.get (A:=blk b (.cells cs2 ty)) pk) HAT2.out.c0) ⟨rfl,HC⟩
    ·intro vals wx hd HC;simp only [GF] at hd;have h4:=hd;clear hd;have H:=HC;simp only [CA] at H;simp only [PS,h4];clear h4;go_simp;with_reducible refine zm (HKY.out _ (H.get pk)) ?_
     rintro e wc ⟨rfl,rfl⟩;first|exact ⟨_,rfl,rfl,HC⟩|exact ⟨_,rfl,HC⟩
    ·intro vals wx hd HC;simp only [GF] at hd;have H:=HC;simp only [CA] at H;simp only [PS,hd];refine StStep.celC rfl rfl rfl rfl (zV (H.get (A:=blk b (.cells cs2 ty)) pk) HAT2.out.c3) ⟨rfl,HC⟩
    ·intro vals wx hd HC;simp only [GF] at hd;obtain ⟨h5,h9⟩:=hd;have H:=HC;simp only [CA] at H;simp only [PS,h5,h9];clear h5 h9 HC;go_simp;with_reducible refine zm (HKE.out _ (H.sepK HK pk pk)) ?_
     rintro e wc ⟨X2,y1,y2,y3,rfl,hb⟩;have H2:=(H.pick pk).call hb;simp only [zo,zv] at H2;exact ⟨_,rfl,rfl,X2,⟨y1,y2,y3⟩,H2.picks (.cons pk (.cons pk (.cons pk .nil)))⟩
    ·intro vals wx hd HC;simp only [GF] at hd;have H:=HC;simp only [CA] at H;obtain ⟨X2,hX2,H⟩:=H;simp only [PS,hd];refine StStep.storeC rfl rfl rfl rfl rfl rfl H (by have:=HSZ2.out;omega) ?_;intro wz H;exact ⟨trivial,X2,hX2,H⟩
    intro vals wx hd HC;simp only [CA] at HC;obtain ⟨X2,hX2,H⟩:=HC;simp only [GF] at hd;simp only [PS,hd];clear hd;have HY:=zh hX2;clear hX2;rw [HCS3.out] at H;go_wp2_with (first|refine sL ?_|(refine sS ?_;clear H;intros;rename_i H));have hnc:n<=c:=(by have:=HCB.out;omega);refine zG H 12 [] [] (by kernel_rfl) (by kernel_rfl) ?_;apply Exists.intro;refine ⟨fun w1 hw1 HX=>?_,fun bs wr Hr=>?_⟩
    ·refine sG ?_;repeat (first|go_big_quiet_skip|refine sQ ?_|((with_reducible refine yp ?_);first|(refine QtLoad.cel rfl rfl rfl rfl (fun y=>zV ((HX y).get (A:=blk b (.cells cs3 ty)) pk) HAT3.out.c2) ?_;simp only [Act.put,puA,puB,puC]))|go_big_quiet_step (fail))
     exact wpQuiet_nil rfl
    clear H;have H:=Hr;clear Hr;replace H:=sH H;refine sT ?_;go_wp2_with (first|refine sL ?_|(refine sS ?_;clear H;intros;rename_i H)|((with_reducible refine yl ?_);refine AtStore.cell H rfl rfl rfl rfl rfl (qL (qB rfl)) (cs:=cs3) pk (by have:=HSZ3.out;omega) HCS4.out ?_;clear H;intro _ H;simp only [Act.put,puA,puB,puC]));refine nR ?_;have H2:=(H.pick (A:=zc ze 265 8 (.slice (some ⟨g,0,none⟩) (n+1) c) (fs1++[f])) pk).cut xM HNN.out;have hsame:=HY.out.2.2;exact ⟨X2,cs4,_,fs1,f.id,kk,rfl,HY.out.1,HY.out.2.1,hsame,⟨by rw [HY.out.1.p];exact HAT4.out,by rw [hsame];exact HPP.out,by simp only;rw [hsame];exact ⟨HFR.out.den,HKK.out.symm⟩⟩,HAL4.out,H2.picks (.cons pk (.cons pk (.cons pk .nil)))⟩
   ·rw [if_neg (fun h=>hwl h.2)] at hup;rw [hup];have d1:decide ((f.hv:Int)<((xF f.r:Nat):Int))=true:=(by simp;omega);have d2:decide (f.hv<xF f.r)=true:=(by simp;omega);clear he hz ga hal hm HN20 hfr hpp hn hlen hfx hup hwh hle hlv hwl hc1 hc2;go_enter YW,QO;go_wp2_with (first|refine sL ?_|(refine sS ?_;clear H;intros;rename_i H)|(go_at_call 172;with_reducible refine same (HPA.out _ (H.get pk) (H.get pk)) ?_));refine zG H 14 [] [] (by kernel_rfl) (by kernel_rfl) ?_;apply Exists.intro;refine ⟨fun w1 hw1 HX=>?_,fun bs wr Hr=>?_⟩
    ·refine sG ?_;repeat (first|go_big_quiet_skip|refine sQ ?_|((with_reducible refine yp ?_);(refine QtLoad.rngT rfl rfl rfl (fun y=>HCR.out _ ((HX y).get (A:=zc ze 265 8 (.slice (some ⟨g,0,none⟩) (n+1) c) (fs1++[f])) pk)) rfl ?_;simp only [Act.put,puA,puB,puC]))|go_big_quiet_step ((go_at_call 173;with_reducible exact wL (HWH.out _)))|go_big_quiet_step (fail))
     exact wpQuiet_nil rfl
    clear H;have H:=Hr;clear Hr;replace H:=sH H;refine sT ?_;go_wp2_with (first|refine sL ?_|(refine sS ?_;clear H;intros;rename_i H));refine nR ?_;exact ⟨X,cs,_,_,id,ky,rfl,.refl _,hX.out,rfl,HE.out,.refl _ _,H.picks (.cons pk (.cons pk (.cons pk .nil)))⟩
  ·rw [if_neg hlv] at HPA;rw [if_neg (fun h=>hlv h.1)] at hup;rw [hup];clear he hz ga hal hm HN20 hfr hpp hn hlen hfx hup hwh hle hlv hc1 hc2;go_enter YW,QO;go_wp2_with (first|refine sL ?_|(refine sS ?_;clear H;intros;rename_i H)|(go_at_call 172;with_reducible refine same (HPA.out _ (H.get pk) (H.get pk)) ?_));refine zG H 14 [] [] (by kernel_rfl) (by kernel_rfl) ?_;apply Exists.intro;refine ⟨fun w1 hw1 HX=>?_,fun bs wr Hr=>?_⟩
   ·refine sG ?_;repeat (first|go_big_quiet_skip|refine sQ ?_|fail|go_big_quiet_step (fail))
    exact wpQuiet_nil rfl
   clear H;have H:=Hr;clear Hr;replace H:=sH H;refine sT ?_;go_wp2_with (first|refine sL ?_|(refine sS ?_;clear H;intros;rename_i H));refine nR ?_;exact ⟨X,cs,_,_,id,ky,rfl,.refl _,hX.out,rfl,HE.out,.refl _ _,H.picks (.cons pk (.cons pk (.cons pk .nil)))⟩
theorem run_c {X:Px} {a:Tr} {bk:Bool} {m b o id ky:Nat} {ty:TypeId} {d:qK} {cs:Array Value} {pv:Value} {fs:List Fr} (hX:zK X) (he:EndIn X bk cs o pv fs id ky d) (hz:EndZ a d) (ga:a.Gd) (hal:a.lv<=25339) (hm:m<9223372036854775808) (w:World) (h:(((pA X).sep ((blk b (.cells cs ty)).sep (zc ze 265 8 pv fs))).sep deA).ho w) (ho:m%2=1) :
  Calls zb 178 #[.pointer (some ⟨b,o,none⟩),.int .i64 m] w fun e w'=>e=.returned (.tuple #[.int .i64 (j0 bk m d.1).1,.bool (j0 bk m d.1).2])∧St w [] [] w':=by
 have HN20:∀ {n:Nat},fs.length=n+1->n<=1048576:=fun {n} hn=>by
  have h1:=he.path.len;obtain ⟨p,s⟩:=d;cases s with
  |none=>have:p=[]:=hz;subst this;rw [hn] at h1;simp at h1
  |some x=>have:=(show Zip a p x from hz).room ga;simp only at h1;omega
 rw [qz] at h;have h1:=h.1;rw [qz] at h1;have h2:=h1.2.1;rw [qz] at h2;have hKB:=h2.1;have hKR:=h2.2.1;clear h1 h2 h;have H:=St.nil w [];obtain ⟨p,sx⟩:=d;rcases yn fs with rfl|⟨fs1,f,rfl⟩
 ·have HE:=zh he;have hp:p=[]:=qe (by have:=he.path.len;simpa using this.symm);subst hp;obtain ⟨ad,c,e1,_⟩:=zE hKR;simp only [zC] at e1;subst e1;have HK:Ks w [] [blk b (.cells cs ty)]:=Ks.one hKB;clear hKB hKR;have HPA:Hid (∀ w,(blk b (.cells cs ty)).ho w->Calls zb 172 #[.pointer (some ⟨b,o,none⟩),.int .i64 m] w fun e w'=>e=.returned (.pointer none)∧w'=w):=zh fun w h=>ZP (fun w h=>zV h he.at_.c2) w h
  rw [show j0 bk m ([]:List (Tr×Nat))=(1,false) from rfl];clear he hz ga hal hm HN20;go_enter Tryz.func178,Tryz.ntmps178;go_wp2_with (first|refine sL ?_|(refine sS ?_;clear H;intros;rename_i H)|(go_at_call 172;with_reducible refine same (HPA.out _ (H.known HK pk)) ?_));go_ret2;exact ⟨rfl,H.nix⟩
 ·have HE:=zh he;obtain ⟨q,p,rfl,hfr,hpp⟩:=he.path.last;obtain ⟨g,c,e1,hc1,hc2⟩:=q8 hKR (by simp);obtain ⟨n,hn⟩:∃ n,fs1.length=n:=⟨_,rfl⟩
  have hlen:(fs1++[f]).length=n+1:=(by simp [hn]);rw [hlen] at e1 hc1;subst e1;have HK:Ks w [] [blk b (.cells cs ty),zc ze 265 8 (.slice (some ⟨g,0,none⟩) (n+1) c) (fs1++[f])]:=Ks.two hKB hKR;clear hKB hKR;have hn20:n<=1048576:=HN20 (by simpa using hlen);have hfx:(fs1++[f])[n]?=some f:=(by rw [← hn];simp);have HC0:Hid (∀ w,(zc ze 265 8 (.slice (some ⟨g,0,none⟩) (n+1) c) (fs1++[f])).ho w->w.cell? ⟨g,n*8,none⟩=some (.int .i64 f.id)):=zh fun w h=>xg (j:=0) h hfx rfl
  have HC5:Hid (∀ w,(zc ze 265 8 (.slice (some ⟨g,0,none⟩) (n+1) c) (fs1++[f])).ho w->w.cell? ⟨g,n*8+5,none⟩=some (.int .i64 f.r.times)):=zh fun w h=>xg h hfx rfl
  have HC6:Hid (∀ w,(zc ze 265 8 (.slice (some ⟨g,0,none⟩) (n+1) c) (fs1++[f])).ho w->w.cell? ⟨g,n*8+6,none⟩=some (.int .i64 f.lev)):=zh fun w h=>xg h hfx rfl
  have HC7:Hid (∀ w,(zc ze 265 8 (.slice (some ⟨g,0,none⟩) (n+1) c) (fs1++[f])).ho w->w.cell? ⟨g,n*8+7,none⟩=some (.int .i64 f.hv)):=zh fun w h=>xg h hfx rfl
  have HCR:Hid (∀ w,(zc ze 265 8 (.slice (some ⟨g,0,none⟩) (n+1) c) (fs1++[f])).ho w->w.rangeAt g (n*8+1) [.int .i64 f.r.kind,.int .u8 f.r.letter,.int .i64 f.r.left,.int .i64 f.r.right,.int .i64 f.r.times]):=zh fun w h=>fr_rule h hfx
  have HPA:Hid (∀ w,(blk b (.cells cs ty)).ho w->(zc ze 265 8 (.slice (some ⟨g,0,none⟩) (n+1) c) (fs1++[f])).ho w->Calls zb 172 #[.pointer (some ⟨b,o,none⟩),.int .i64 m] w fun e w'=>e=.returned (if f.lev=m then .pointer (some ⟨g,n*8,none⟩) else .pointer none)∧w'=w):=zh fun w h1 h2=>vy (fs:=fs1) (Y:=(blk b (.cells cs ty)).both (zc ze 265 8 (.slice (some ⟨g,0,none⟩) (n+1) c) (fs1++[f]))) (fun w h=>zV h.1 he.at_.c2) hn20 (fun w h=>HC6.out w h.2) w ⟨h1,h2⟩
  have hrun:j0 bk m (q::p)=if f.lev=m then (f.hv,decide (f.hv<f.r.times)) else (1,false):=by
   unfold j0;by_cases hlv:f.lev=m
   ·rw [JZ (hfr.lv.trans hlv),if_pos hlv];simp only;rw [hfr.hvT,hfr.times hX.ok (by omega)]
   ·rw [topAt_miss (fun h=>hlv (hfr.lv.symm.trans h)),if_neg hlv]
  simp only [hrun];by_cases hlv:f.lev=m
  ·rw [if_pos hlv] at HPA;rw [if_pos hlv];clear he hz ga hal hm HN20 hfr hpp hn hlen hfx hrun hlv hX hc1 hc2;go_enter Tryz.func178,Tryz.ntmps178;go_wp2_with (first|refine sL ?_|(refine sS ?_;clear H;intros;rename_i H)|(go_at_call 172;with_reducible refine same (HPA.out _ (H.known HK pk) (H.known HK pk)) ?_));refine zG H 16 [] [] (by kernel_rfl) (by kernel_rfl) ?_;apply Exists.intro;refine ⟨fun w1 hw1 HX=>?_,fun bs wr Hr=>?_⟩
   ·refine sG ?_;repeat (first|go_big_quiet_skip|refine sQ ?_|((with_reducible refine yp ?_);first|(refine QtLoad.cel rfl rfl rfl rfl (fun y=>HC7.out _ ((HX y).known HK (A:=zc ze 265 8 (.slice (some ⟨g,0,none⟩) (n+1) c) (fs1++[f])) pk)) ?_;simp only [Act.put,puA,puB,puC])|(refine QtLoad.cel rfl rfl rfl rfl (fun y=>HC5.out _ ((HX y).known HK (A:=zc ze 265 8 (.slice (some ⟨g,0,none⟩) (n+1) c) (fs1++[f])) pk)) ?_;simp only [Act.put,puA,puB,puC]))|go_big_quiet_step (fail))
    exact wpQuiet_nil rfl
   clear H;have H:=Hr;clear Hr;replace H:=sH H;refine sT ?_;go_wp2_with (first|refine sL ?_|(refine sS ?_;clear H;intros;rename_i H));go_ret2;exact ⟨rfl,H.nix⟩
  ·rw [if_neg hlv] at HPA;rw [if_neg hlv];clear he hz ga hal hm HN20 hfr hpp hn hlen hfx hrun hlv hX hc1 hc2;go_enter Tryz.func178,Tryz.ntmps178;go_wp2_with (first|refine sL ?_|(refine sS ?_;clear H;intros;rename_i H)|(go_at_call 172;with_reducible refine same (HPA.out _ (H.known HK pk) (H.known HK pk)) ?_));go_ret2;exact ⟨rfl,H.nix⟩
end
section
open Go.RowKit Go.Maps
attribute [local go_sem] qt
theorem St.join3 {w0 w:World} {M:List Nat} {R:List As} {A B C:As} (h:St w0 M (A::B::C::R) w):St w0 M (A.sep (B.sep C)::R) w:=by
 have h1:=(h.pick2 (A:=B) (B:=C) (.there .here) (.there .here)).join;exact (h1.pick (.there .here)).join
structure DropIn (X:Px) (a:Tr) (bk:Bool) (m o:Nat) (cs cs1:Array Value) (pv1:Value) (fs1:List Fr) (p1:List (Tr×Nat)) (n1:Nat) (d':qK):Prop where
 at_:EndAt cs1 o X.p bk pv1 0 0
 path:PathOf X.S bk p1 fs1
 zip:∃ x,Zip a p1 x
 alike:AlikeBut cs cs1 o
 hv:∀ q p',p1=q::p'->n1<=hvT bk q
 lt:n1<9223372036854775808
 way:qZ bk m n1 p1=d'
def DropRel (X:Px) (a:Tr) (bk:Bool) (m b o:Nat) (ty:TypeId) (cs:Array Value) (d':qK) (M:List Nat) (w:World) (lv:Nat) (v1 v6 v7:Value) (wr:World):Prop :=
 ∃ (cs1:Array Value) (pv1:Value) (fs1:List Fr) (p1:List (Tr×Nat)) (n1:Nat),v1=.int .i64 n1∧v6=.int .i64 (fs1.length:Nat)∧lv=fs1.length∧DropIn X a bk m o cs cs1 pv1 fs1 p1 n1 d' ∧
  St w M [pA X,blk b (.cells cs1 ty),zc ze 265 8 pv1 fs1] wr
attribute [local go_sem] StStep jw yM in
theorem Yu {X:Px} {a:Tr} {bk:Bool} {m b o id ky nt:Nat} {ty:TypeId} {d:qK} {cs:Array Value} {pv:Value} {fs:List Fr} (hX:zK X) (he:EndIn X bk cs o pv fs id ky d) (hz:EndZ a d) (ga:a.Gd) (hal:a.lv<=25339) (hm:m<9223372036854775808) (hnt:∀ q p',d.1=q::p'->nt<=hvT bk q) (hnt2:nt<9223372036854775808) (w:World) (h:(((pA X).sep ((blk b (.cells cs ty)).sep (zc ze 265 8 pv fs))).sep deA).ho w) :
  Calls zb 180 #[.pointer (some ⟨b,o,none⟩),.int .i64 nt,.int .i64 m] w (xY X bk b o ty cs (qZ bk m nt d.1) ((pA X).sep ((blk b (.cells cs ty)).sep (zc ze 265 8 pv fs))).fp w (.tuple #[])):=by
 rw [qz] at h;obtain ⟨k1,k2,hdd⟩:=h;have H:=St.one k1;have HK:Ks w ((pA X).sep ((blk b (.cells cs ty)).sep (zc ze 265 8 pv fs))).fp [deA]:=⟨by simpa using k2,by simpa using fun b hb hm=>hdd b hm hb⟩
 generalize ((pA X).sep ((blk b (.cells cs ty)).sep (zc ze 265 8 pv fs))).fp=M at *;replace H:=H.sep;replace H:=(H.pick (.there .here)).sep;clear k1 k2 hdd;have hex:∃ x,Zip a d.1 x:=by
  obtain ⟨p,s⟩:=d;cases s with
  |none=>have:p=[]:=hz;subst this;exact ⟨a,.root⟩
  |some x=>exact ⟨x,hz⟩
 obtain ⟨d',hd'⟩:∃ d',qZ bk m nt d.1=d':=⟨_,rfl⟩
 have hat1:=(he.at_.setId 0).setKey 0;have HSZ:Hid (o+5<=cs.size):=zh he.at_.sz;have HSZa:Hid (o+5<=(cs.setIfInBounds (o+3) (.int .i64 (0:Nat))).size):=zh (by rw [yD];exact he.at_.sz);obtain ⟨csa,hcsa⟩:∃ c,cs.setIfInBounds (o+3) (.int .i64 0)=c:=⟨_,rfl⟩
 have HCSA:=zh hcsa;obtain ⟨csb,hcsb⟩:∃ c,csa.setIfInBounds (o+4) (.int .u64 0)=c:=⟨_,rfl⟩
 have HCSB:=zh hcsb;have hat1':EndAt csb o X.p bk pv 0 0:=(by rw [← hcsb,← hcsa];exact hat1);have hal1:AlikeBut cs csb o:=by
  have h1:=AlikeBut.set cs o (o+3) (.int .i64 0) (by omega) (by omega);have h2:=AlikeBut.set csa o (o+4) (.int .u64 0) (by omega) (by omega);rw [hcsa] at h1;rw [hcsb] at h2;exact h1.trans h2
 have HSA:Hid (o+5<=csa.size):=zh (by rw [← hcsa,yD];exact he.at_.sz);have HIN:Hid (DropIn X a bk m o cs csb pv fs d.1 nt d'):=zh ⟨hat1',he.path,hex,hal1,hnt,hnt2,hd'⟩;have HATB:=zh hat1';have HX:=zh hX;have HGA:=zh (za ga hal);have HM:=zh hm;obtain ⟨ad,c0,e1,hl0⟩:=zE (H.get (A:=zc ze 265 8 pv fs) pk);obtain ⟨n0,hn0⟩:∃ n,fs.length=n:=⟨_,rfl⟩
 rw [hn0] at e1;rw [hd'];have HN0:=zh hn0;have HL0:=zh hl0;subst e1;clear hX he hz ga hal hm hnt hnt2 hex hd' hat1 hcsa hcsb hat1' hal1 hn0 hl0 HSZa;go_enter Tryz.func180,Tryz.ntmps180;go_wp2_with (first|refine sL ?_|(refine sS ?_;clear H;intros;rename_i H)|((with_reducible refine qh ?_);first|(refine AtLoad.cel rfl rfl rfl rfl (zV (H.get (A:=blk b (.cells csb ty)) pk) HATB.out.c2) ?_;simp only [Act.put,puA,puB,puC]))|((with_reducible refine yl ?_);refine AtStore.cell H rfl rfl rfl rfl rfl (qL (qB rfl)) (cs:=cs) pk (by have:=HSZ.out;omega) HCSA.out ?_;clear H;intro _ H;simp only [Act.put,puA,puB,puC])|((with_reducible refine yl ?_);refine AtStore.cell H rfl rfl rfl rfl rfl (qL (qB rfl)) (cs:=csa) pk (by have:=HSA.out;omega) HCSB.out ?_;clear H;intro _ H;simp only [Act.put,puA,puB,puC]));go_loopg [1,6,7] n0 (fun lv v1 v6 v7 wr=>DropRel X a bk m b o ty cs d' M w lv v1 v6 v7 wr);case atStart=>exact ⟨csb,_,fs,d.1,nt,rfl,by rw [HN0.out],HN0.out.symm,HIN.out,H.picks (.cons pk (.cons pk (.cons pk .nil)))⟩
 case round =>
  clear H HIN HN0 HL0 HATB HCSA HCSB HSA HSZ;obtain ⟨cs1,pv1,fs1,p1,n1,rfl,rfl,rfl,hin,H⟩:=hrel;have HAT1:=zh hin.at_;have HIN:=zh hin;rcases yn fs1 with rfl|⟨fs2,f,rfl⟩
  ·have hp:p1=[]:=qe (by have:=hin.path.len;simpa using this.symm);subst hp;have hw:=hin.way;rw [show qZ bk m n1 []=([],none) from rfl] at hw;subst hw;clear hin;simp only [zC];go_wp2_with (first|refine sL ?_|(refine sS ?_;clear H;intros;rename_i H));refine nR ?_;exact ⟨X,cs1,_,_,0,0,rfl,.refl _,HX.out,rfl,⟨HIN.out.at_,HIN.out.path,rfl,rfl⟩,HIN.out.alike,H.picks (.cons pk (.cons pk (.cons pk .nil)))⟩
  ·obtain ⟨q,p,rfl,hfr,hpp⟩:=hin.path.last;obtain ⟨g,c,e1,hc1,hc2⟩:=q8 (H.get (A:=zc ze 265 8 pv1 (fs2++[f])) pk) (by simp);obtain ⟨n,hn⟩:∃ n,fs2.length=n:=⟨_,rfl⟩
   have hlen:(fs2++[f]).length=n+1:=(by simp [hn]);rw [hlen] at e1 hc1;rw [hlen];subst e1;obtain ⟨xz,hxz⟩:=hin.zip;have hroom:=hxz.room HGA.out.1;have hplen:(q::p).length=n+1:=(by rw [← hin.path.len];exact hlen);have hn20:n<=1048576:=(by have:=HGA.out.2;rw [hplen] at hroom;omega);have hfx:(fs2++[f])[n]?=some f:=(by rw [← hn];simp);have hle:n1<=f.hv:=(by rw [hfr.hvT];exact hin.hv q p rfl);have hdt:=dropT_eq (bk:=bk) (m:=m) (n:=n1) (p:=p) hfr.lt;rw [← hfr.hvT,hin.way] at hdt;obtain ⟨hv2,hhv2⟩:∃ h,f.hv-n1=h:=⟨_,rfl⟩
   have d0:(f.hv:Int)-(n1:Int)=(hv2:Nat):=(by omega);have hv2b:hv2<=1152921504606846976:=(by have:=hfr.hv_le HX.out.ok;omega);obtain ⟨f2,hf2⟩:∃ f2:Fr,f2=⟨f.id,f.r,f.lev,hv2⟩:=⟨_,rfl⟩
   have HSE:Hid (ze f2=(ze f).set 7 (.int .i64 (hv2:Nat))):=zh (by rw [hf2];rfl);have HSET:Hid ((fs2++[f]).set n f2=fs2++[f2]):=zh (by rw [← hn];simp);have hfx2:(fs2++[f2])[n]?=some f2:=(by rw [← hn];simp);have HC7:Hid (∀ w,(zc ze 265 8 (.slice (some ⟨g,0,none⟩) (n+1) c) (fs2++[f])).ho w->w.cell? ⟨g,n*8+7,none⟩=some (.int .i64 f.hv)):=zh fun w h=>xg h hfx rfl
   have HD7:Hid (∀ w,(zc ze 265 8 (.slice (some ⟨g,0,none⟩) (n+1) c) (fs2++[f2])).ho w->w.cell? ⟨g,n*8+7,none⟩=some (.int .i64 (hv2:Nat))):=zh fun w h=>xg h hfx2 (by rw [hf2];rfl)
   have HDW:Hid (∀ w,(zc ze 265 8 (.slice (some ⟨g,0,none⟩) (n+1) c) (fs2++[f2])).ho w->w.rangeAt g (n*8) [.int .i64 f.id,.int .i64 f.r.kind,.int .u8 f.r.letter,.int .i64 f.r.left,.int .i64 f.r.right,.int .i64 f.r.times,.int .i64 f.lev,.int .i64 (hv2:Nat)]):=zh fun w h=>by
    have:=wd h xM hfx2;rw [hf2] at this;exact this
   have HFX:=zh hfx;have HNN:=zh hn;have HSZ1:Hid (o+5<=cs1.size):=zh hin.at_.sz;by_cases hlt:n1<f.hv
   ·rw [if_pos hlt] at hdt;obtain ⟨q2,hq2⟩:∃ q2:Tr×Nat,(q.1,if bk then q.2+n1 else q.2-n1)=q2:=⟨_,rfl⟩
    have hj2:(if bk then q.2+n1 else q.2-n1)=q2.2:=(by rw [← hq2]);have hfr2:FrOf X.S bk q2 f2:=(by rw [← hq2,hf2,← hhv2];exact hfr.less hlt);obtain ⟨ch,hch,hdc⟩:=hfr2.child HX.out.ok;have hz2:Zip a (q2::p) ch:=by
     rw [← hq2];rw [← hq2] at hch;exact Zip.down hxz.tail.1 hch
    have hcg:=(hz2.gd HGA.out.1).1;have hcroom:=hz2.room HGA.out.1;have hgd:(zR q.1).getD (if bk then q.2+n1 else q.2-n1) q.1=ch:=by
     have:(zR q.1)[if bk then q.2+n1 else q.2-n1]?=some ch:=by rw [hj2];rw [← hq2] at hch ⊢;exact hch
     rw [Zn,this];rfl
    rw [hgd,hq2] at hdt;have d1:decide ((0:Int)<((hv2:Nat):Int))=true:=(by simp;omega);have d2:decide (0<hv2)=true:=(by simp;omega);obtain ⟨ci,hci⟩:∃ ci,jR bk f2=ci:=⟨_,rfl⟩
    have HCH:Hid (∀ w,Calls zb 160 #[.agg #[.int .i64 f.id,.int .i64 f.r.kind,.int .u8 f.r.letter,.int .i64 f.r.left,.int .i64 f.r.right,.int .i64 f.r.times,.int .i64 f.lev,.int .i64 (hv2:Nat)],.bool bk] w fun e w'=>e=.returned (.int .i64 ci)∧St w [] [] w'):=zh fun w=>by
     have:=QU f2 bk w;rw [hci,hf2] at this;exact this
    rw [hci] at hdc;have hat2:=hin.at_.setId ci;obtain ⟨cs2,hcs2⟩:∃ c,cs1.setIfInBounds (o+3) (.int .i64 ci)=c:=⟨_,rfl⟩
    have HCS2:=zh hcs2;rw [hcs2] at hat2;have HAL:Hid (AlikeBut cs cs2 o):=zh (by
     have h1:=AlikeBut.set cs1 o (o+3) (.int .i64 ci) (by omega) (by omega);rw [hcs2] at h1;exact hin.alike.trans h1)
    have hpath2:PathOf X.S bk (q2::p) (fs2++[f2]):=⟨fs2,f2,rfl,hfr2,hpp⟩
    have hlen2:(fs2++[f2]).length=n+1:=(by simp [hn]);have HDN:Hid (∀ w,(((pA X).sep ((blk b (.cells cs2 ty)).sep (zc ze 265 8 (.slice (some ⟨g,0,none⟩) (n+1) c) (fs2++[f2])))).sep deA).ho w->Calls zb 161 #[.pointer (some ⟨b,o,none⟩),.int .i64 m] w fun e w'=>∃ (X':Px) (cs':Array Value) (pv':Value) (fs':List Fr) (id':Nat),e=.returned (.tuple #[])∧X.Ext X'∧zK X'∧X'.S=X.S∧EndAt cs' o X.p bk pv' id' d'.2.get!.key∧AlikeBut cs2 cs' o∧PathOf X'.S bk d'.1 fs'∧Den X'.S id' d'.2.get!∧St w ((pA X).sep ((blk b (.cells cs2 ty)).sep (zc ze 265 8 (.slice (some ⟨g,0,none⟩) (n+1) c) (fs2++[f2])))).fp [pA X',blk b (.cells cs' ty),zc ze 265 8 pv' fs'] w'):=zh fun w h=>by
     rw [hdt];exact down_c HX.out hat2 hdc hcg hpath2 (lim:=1048576) (by omega) (by have:=HGA.out.2;simp only [zw] at hcroom hplen;rw [hlen2];omega) HM.out w h
    have hsome:d'.2=some d'.2.get!:=(by rw [hdt];rfl);have HSOME:=zh hsome;clear hin hfr hpp hlen hxz hroom hplen hfx hle hdt hhv2 hf2 hfx2 hlt hq2 hj2 hfr2 hch hdc hz2 hcg hcroom hgd hci hat2 hcs2 hpath2 hlen2 hsome hn hc1 hc2;go_wp2_with (first|refine sL ?_|(refine sS ?_;clear H;intros;rename_i H)|((with_reducible refine qh ?_);first|(refine AtLoad.cel rfl rfl rfl rfl (zV (H.get (A:=blk b (.cells cs1 ty)) pk) HAT1.out.c2) ?_;simp only [Act.put,puA,puB,puC])|(refine AtLoad.cel rfl rfl rfl rfl (HC7.out _ (H.get pk)) ?_;simp only [Act.put,puA,puB,puC])|(refine AtLoad.cel rfl rfl rfl rfl (HD7.out _ (H.get pk)) ?_;simp only [Act.put,puA,puB,puC]))|((with_reducible refine yl ?_);refine AtStore.rowAk (enc:=ze) (k:=8) (n:=n+1) (c:=c) (i:=n) (j:=7) H rfl rfl rfl rfl rfl rfl pk xM HFX.out (by omega) rfl f2 HSE.out ?_;clear H;intro _ H;rw [HSET.out] at H;simp only [Act.put,puA,puB,puC]));refine zG H 9 [] [] (by kernel_rfl) (by kernel_rfl) ?_;apply Exists.intro;refine ⟨fun w1 hw1 HX=>?_,fun bs wr Hr=>?_⟩
    ·refine sG ?_;repeat (first|go_big_quiet_skip|refine sQ ?_|((with_reducible refine yp ?_);first|(refine QtLoad.rngT rfl rfl rfl (fun y=>HDW.out _ ((HX y).get (A:=zc ze 265 8 (.slice (some ⟨g,0,none⟩) (n+1) c) (fs2++[f2])) pk)) rfl ?_;simp only [Act.put,puA,puB,puC])|(refine QtLoad.cel rfl rfl rfl rfl (fun y=>zV ((HX y).get (A:=blk b (.cells cs1 ty)) pk) HAT1.out.c1) ?_;simp only [Act.put,puA,puB,puC]))|go_big_quiet_step ((go_at_call 160;with_reducible exact wL (HCH.out _)))|go_big_quiet_step (fail))
     exact wpQuiet_nil rfl
    clear H;have H:=Hr;clear Hr;replace H:=sH H;refine sT ?_;go_wp2_with (first|refine sL ?_|(refine sS ?_;clear H;intros;rename_i H)|((with_reducible refine yl ?_);refine AtStore.cell H rfl rfl rfl rfl rfl (qL (qB rfl)) (cs:=cs1) pk (by have:=HSZ1.out;omega) HCS2.out ?_;clear H;intro _ H;simp only [Act.put,puA,puB,puC])|(go_at_call 161;with_reducible refine zm (HDN.out _ ((St.join3 (H.pick3 (A:=pA X) (B:=blk b (.cells cs2 ty)) (C:=zc ze 265 8 (.slice (some ⟨g,0,none⟩) (n+1) c) (fs2++[f2])) pk pk pk)).sepK HK pk pk)) ?_;rintro e wc ⟨X2,cs3,pv3,fs3,id3,rfl,y1,y2,y3,y4,y5,y6,y7,hb⟩;have HY:=zh (za y1 (za y2 (za y3 (za y4 (za y5 (za y6 y7))))));clear y1 y2 y3 y4 y5 y6 y7;replace H:=zn ((St.join3 (H.pick3 (A:=pA X) (B:=blk b (.cells cs2 ty)) (C:=zc ze 265 8 (.slice (some ⟨g,0,none⟩) (n+1) c) (fs2++[f2])) pk pk pk)).call hb);clear hb));refine nR ?_;have hy:=HY.out;refine ⟨X2,cs3,pv3,fs3,id3,_,rfl,hy.1,hy.2.1,hy.2.2.1,⟨by rw [hy.1.p];exact hy.2.2.2.1,hy.2.2.2.2.2.1,?_⟩,HAL.out.trans hy.2.2.2.2.1,H.picks (.cons pk (.cons pk (.cons pk .nil)))⟩;rw [HSOME.out];exact ⟨hy.2.2.2.2.2.2,rfl⟩
   ·rw [if_neg hlt] at hdt;obtain rfl:hv2=0:=by omega
    have hat2:=hin.at_.setPath (.slice (some ⟨g,0,none⟩) n c);obtain ⟨cs2,hcs2⟩:∃ c',cs1.setIfInBounds (o+2) (.slice (some ⟨g,0,none⟩) n c)=c':=⟨_,rfl⟩
    have HCS2:=zh hcs2;rw [hcs2] at hat2;have HAT2:=zh hat2;have HNEXT:Hid (DropIn X a bk m o cs cs2 (.slice (some ⟨g,0,none⟩) n c) fs2 p 1 d'):=zh ⟨hat2,hpp,⟨_,hxz.tail.1⟩,by
     have h1:=AlikeBut.set cs1 o (o+2) (.slice (some ⟨g,0,none⟩) n c) (by omega) (by omega);rw [hcs2] at h1;exact hin.alike.trans h1,fun q' p' e=>by
      have:=hxz.tail.1.lt q' (by rw [e];simp);unfold hvT;cases bk <;> simp <;> omega,by omega,hdt.symm⟩
    have HCB:=zh (za hc1 hc2);clear hin hfr hpp hlen hxz hroom hplen hfx hle hdt hhv2 hf2 hfx2 hlt hat2 hcs2 hn;go_wp2_with (first|refine sL ?_|(refine sS ?_;clear H;intros;rename_i H)|((with_reducible refine qh ?_);first|(refine AtLoad.cel rfl rfl rfl rfl (zV (H.get (A:=blk b (.cells cs1 ty)) pk) HAT1.out.c2) ?_;simp only [Act.put,puA,puB,puC])|(refine AtLoad.cel rfl rfl rfl rfl (HC7.out _ (H.get pk)) ?_;simp only [Act.put,puA,puB,puC])|(refine AtLoad.cel rfl rfl rfl rfl (HD7.out _ (H.get pk)) ?_;simp only [Act.put,puA,puB,puC]))|((with_reducible refine yl ?_);refine AtStore.rowAk (enc:=ze) (k:=8) (n:=n+1) (c:=c) (i:=n) (j:=7) H rfl rfl rfl rfl rfl rfl pk xM HFX.out (by omega) rfl f2 HSE.out ?_;clear H;intro _ H;rw [HSET.out] at H;simp only [Act.put,puA,puB,puC])|((with_reducible refine yl ?_);refine AtStore.cell H rfl rfl rfl rfl rfl (qL (qB rfl)) (cs:=cs1) pk (by have:=HSZ1.out;omega) HCS2.out ?_;clear H;intro _ H;simp only [Act.put,puA,puB,puC])|((with_reducible refine qh ?_);first|(refine AtLoad.cel rfl rfl rfl rfl (zV (H.get (A:=blk b (.cells cs2 ty)) pk) HAT2.out.c2) ?_;simp only [Act.put,puA,puB,puC])));have H2:=(H.pick (A:=zc ze 265 8 (.slice (some ⟨g,0,none⟩) (n+1) c) (fs2++[f2])) pk).cut xM HNN.out;clear H;go_roundg n;case measure=>have:=HNN.out;simp;omega
    case rel=>exact ⟨cs2,_,fs2,p,1,rfl,by rw [HNN.out],HNN.out.symm,HNEXT.out,H2.picks (.cons pk (.cons pk (.cons pk .nil)))⟩
end
section
def yO (bk:Bool) (t:Tr) (n:Nat):Nat:=match t with
 |.leaf _=>0
 |.pair l r=>if (if bk then r.len else l.len)<n then 2 else 1
 |.pow s _=>(n-1)/s.len+1
def QX (bk:Bool):Tr->Tr
 |.pair l r=>if bk then r else l
 |.pow s _=>s
 |t=>t
theorem take_rep {α:Type} (l:List α) (k q n:Nat) (hq:q<k) (hn:n<=l.length):((zd k l).flatten).take (q*l.length+n)=(zd q l).flatten++l.take n:=by
 obtain ⟨d,rfl⟩:∃ d,k=q+(d+1):=⟨k-q-1,by omega⟩
 rw [← List.replicate_append_replicate,Xy,Zy];have h1:((zd q l).flatten).length=q*l.length:=(by simp);rw [h1,qp (by omega),show q*l.length+n-q*l.length=n by omega];congr 1
 rw [zS,List.flatten_cons,XW hn]
theorem drop_rep {α:Type} (l:List α) (k q n:Nat) (hq:q<k) (hn:n<=l.length):((zd k l).flatten).drop (k*l.length-(q*l.length+n))=l.drop (l.length-n)++(zd q l).flatten:=by
 obtain ⟨d,rfl⟩:∃ d,k=d+(1+q):=⟨k-q-1,by omega⟩
 rw [← List.replicate_append_replicate,Xy];have h1:((zd d l).flatten).length=d*l.length:=(by simp);have h2:(d+(1+q))*l.length=d*l.length+(l.length+q*l.length):=(by rw [xl,xl,QK]);rw [List.drop_append,h1,h2,yo (by omega),zv,show d*l.length+(l.length+q*l.length)-(q*l.length+n)-d*l.length=l.length-n by omega];rw [kf 1 q,zS,List.flatten_cons,XU (by omega)]
structure EndSt (bk:Bool) (t:Tr) (p:List (Tr×Nat)) (n:Nat) (j n':Nat) (c:Tr):Prop where
 kid:(zR t)[j]?=some c
 pos:1<=n'
 le:n'<=c.len
 left:bk=false->qi 0 p++(t.lay 0).take n=qi 0 ((t,j)::p)++(c.lay 0).take n'
 right:bk=true->(t.lay 0).drop (t.len-n)++tl 0 p=(c.lay 0).drop (c.len-n')++tl 0 ((t,j)::p)
theorem end_step {bk:Bool} {t:Tr} {p:List (Tr×Nat)} {n:Nat} (hg:t.Gd) (h1:1<=n) (h2:n<t.len) :
  1<=yO bk t n∧yO bk t n<=(zR t).length∧(yO bk t n-1)*(QX bk t).len<n∧∃ c,EndSt bk t p n (if bk then (zR t).length-yO bk t n else yO bk t n-1) (n-(yO bk t n-1)*(QX bk t).len) c:=by
 cases t with
 |leaf b=>simp [Tr.len] at h2;omega
 |pair l r =>
  have gl:=(hg.kid (c:=l) (by simp [zR])).1;have gr:=(hg.kid (c:=r) (by simp [zR])).1;have hlay:(Tr.pair l r).lay 0=l.lay 0++r.lay 0:=by
   rw [x7 (by have:=(hg.kid (c:=l) (by simp [zR])).2;omega)];simp [zR]
  have ll:=xP gl;have lr:=xP gr;simp only [Tr.len] at h2;cases bk with
  |false =>
   by_cases hn:l.len<n
   ·have e:yO false (.pair l r) n=2:=(by simp [yO,hn]);rw [e];simp only [xA,if_false,QX,QI,QK,zR,zw,zC];refine ⟨by omega,by omega,by omega,r,rfl,by omega,by omega,fun _=>?_,fun h=>by cases h⟩;rw [hlay];simp only [qi,zR,List.take_succ_cons,jA,zt,wW,qO,zQ];congr 1
    rw [Zy,ll,qp (by omega)]
   ·have e:yO false (.pair l r) n=1:=(by simp [yO,hn]);rw [e];simp only [xA,if_false,QX,QL,QM,Nat.sub_zero,zR,zw,zC];refine ⟨by omega,by omega,by omega,l,rfl,by omega,by omega,fun _=>?_,fun h=>by cases h⟩;rw [hlay];simp only [qi,zR,jA,wW,qO];rw [XW (by omega)]
  |true =>
   by_cases hn:r.len<n
   ·have e:yO true (.pair l r) n=2:=(by simp [yO,hn]);rw [e];simp only [if_true,QX,QI,QK,zR,zw,zC];refine ⟨by omega,by omega,by omega,l,rfl,by omega,by omega,(fun h=>by cases h),fun _=>?_⟩;rw [hlay];simp only [tl,zR,wQ,yw,zt,wW,qO,Tr.len];rw [XU (by omega),show l.len+r.len-n=l.len-(n-r.len) by omega];simp
   ·have e:yO true (.pair l r) n=1:=(by simp [yO,hn]);rw [e];simp only [if_true,QX,QL,QM,Nat.sub_zero,zR,zw,zC];refine ⟨by omega,by omega,by omega,r,rfl,by omega,by omega,(fun h=>by cases h),fun _=>?_⟩;rw [hlay];simp only [tl,zR,wQ,yw,List.drop_nil,wW,zv,Tr.len];rw [List.drop_append,ll,yo (l:=l.lay 0) (by omega),show l.len+r.len-n-l.len=r.len-n by omega];simp
 |pow s k =>
  have hk:2<=k:=hg.2.2;have gs:=(hg.kid (c:=s) (wq.2 ⟨by omega,rfl⟩)).1;have hs:=ja gs.2;have ls:=xP gs;have hlay:(Tr.pow s k).lay 0=(zd k (s.lay 0)).flatten:=by
   rw [x7 (by have:=(hg.kid (c:=s) (wq.2 ⟨by omega,rfl⟩)).2;omega)];simp [zR,jc]
  simp only [Tr.len] at h2;obtain ⟨q,hq⟩:∃ q,(n-1)/s.len=q:=⟨_,rfl⟩
  obtain ⟨r,hr⟩:∃ r,(n-1)%s.len=r:=⟨_,rfl⟩
  have hdm:=Nat.div_add_mod (n-1) s.len;have hrl:=qM (n-1) (show 0<s.len by omega);rw [hq,hr,xO] at hdm;rw [hr] at hrl;have hqk:q<k:=by
   refine vD fun h=>?_
   have:=y9 s.len h;rw [xO k] at this;omega
  have e:yO bk (.pow s k) n=q+1:=(by simp [yO,hq]);rw [e];have e2:n=q*s.len+(r+1):=(by omega);have e3:n-q*s.len=r+1:=(by omega);simp only [QX,QI,zR,qr];rw [e3];refine ⟨by omega,by omega,by omega,s,?_,by omega,by omega,fun hb=>?_,fun hb=>?_⟩
  ·simp only [zR];rw [x4,if_pos (by split <;> omega)]
  ·subst hb;simp only [xA,if_false,qi,zR,zQ];congr 1
   rw [hlay,e2,← ls,take_rep _ _ _ _ hqk (by omega),List.take_replicate,kF (by omega),jc]
  ·subst hb;simp only [if_true,tl,zR,Tr.len];rw [hlay,e2,xO s.len k,← ls,drop_rep _ _ _ _ hqk (by omega),zQ];congr 1
   rw [List.drop_replicate,show k-(k-(q+1)+1)=q by omega,jc]
end
section
open Go.RowKit Go.Maps Go.Lib
attribute [local go_sem] qt
structure ItR where
 id:Nat
 nx:Nat
 ky:Nat
 n:Nat
def ItR.cells (i:ItR):List Value:=[.int .i64 i.id,.int .i64 i.nx,.int .u64 i.ky,.int .i64 i.n]
def zj (i:ItR):List Value:=i.cells
theorem q7:∀ i,(zj i).length=4:=fun _=>rfl
theorem w9:∀ i,∀ u∈zj i,u.oneCell'=true:=by
 intro i u hu;simp only [zj,ItR.cells,zL,List.not_mem_nil,or_false] at hu;rcases hu with rfl|rfl|rfl|rfl <;> rfl
theorem flatG_one {α:Type} {enc:α->List Value} (h1:∀ x,∀ u∈enc x,u.oneCell'=true) (xs:List α):∀ u∈zU enc xs,u.oneCell'=true:=fun u hu=>by
 obtain ⟨y,_,hy⟩:=List.mem_flatMap.1 hu;exact h1 y u hy
theorem putC_both (C:Array Value) (xs ys:List Value) (h:xs.length+ys.length<=C.size):(xK (xK C 0 xs) xs.length ys).toList.take (xs.length+ys.length)=xs++ys:=by
 apply Zm;intro p;rw [wh];split
 ·rename_i hp;rw [Array.getElem?_toList,vU _ _ _ (by rw [wb _ _ _ (by omega)];exact h),yS];by_cases h1:p<xs.length
  ·rw [if_pos h1,if_pos h1,vU _ _ _ (by omega),if_neg (by omega),if_pos (by omega),Nat.sub_zero]
  ·rw [if_neg h1,if_neg h1,if_pos hp]
 ·rename_i hp;rw [Qm (by rw [zi];omega)]
theorem putC_both2 (C:Array Value) (xs ys:List Value) (h:xs.length+ys.length<=C.size):(xK (xK C xs.length ys) 0 xs).toList.take (xs.length+ys.length)=xs++ys:=by
 apply Zm;intro p;rw [wh];split
 ·rename_i hp;rw [Array.getElem?_toList,vU _ _ _ (by rw [wb _ _ _ (by omega)];omega),yS,if_neg (by omega)];by_cases h1:p<xs.length
  ·rw [if_pos h1,if_pos (by omega),Nat.sub_zero]
  ·rw [if_neg h1,if_neg (by omega),vU _ _ _ (by omega),if_neg h1,if_pos hp]
 ·rename_i hp;rw [Qm (by rw [zi];omega)]
section
variable {ops:Array Oper} {Q:Exit->Act->World->Prop} {rest:List Oper} {a:Act} {w w0:World} {M:List Nat} {L R:List As} {o1:Oper} {dst:Option Tmp} {ty0:TypeId} {pos:String} {aft:Array Edge} {gd:Option (Nat×Bool)}
theorem JS {P:Program} {w:World} {dT sT ty elem:TypeId} {k g o dLen dCap:Nat} {a:Addr} {sLen sCap:Nat} {cur:Array Value} {t:TypeId} {cs:List Value}
  (hu:P.underlying dT=some (.slice elem)) (hs:(P.info? elem).map (·.size)=some k)
  (hg:w.heap[g]?=some (.cells cur t (0,0))) (hn:cs.length=QF sLen dLen*k)
  (hsrc:∀ j v,cs[j]?=some v->w.cell? (a.add j)=some v) (hfit:o+cs.length<=cur.size) (h1:∀ v∈cs,v.oneCell'=true) :
  (Builtin.copy_ #[dT,sT] ty #[.slice (some ⟨g,o,none⟩) dLen dCap,.slice (some a) sLen sCap]).run P w =
   .ok (goInt (QF sLen dLen)) (w.setRow g (xK cur o cs)):=by
 have hl:=run_loadCells_list (P:=P) w a cs hsrc;have hst:=run_storeCells_at P g o t cs 0 cur w hg (by simpa using hfit) h1;cases hq:P.info? elem with
 |none=>simp [hq] at hs
 |some i =>
  have hi:i.size=k:=(by simpa [hq] using hs);simp [Builtin.copy_,run_underlying hu,Builtin.lenOf,Builtin.firstCells,sizeOf,typeInfo,hq,hi,← hn,hl,hst,xK]
def AtCopy (P:Program) (ops:Array Oper) (Q:Exit->Act->World->Prop) (o:Oper) (_:TypeId) (_ _:Operand) (rest:List Oper) (a:Act) (w:World):Prop:=wpList P ops Q (o::rest) a w
theorem isCopy {P:Program} {t:TypeId} {x y:Operand} (h:AtCopy P ops Q ⟨dst,.call ⟨.builtin .copy,#[x,y],#[t,t]⟩,ty0,pos,aft,gd⟩ t x y rest a w):wpList P ops Q (⟨dst,.call ⟨.builtin .copy,#[x,y],#[t,t]⟩,ty0,pos,aft,gd⟩::rest) a w:=h
theorem Ju {e:TypeId} {z:Value} {k bytes:Nat} (hi:xx e=some (z,k,bytes)):(zb.info? e).map (·.size)=some k:=by
 obtain ⟨i,h2,h3,h4,h5⟩:=x6 hi;rw [h2];simp [h4]
theorem AtCopy.go {t e:TypeId} {x y:Operand} (H:St w0 M L w) (hw:Region.wanted o1 (yielded ops a.tmps)=true) (ho:o1.op=.call ⟨.builtin .copy,#[x,y],#[t,t]⟩) (hte:yv t=some e) {z:Value} {k bytes:Nat} (hi:xx e=some (z,k,bytes))
  {g o dl dc:Nat} (hx:yU a x=some (.slice (some ⟨g,o,none⟩) dl dc)) {s so sl sc:Nat} (hy:yU a y=some (.slice (some ⟨s,so,none⟩) sl sc)) {cur:Array Value} {tt:TypeId} (hp:Pick L (blk g (.cells cur tt)) R) {cs:List Value} (hn:cs.length=QF sl dl*k) (hsrc:w.rangeAt s so cs) (hfit:o+cs.length<=cur.size) (h1:∀ u∈cs,u.oneCell'=true)
  (h:∀ w',St w0 M (blk g (.cells (xK cur o cs) tt)::R) w'->wpList zb ops Q rest (a.put o1.dst (goInt (QF sl dl))) w'):AtCopy zb ops Q o1 t x y rest a w :=
 wpList_step fun _ hK=>by
  rw [if_pos hw];have H':=H.pick hp;have hg:w.heap[g]?=some (.cells cur tt):=H'.at Pick.here;have hr:=JS (P:=zb) (ty:=o1.type) (dT:=t) (sT:=t) (dCap:=dc) (sCap:=sc) (a:=⟨s,so,none⟩) (yi hte) (Ju hi) hg hn (fun j u hj=>by rw [Addr.add_mid];exact hsrc j u hj) hfit h1;unfold Oper.wp execOp;simp only [ho,resolve,invoke,builtin,Sem.run_bind,Sem.run_pure,Result.andThen_ok,xo,zX,ye,yg hx,yg hy,hr];exact hK _ _ (h _ (H'.setRow Upd.here))
theorem StStep.copy {Rr:Value->World->Prop} {t e:TypeId} {x y:Operand} {o1:Oper} {g:Nat} {cur:Array Value} {tt:TypeId} (H:St w0 M (blk g (.cells cur tt)::L) w) (hw:Region.wanted o1 (yielded ops a.tmps)=true) (ho:o1.op=.call ⟨.builtin .copy,#[x,y],#[t,t]⟩) (hte:yv t=some e) {z:Value} {k bytes:Nat} (hi:xx e=some (z,k,bytes))
  {o dl dc:Nat} (hx:yU a x=some (.slice (some ⟨g,o,none⟩) dl dc)) {s so sl sc:Nat} (hy:yU a y=some (.slice (some ⟨s,so,none⟩) sl sc)) {cs:List Value} (hn:cs.length=QF sl dl*k) (hsrc:w.rangeAt s so cs) (hfit:o+cs.length<=cur.size) (h1:∀ u∈cs,u.oneCell'=true)
  (h:∀ w',St w0 M (blk g (.cells (xK cur o cs) tt)::L) w'->Rr (goInt (QF sl dl)) w'):StStep zb ops o1 a w Rr:=by
 have hg:w.heap[g]?=some (.cells cur tt):=H.at Pick.here;have hr:=JS (P:=zb) (ty:=o1.type) (dT:=t) (sT:=t) (dCap:=dc) (sCap:=sc) (a:=⟨s,so,none⟩) (yi hte) (Ju hi) hg hn (fun j u hj=>by rw [Addr.add_mid];exact hsrc j u hj) hfit h1;exact StStep.val hw (by unfold execOp;simp only [ho,resolve,invoke,builtin,Sem.run_bind,Sem.run_pure,Result.andThen_ok,xo,zX,ye,yg hx,yg hy,hr]) (h _ (H.setRow Upd.here))
theorem YM {P:Program} {w:World} {t tn ty e:TypeId} {i:TypeInfo} {z:Value} (ht:P.underlying t=some (.slice e)) (htn:P.underlying tn=some (.int .i64)) (hi:P.info? e=some i) (hz:i.zero=some z) (hsz:0<i.size) (hb1:0<i.bytes) {g cap m:Nat} (hm:cap<m) (hbytes:m*i.bytes<=140737488355328) :
  (Builtin.append_ #[t,tn] ty #[.slice (some ⟨g,0,none⟩) 0 cap,.int .i64 m]).run P w=.ok (.slice (some ⟨w.heap.size,0,none⟩) m (grownCap w m cap e)) (w.drew.alloc (.cells (Builtin.zeroCells z.cells m++Builtin.zeroCells z.cells (grownCap w m cap e-m)) e)):=by
 have h47:m<=140737488355328:=qs (jg _ hb1) hbytes;have hm0':m≠0:=(by omega);have hw:IntKind.i64.wrap (m:Int)=m:=(by rw [IntKind.wrap_i64];omega);have h48i:¬ (281474976710656<(m:Int)*(i.bytes:Int)):=(by rw [← Yl];omega);have hneg:¬ ((m:Int)<0):=(by omega);have hns:¬ (m*i.size=0):=Nat.mul_ne_zero (by omega) (by omega);have hs0':i.size≠0:=(by omega);have h63':¬ (9223372036854775807<(m:Int)):=(by omega);have hfit:=growslice_fits (need:=m) (old:=cap) (bytes:=i.bytes) (by omega) hbytes;have h48':¬ (281474976710656<Builtin.nextslicecap m cap*i.bytes):=(by omega);have hroom:¬ m<=cap:=(by omega);have hfo:=run_firstCells_some (P:=P) w.drew i.size 0 ⟨g,0,none⟩ 0 cap [] (by simp) (by simp);simp [Builtin.append_,run_underlying ht,run_underlying htn,sizeOf,typeInfo,zeroValue,hi,hz,asInt,asIntOf,hw,hneg,h48i,hns,hm0',hs0',hroom,h63',h48',Question.forced,hfo,newRow,grownCap]
def AtAppZ (P:Program) (ops:Array Oper) (Q:Exit->Act->World->Prop) (o:Oper) (_:TypeId) (_ _:Operand) (rest:List Oper) (a:Act) (w:World):Prop:=wpList P ops Q (o::rest) a w
theorem isAppZ {P:Program} {t tn:TypeId} {x y:Operand} (h:AtAppZ P ops Q ⟨dst,.call ⟨.builtin .append,#[x,y],#[t,tn]⟩,ty0,pos,aft,gd⟩ t x y rest a w):wpList P ops Q (⟨dst,.call ⟨.builtin .append,#[x,y],#[t,tn]⟩,ty0,pos,aft,gd⟩::rest) a w:=h
theorem AtAppZ.fresh {t tn e:TypeId} {x y:Operand} (H:St w0 M L w) (hw:Region.wanted o1 (yielded ops a.tmps)=true) (ho:o1.op=.call ⟨.builtin .append,#[x,y],#[t,tn]⟩) (htn:zb.underlying tn=some (.int .i64)) (hte:yv t=some e) {z:Value} {k bytes:Nat} (hi:xx e=some (z,k,bytes)) (hz:z.cells.size=k) (hk0:0<k) (hb0:0<bytes)
  {g cap m:Nat} {mi:Int} (hx:yU a x=some (.slice (some ⟨g,0,none⟩) 0 cap)) (hy:yU a y=some (.int .i64 mi)) (hmi:mi=(m:Nat)) (hm:cap<m) (hb:m*bytes<=140737488355328)
  (h:∀ g2 cp cur w',m<=cp->cp<=maxLen->cur.size=cp*k->St w0 M (blk g2 (.cells cur e)::L) w'->wpList zb ops Q rest (a.put o1.dst (.slice (some ⟨g2,0,none⟩) m cp)) w'):AtAppZ zb ops Q o1 t x y rest a w :=
 wpList_step fun _ hK=>by
  rw [if_pos hw];subst hmi;obtain ⟨i,h2,h3,h4,h5⟩:=x6 hi;subst h4 h5;have hr:=YM (P:=zb) (w:=w) (ty:=o1.type) (yi hte) htn h2 h3 hk0 hb0 (g:=g) hm hb;unfold Oper.wp execOp;simp only [ho,resolve,invoke,builtin,Sem.run_bind,Sem.run_pure,Result.andThen_ok,xo,zX,ye,yg hx,yg hy,hr];have hge:=grownCap_ge w m cap e;have h47:m<=140737488355328:=qs (jg _ hb0) hb;refine hK _ _ (h _ _ _ _ hge (grownCap_le_maxLen w m cap e (by simp only [maxLen];omega)) ?_ (H.drew.alloc _));simp only [Array.size_append,size_zeroCells,hz,← xl];congr 1
  omega
end
theorem rowsA_ad {α:Type} {enc:α->List Value} {e k n c:Nat} {ad:Option Addr} {xs:List α} {w:World} (h:(zc enc e k (.slice ad n c) xs).ho w):ad=none∨∃ g,ad=some ⟨g,0,none⟩:=by
 rw [ww] at h;rcases h.2 with ⟨h',_⟩|⟨g',cap,cur,h',_⟩
 ·injection h' with e1;exact .inl e1
 ·injection h' with e1;exact .inr ⟨g',e1⟩
theorem YJ {α:Type} {enc:α->List Value} {e k g n c:Nat} {xs:List α} {w0 w:World} {M:List Nat} {R:List As} (h:St w0 M (zc enc e k (.slice (some ⟨g,0,none⟩) n c) xs::R) w):∃ cur:Array Value,n<=c∧c<=maxLen∧xs.length=n∧cur.size=c*k∧cur.toList.take (n*k)=zU enc xs∧St w0 M (blk g (.cells cur e)::R) w:=by
 have hown:=h.ho _ zN;rw [ww] at hown;obtain ⟨hlen,hown⟩:=hown;rcases hown with ⟨h',_⟩|⟨g',cap,cs,h',_,hg,h5,h7,h6,h8⟩
 ·cases h'
 ·injection h' with e1 e2 e3
  injection e1 with e1
  injection e1 with e1
  subst e1 e2 e3;exact ⟨cs,h5,h7,rfl,h6,h8,h.conv (by rw [qS,w8];rfl) fun _=>by rw [xp];exact hg⟩
theorem ZD {α:Type} {enc:α->List Value} {e k g n c:Nat} {xs:List α} {w0 w:World} {M:List Nat} {R:List As} {cur:Array Value} (hk:∀ x,(enc x).length=k) (h:St w0 M (blk g (.cells cur e)::R) w) (h1:n<=c) (h2:c<=maxLen) (h3:xs.length=n) (h4:cur.size=c*k) (h5:cur.toList.take (n*k)=zU enc xs):St w0 M (zc enc e k (.slice (some ⟨g,0,none⟩) n c) xs::R) w :=
 h.conv (by rw [qS,w8];rfl) fun hb=>by
  rw [xp] at hb;rw [ww];subst h3;exact ⟨yW enc k hk xs,.inr ⟨g,c,cur,rfl,qy _,hb,h1,h2,h4,h5⟩⟩
theorem VP {w:World} {g k:Nat} {cur:Array Value} {t:TypeId} {cs:List Value} (hg:(blk g (.cells cur t)).ho w) (h:cur.toList.take k=cs):w.rangeAt g 0 cs:=by
 rw [xp] at hg;intro j u hj;rw [cell_of_row w g (0+j) cur t (0,0) hg];rw [← h,wh] at hj;split at hj
 ·simpa using hj
 ·cases hj
end
section
open Go.RowKit Go.Maps Go.Lib
attribute [local go_sem] qt
section
variable {ops:Array Oper} {a:Act} {w:World} {o:Oper} {Rr:Value->World->Prop}
theorem run_segK {t e:TypeId} (hte:yv t=some e) {z:Value} {k bytes:Nat} (hi:xx e=some (z,k,bytes)) {g n c l:Nat} (h1:l<=n) (w:World) :
  (Instr.sliceAt t (.slice (some ⟨g,0,none⟩) n c) (some (.int .i64 (l:Nat))) none none).run zb w=.ok (.slice (some ⟨g,if c=l then 0 else l*k,none⟩) (n-l) (c-l)) w:=by
 obtain ⟨i,e2,e3,e4,e5⟩:=x6 hi;have hu:=yi hte;have hb2:(Instr.sliceBound (Value.int .i64 (l:Nat)) n .sliceB).run zb w=.ok l w:=by
  unfold Instr.sliceBound;simp [asIntOf,h1]
 by_cases hcl:c=l
 ·simp [Instr.sliceAt,Instr.slice,Instr.sliceBounds,run_underlying hu,sizeOf,typeInfo,e2,Sem.run_bind,Result.andThen,hb2,Addr.add,hcl]
 ·simp [Instr.sliceAt,Instr.slice,Instr.sliceBounds,run_underlying hu,sizeOf,typeInfo,e2,Sem.run_bind,Result.andThen,hb2,Addr.add,hcl,e4];try omega
theorem StStep.segK {t e:TypeId} {x y:Operand} (hw:Region.wanted o (yielded ops a.tmps)=true) (ho:o.op=.slice t x (some y) none none) (hte:yv t=some e) {z:Value} {k bytes:Nat} (hi:xx e=some (z,k,bytes)) {g n c l:Nat} (hx:a.eval x=.slice (some ⟨g,0,none⟩) n c) (hy:a.eval y=.int .i64 (l:Nat)) {m cr:Nat} (hm:n=l+m) (hcr:c-l=cr)
  {of:Nat} (hof:of=if c=l then 0 else l*k) (hR:Rr (.slice (some ⟨g,of,none⟩) m cr) w):StStep zb ops o a w Rr :=
 StStep.val hw (by unfold execOp;simp only [ho,hx,hy,Option.map_none,Qb,Sem.run_bind,run_segK hte hi (show l<=n by omega),Result.andThen_ok,Sem.run_pure,← hof,hcr,show n-l=m by omega]) hR
end
theorem St.apart2 {w0 w:World} {M:List Nat} {L R R':List As} {A B:As} (h:St w0 M L w) (h1:Pick L A R) (h2:Pick R B R'):∀ b∈A.fp,b ∉ B.fp:=by
 have:=(h.pick2 h1 h2).dis;exact (qu.1 this).1 B (by simp)
theorem insert0_c {x:ItR} {its:List ItR} {v:Value} {s:Nat} (hb:its.length<=4194304) (w:World) (h:((zc zj 254 4 v its).sep (blk s (.cells #[.int .i64 x.id,.int .i64 x.nx,.int .u64 x.ky,.int .i64 x.n] 254))).ho w) :
  Calls zb 179 #[v,.int .i64 0,.slice (some ⟨s,0,none⟩) 1 1] w fun e w'=>∃ v',e=.returned v'∧St w ((zc zj 254 4 v its).sep (blk s (.cells #[.int .i64 x.id,.int .i64 x.nx,.int .u64 x.ky,.int .i64 x.n] 254))).fp [zc zj 254 4 v' (x::its)] w':=by
 have H:=St.one h;generalize ((zc zj 254 4 v its).sep (blk s (.cells #[.int .i64 x.id,.int .i64 x.nx,.int .u64 x.ky,.int .i64 x.n] 254))).fp=M at *;replace H:=H.sep;clear h;have UI:zb.underlying 3=some (.int .i64):=(by kernel_rfl);rcases qk its.length with h0|h0
 ·obtain rfl:=qe h0;obtain ⟨ad,c,e1,_⟩:=zE (H.get (A:=zc zj 254 4 v []) pk);simp only [zC] at e1;subst e1;clear h0 hb;rcases rowsA_ad (H.get (A:=zc zj 254 4 (.slice ad 0 c) []) pk) with rfl|⟨g,rfl⟩
  ·go_enter YZ,QR;go_wp2_with (first|refine sL ?_|(refine sS ?_;clear H;intros;rename_i H)|((with_reducible refine qJ ?_);refine AtAppend.go (enc:=zj) H rfl rfl rfl rfl rfl (by decide) (by decide) rfl (Pick.here) rfl (H.at pk) [x] rfl rfl q7 w9 (by simp) ?_;clear H;intro ad9 cp9 _ H;simp only [Act.put,puA,puB,puC]));go_ret;exact ⟨_,rfl,H.picks (.cons pk .nil)⟩
  ·go_enter YZ,QR;go_wp2_with (first|refine sL ?_|(refine sS ?_;clear H;intros;rename_i H)|((with_reducible refine qJ ?_);refine AtAppend.go (enc:=zj) H rfl rfl rfl rfl rfl (by decide) (by decide) rfl (Pick.here) rfl (H.at pk) [x] rfl rfl q7 w9 (by simp) ?_;clear H;intro ad9 cp9 _ H;simp only [Act.put,puA,puB,puC]));go_ret;exact ⟨_,rfl,H.picks (.cons pk .nil)⟩
 ·obtain ⟨g,c,e1,hc1,hc2⟩:=q8 (H.get (A:=zc zj 254 4 v its) pk) h0;obtain ⟨n,hn⟩:∃ n,its.length=n:=⟨_,rfl⟩
  rw [hn] at e1 hc1 h0 hb;subst e1;obtain ⟨cur,_,_,_,hcs,hct,H2⟩:=YJ H;clear H;have H:=H2;clear H2;have HSX:Hid (∀ w,(blk s (.cells #[.int .i64 x.id,.int .i64 x.nx,.int .u64 x.ky,.int .i64 x.n] 254)).ho w->w.rangeAt s 0 (zj x)):=zh fun w h=>VP h (k:=4) rfl
  have HSG:Hid (∀ w,(blk g (.cells cur 254)).ho w->w.rangeAt g 0 (zU zj its)):=zh fun w h=>VP h hct
  have HFL:Hid ((zU zj its).length=n*4):=zh (by rw [yW zj 4 q7 its,hn]);have HF1:Hid (∀ u∈zU zj its,u.oneCell'=true):=zh (flatG_one w9 its);have HCS:=zh hcs;have HN:=zh hn;obtain ⟨n1,hn1⟩:∃ n1,n1=n+1:=⟨_,rfl⟩
  have hb1:n1<=4194305:=(by omega);have i1:(n:Int)+1=(n1:Nat):=(by omega);have d0:((0:Int)==(n:Int))=false:=(by simp;omega);have HN1:=zh hn1;clear hcs hct hn hn1;by_cases hr:c<n1
  ·have d1:decide ((c:Int)<(n1:Int))=true:=(by simp;omega);have d2:decide (c<n1)=true:=(by simp;omega);go_enter YZ,QR;go_wp2_with (first|refine sL ?_|(refine sS ?_;clear H;intros;rename_i H)|((with_reducible refine isAppZ ?_);refine AtAppZ.fresh H rfl rfl UI rfl rfl rfl (by decide) (by decide) (g:=g) (cap:=c) (m:=n1) rfl rfl (by first|rfl|omega) (by omega) (by omega) ?_;clear H;intro g2 cp cur2 _ q1 q2 q3 H;have HQ:=zh (za q1 (za q2 q3));have nq1:¬ (cp:Int)=0:=(by omega);have nq2:¬ (cp:Int)=1:=(by omega);have nq3:¬ cp=0:=(by omega);have nq4:¬ cp=1:=(by omega);have q4:1<=cp:=(by omega);simp only [Act.put,puA,puB,puC])|((with_reducible refine isCopy ?_);refine AtCopy.go H rfl rfl rfl rfl rfl rfl (cur:=cur2) pk (cs:=zj x) (by simp only [q7];first|rfl|(rw [show QF 1 n1=1 by simp only [J6];split <;> omega])) (HSX.out _ (H.get pk)) (by rw [q7];have:=HQ.out.2.2;omega) (w9 x) ?_;clear H;intro _ H;simp only [Act.put,puA,puB,puC]));replace H:St w M [blk g2 (.cells (xK cur2 0 (zj x)) 254),blk s (.cells #[.int .i64 x.id,.int .i64 x.nx,.int .u64 x.ky,.int .i64 x.n] 254),blk g (.cells cur 254)] _:=H.picks (.cons pk (.cons pk (.cons pk .nil)));refine zM 9 [⟨[],fun v _=>v=.slice (some ⟨g2,0,none⟩) n1 cp⟩,⟨[],fun v _=>v=.int .i64 0⟩,⟨[],fun v _=>v=.int .i64 1⟩,⟨[1,2],fun v _=>v=.int .i64 1⟩,⟨[0,3],fun v _=>v=.slice (some ⟨g2,4,none⟩) n (cp-1)⟩,⟨[],fun v _=>v=.slice (some ⟨g,0,none⟩) n c⟩,⟨[],fun v _=>v=.int .i64 0⟩,⟨[5,6],fun v _=>v=.slice (some ⟨g,0,none⟩) n c⟩,⟨[4,7],fun _ _=>True⟩] [8] [[0],[0],[0],[0],[0],[0],[0],[0],[0]] [fun _ wx=>St w M [blk g2 (.cells (xK cur2 0 (zj x)) 254),blk s (.cells #[.int .i64 x.id,.int .i64 x.nx,.int .u64 x.ky,.int .i64 x.n] 254),blk g (.cells cur 254)] wx,fun _ wx=>St w M [blk g2 (.cells (xK (xK cur2 0 (zj x)) 4 (zU zj its)) 254),blk s (.cells #[.int .i64 x.id,.int .i64 x.nx,.int .u64 x.ky,.int .i64 x.n] 254),blk g (.cells cur 254)] wx]
    [[],[],[],[(1,47),(2,48)],[(0,46),(3,49)],[],[],[(5,51),(6,52)],[(4,50),(7,53)]] [(0,46),(1,47),(2,48),(3,49),(4,50),(5,51),(6,52),(7,53),(8,54)] (by kernel_rfl) (by kernel_rfl) H.drew ⟨⟨qo,trivial⟩,⟨qo,trivial⟩,⟨qo,trivial⟩,⟨qo,trivial⟩,⟨?_,trivial⟩,⟨qo,trivial⟩,⟨qo,trivial⟩,⟨?_,trivial⟩,⟨?_,trivial⟩,trivial⟩ ?_
   ·intro vals wx hd HC;simp only [GF] at hd;have H:=HC;simp only [CA] at H;simp only [PS,hd];refine StStep.segK rfl rfl rfl rfl rfl rfl (l:=1) (by have:=HN1.out;omega) rfl (by rw [if_neg (by omega)]) ⟨rfl,HC⟩
   ·intro vals wx hd HC;simp only [GF] at hd;have H:=HC;simp only [CA] at H;simp only [PS,hd];refine StStep.segK rfl rfl rfl rfl rfl rfl (l:=0) (by omega) rfl (by simp) ⟨rfl,HC⟩
   ·intro vals wx hd HC;simp only [GF] at hd;have H:=HC;simp only [CA] at H;simp only [PS,hd];exact StStep.copy H rfl rfl rfl rfl rfl rfl (cs:=zU zj its) (by rw [HFL.out];simp only [J6];split <;> rfl) (HSG.out _ (H.get pk)) (by rw [HFL.out,wb _ _ _ (by rw [q7];have:=HQ.out;omega)];have:=HQ.out;have:=HN1.out;omega) HF1.out (fun w' H2=>⟨trivial,H2⟩)
   intro vals wx hd HC;simp only [CA] at HC;have H:=HC;clear HC;simp only [GF] at hd;simp only [PS,hd];clear hd;go_wp2_with (first|refine sL ?_|(refine sS ?_;clear H;intros;rename_i H));go_ret;have hq:=HQ.out;refine ⟨_,rfl,(ZD (xs:=x::its) q7 (H.picks (.cons pk .nil)) hq.1 hq.2.1 ?_ ?_ ?_).picks (.cons pk .nil)⟩
   ·rw [zw,HN.out,HN1.out]
   ·rw [wb _ _ _ ?_,wb _ _ _ ?_,hq.2.2]
    ·rw [q7];omega
    ·rw [HFL.out,wb _ _ _ (by rw [q7];omega)];have:=HN1.out;omega
   ·have:=putC_both cur2 (zj x) (zU zj its) (by rw [q7,HFL.out];have:=HN1.out;omega);rw [q7,HFL.out,show 4+n*4=n1*4 by have:=HN1.out;omega] at this;rw [this];rfl
  ·have d1:decide ((c:Int)<(n1:Int))=false:=(by simp;omega);have d2:decide (c<n1)=false:=(by simp;omega);have hov:∀ lb cb,(callFunc 186 #[.slice (some ⟨s,0,none⟩) 1 1,.slice (some ⟨g,4,none⟩) lb cb]).run zb w=.ok (.value (.bool false)) w:=fun lb cb=>by
    have hs:=H.at (g:=s) pk;have hg:=H.at (g:=g) pk;have hne:s≠g:=fun e=>H.apart2 (A:=blk g (.cells cur 254)) (B:=blk s (.cells #[.int .i64 x.id,.int .i64 x.nx,.int .u64 x.ky,.int .i64 x.n] 254)) pk pk g (by simp [w8]) (by simp [w8,e])
    rw [@run_callFunc_extern zb 186 _ (Extern.SlicesOverlaps.overlaps #[248,248] #[4]) Tryz.func186 (by kernel_rfl) (by kernel_rfl) (by kernel_rfl) (by kernel_rfl),
     Lib.run_overlaps_apart w 248 4 254 (by kernel_rfl) 4 (fun w=>by kernel_rfl) ⟨s,0,none⟩ ⟨g,4,none⟩ 1 1 lb cb hne 254 254 4 cur.size (by simp [World.shape?,hs]) (by simp [World.shape?,hg]) (by have:=HCS.out;omega) (by simp [World.frozen?,hs]) (by simp [World.frozen?,hs])]
    rfl
   go_enter YZ,QR;go_wp2_with (first|refine sL ?_|(refine sS ?_;clear H;intros;rename_i H));replace H:St w M [blk g (.cells cur 254),blk s (.cells #[.int .i64 x.id,.int .i64 x.nx,.int .u64 x.ky,.int .i64 x.n] 254)] _:=H.picks (.cons pk (.cons pk .nil));refine zM 9 [⟨[],fun v _=>v=.slice (some ⟨g,0,none⟩) n1 c⟩,⟨[],fun v _=>v=.int .i64 0⟩,⟨[],fun v _=>v=.int .i64 1⟩,⟨[1,2],fun v _=>v=.int .i64 1⟩,⟨[0,3],fun v _=>v=.slice (some ⟨g,4,none⟩) n (c-1)⟩,⟨[],fun v _=>v=.slice (some ⟨g,0,none⟩) n1 c⟩,⟨[],fun v _=>v=.int .i64 0⟩,⟨[5,6],fun v _=>v=.slice (some ⟨g,0,none⟩) n1 c⟩,⟨[4,7],fun _ _=>True⟩] [8] [[0],[0],[0],[0],[0],[0],[0],[0],[0]] [fun _ wx=>St w M [blk g (.cells cur 254),blk s (.cells #[.int .i64 x.id,.int .i64 x.nx,.int .u64 x.ky,.int .i64 x.n] 254)] wx,fun _ wx=>St w M [blk g (.cells (xK cur 4 (zU zj its)) 254),blk s (.cells #[.int .i64 x.id,.int .i64 x.nx,.int .u64 x.ky,.int .i64 x.n] 254)] wx]
    [[],[],[],[(1,70),(2,71)],[(0,69),(3,72)],[],[],[(5,74),(6,75)],[(4,73),(7,76)]] [(0,69),(1,70),(2,71),(3,72),(4,73),(5,74),(6,75),(7,76),(8,77)] (by kernel_rfl) (by kernel_rfl) H.drew ⟨⟨qo,trivial⟩,⟨qo,trivial⟩,⟨qo,trivial⟩,⟨qo,trivial⟩,⟨?_,trivial⟩,⟨qo,trivial⟩,⟨qo,trivial⟩,⟨?_,trivial⟩,⟨?_,trivial⟩,trivial⟩ ?_
   ·intro vals wx hd HC;simp only [GF] at hd;have H:=HC;simp only [CA] at H;simp only [PS,hd];refine StStep.segK rfl rfl rfl rfl rfl rfl (l:=1) (by have:=HN1.out;omega) rfl (by rw [if_neg (by omega)]) ⟨rfl,HC⟩
   ·intro vals wx hd HC;simp only [GF] at hd;have H:=HC;simp only [CA] at H;simp only [PS,hd];refine StStep.segK rfl rfl rfl rfl rfl rfl (l:=0) (by omega) rfl (by simp) ⟨rfl,HC⟩
   ·intro vals wx hd HC;simp only [GF] at hd;have H:=HC;simp only [CA] at H;simp only [PS,hd];exact StStep.copy H rfl rfl rfl rfl rfl rfl (cs:=zU zj its) (by rw [HFL.out];have:=HN1.out;simp only [J6];split <;> omega) (HSG.out _ (H.get pk)) (by rw [HFL.out];have:=HCS.out;have:=HN1.out;omega) HF1.out (fun w' H2=>⟨trivial,H2⟩)
   intro vals wx hd HC;simp only [CA] at HC;have H:=HC;clear HC;simp only [GF] at hd;simp only [PS,hd];clear hd;go_wp2_with (first|refine sL ?_|(refine sS ?_;clear H;intros;rename_i H)|((with_reducible refine isCopy ?_);refine AtCopy.go H rfl rfl rfl rfl rfl rfl (cur:=xK cur 4 (zU zj its)) pk (cs:=zj x) (by simp only [q7];first|rfl|(rw [show QF 1 n1=1 by simp only [J6];split <;> omega])) (HSX.out _ (H.get pk)) (by rw [q7,wb _ _ _ (by rw [HFL.out];have:=HCS.out;have:=HN1.out;omega)];have:=HCS.out;omega) (w9 x) ?_;clear H;intro _ H;simp only [Act.put,puA,puB,puC]));go_ret;refine ⟨_,rfl,(ZD (n:=n1) (c:=c) (xs:=x::its) q7 (H.picks (.cons pk .nil)) (by omega) hc2 ?_ ?_ ?_).picks (.cons pk .nil)⟩
   ·rw [zw,HN.out,HN1.out]
   ·rw [wb _ _ _ ?_,wb _ _ _ ?_,HCS.out]
    ·rw [HFL.out];have:=HCS.out;have:=HN1.out;omega
    ·rw [q7,wb _ _ _ (by rw [HFL.out];have:=HCS.out;have:=HN1.out;omega)];have:=HCS.out;omega
   ·have:=putC_both2 cur (zj x) (zU zj its) (by rw [q7,HFL.out];have:=HCS.out;have:=HN1.out;omega);rw [q7,HFL.out,show 4+n*4=n1*4 by have:=HN1.out;omega] at this;rw [this];rfl
end
section
open Go.RowKit Go.Maps
attribute [local go_sem] qt
def SymOf (S:Sto) (o:Option Tr) (id ky:Nat):Prop:=match o with|some x=>Den S id x∧ky=x.key|none=>id=0∧ky=0
theorem SymOf.zero {S:Sto} {o:Option Tr} {id ky:Nat} (h:SymOf S o id ky):id=0↔o=none:=by
 cases o with
 |none=>simp [h.1]
 |some x=>have:=h.1.1;simp;omega
theorem SymOf.eq {S:Sto} (hS:S.Ok) {o:Option Tr} {x:Tr} {id id2 ky:Nat} (h:SymOf S o id ky) (hx:Den S id2 x):id2=id↔o=some x:=by
 cases o with
 |none=>have:=hx.1;have:=h.1;simp;omega
 |some y =>
  have:=Den.eq_iff hS hx h.1;rw [this];exact ⟨fun e=>by rw [e],fun e=>by injection e with e;exact e.symm⟩
theorem EndIn.symOf {X:Px} {bk:Bool} {cs:Array Value} {o:Nat} {pv:Value} {fs:List Fr} {id ky:Nat} {d:qK} (h:EndIn X bk cs o pv fs id ky d):SymOf X.S d.2 id ky:=h.sym
structure ItOf (S:Sto) (i:It) (r:ItR):Prop where
 den:Den S r.id i.x
 ky:r.ky=i.x.key
 n:r.n=i.n
 nx:match i.nx with|some y=>Den S r.nx y|none=>r.nx=0
theorem ItOf.le {S S':Sto} {i:It} {r:ItR} (h:ItOf S i r) (hS:S.Ok) (hl:S.Le S'):ItOf S' i r:=by
 refine ⟨h.den.le hS hl,h.ky,h.n,?_⟩;have:=h.nx;cases hn:i.nx with
 |none=>rw [hn] at this;exact this
 |some y=>rw [hn] at this;exact this.le hS hl
theorem ItOf.nx_zero {S:Sto} {i:It} {r:ItR} (h:ItOf S i r):r.nx=0↔i.nx=none:=by
 have:=h.nx;cases hn:i.nx with
 |none=>rw [hn] at this;simp [this]
 |some y=>rw [hn] at this;have:=this.1;simp;omega
def ItsOf (S:Sto):List It->List ItR->Prop
 |[],[]=>True
 |i::M,r::rs=>ItOf S i r∧ItsOf S M rs
 |_,_=>False
theorem ItsOf.le {S S':Sto} (hS:S.Ok) (hl:S.Le S'):∀ {M:List It} {rs:List ItR},ItsOf S M rs->ItsOf S' M rs
 |[],[],_=>trivial
 |i::M,r::rs,h=>⟨h.1.le hS hl,ItsOf.le hS hl h.2⟩
 |[],_::_,h=>h.elim
 |_::_,[],h=>h.elim
theorem ItsOf.len {S:Sto}:∀ {M:List It} {rs:List ItR},ItsOf S M rs->rs.length=M.length
 |[],[],_=>rfl
 |i::M,r::rs,h=>by simp [ItsOf.len h.2]
 |[],_::_,h=>h.elim
 |_::_,[],h=>h.elim
theorem ItsOf.append {S:Sto}:∀ {M N:List It} {rs ts:List ItR},ItsOf S M rs->ItsOf S N ts->ItsOf S (M++N) (rs++ts)
 |[],_,[],_,_,h=>h
 |i::M,_,r::rs,_,h,k=>⟨h.1,ItsOf.append h.2 k⟩
 |[],_,_::_,_,h,_=>h.elim
 |_::_,_,[],_,h,_=>h.elim
theorem ItsOf.snoc {S:Sto} {M:List It} {rs:List ItR} {i:It} {r:ItR} (h:ItsOf S M rs) (hi:ItOf S i r):ItsOf S (M++[i]) (rs++[r]):=h.append ⟨hi,trivial⟩
theorem ItsOf.nil_iff {S:Sto} {rs:List ItR} (h:ItsOf S [] rs):rs=[]:=by cases rs with|nil=>rfl|cons=>exact h.elim
theorem ItsOf.cons_iff {S:Sto} {i:It} {M:List It} {rs:List ItR} (h:ItsOf S (i::M) rs):∃ r ts,rs=r::ts∧ItOf S i r∧ItsOf S M ts:=by
 cases rs with
 |nil=>exact h.elim
 |cons r ts=>exact ⟨r,ts,rfl,h.1,h.2⟩
theorem ItsOf.split {S:Sto}:∀ {M N:List It} {rs:List ItR},ItsOf S (M++N) rs->∃ a c,rs=a++c∧ItsOf S M a∧ItsOf S N c
 |[],N,rs,h=>⟨[],rs,rfl,trivial,h⟩
 |i::M,N,rs,h=>by
  obtain ⟨r,ts,rfl,h1,h2⟩:=ItsOf.cons_iff h;obtain ⟨a,c,rfl,h3,h4⟩:=ItsOf.split h2;exact ⟨r::a,c,rfl,⟨h1,h3⟩,h4⟩
theorem ItsOf.snoc_iff {S:Sto} {i:It} {M:List It} {rs:List ItR} (h:ItsOf S (M++[i]) rs):∃ ts r,rs=ts++[r]∧ItsOf S M ts∧ItOf S i r:=by
 obtain ⟨a,c,rfl,h1,h2⟩:=h.split;obtain ⟨r,ts,rfl,h3,h4⟩:=ItsOf.cons_iff h2;have:=ItsOf.nil_iff h4;subst this;exact ⟨a,r,rfl,h1,h3⟩
theorem ItsOf.get {S:Sto}:∀ {M:List It} {rs:List ItR} {k:Nat} {i:It},ItsOf S M rs->M[k]?=some i->∃ r,rs[k]?=some r∧ItOf S i r
 |i::M,r::rs,0,j,h,e=>by simp at e;subst e;exact ⟨r,rfl,h.1⟩
 |i::M,r::rs,k+1,j,h,e=>by simpa using ItsOf.get h.2 (by simpa using e)
 |[],[],_,_,_,e=>by simp at e
 |[],_::_,_,_,h,_=>h.elim
 |_::_,[],_,_,h,_=>h.elim
def Vh (rs:List ItR) (id ky:Nat):Nat×Nat:=match rs with|r::_=>(r.id,r.ky)|[]=>(id,ky)
def Ww (rs:List ItR) (id ky:Nat):Nat×Nat:=match rs.getLast? with|some r=>(r.id,r.ky)|none=>(id,ky)
theorem Vo {S:Sto} {M:List It} {rs:List ItR} {e:qK} {id ky:Nat} (h:ItsOf S M rs) (he:SymOf S e.2 id ky):SymOf S (kz M e) (Vh rs id ky).1 (Vh rs id ky).2:=by
 cases M with
 |nil=>rw [ItsOf.nil_iff h];exact he
 |cons i M=>obtain ⟨r,ts,rfl,h1,_⟩:=ItsOf.cons_iff h;exact ⟨h1.den,h1.ky⟩
theorem Vw {S:Sto} {M:List It} {rs:List ItR} {d:qK} {id ky:Nat} (h:ItsOf S M rs) (he:SymOf S d.2 id ky):SymOf S (kj M d) (Ww rs id ky).1 (Ww rs id ky).2:=by
 rcases yn M with rfl|⟨M',i,rfl⟩
 ·rw [ItsOf.nil_iff h];exact he
 ·obtain ⟨ts,r,rfl,_,h1⟩:=ItsOf.snoc_iff h;have e1:kj (M'++[i]) d=some i.x:=(by simp [kj]);have e2:Ww (ts++[r]) id ky=(r.id,r.ky):=(by simp [Ww]);rw [e1,e2];exact ⟨h1.den,h1.ky⟩
theorem first_c {b ir kr:Nat} {cs:Array Value} {mv:Value} {rs:List ItR} (hb:rs.length<=4194304) (c11:cs[11]?=some mv) (c9:cs[9]?=some (.int .i64 ir)) (c10:cs[10]?=some (.int .u64 kr)) (w:World) (h:((blk b (.cells cs 250)).sep (zc zj 254 4 mv rs)).ho w) :
  Calls zb 177 #[.pointer (some ⟨b,0,none⟩)] w fun e w'=>e=.returned (.tuple #[.int .i64 (Vh rs ir kr).1,.int .u64 (Vh rs ir kr).2])∧St w [] [] w':=by
 rw [qz] at h;obtain ⟨k1,k2,_⟩:=h;have H:=St.nil w [];have HK:Ks w [] [blk b (.cells cs 250),zc zj 254 4 mv rs]:=Ks.two k1 k2;clear k1 k2;have C11:=zh c11;have C9:=zh c9;have C10:=zh c10;clear c11 c9 c10;cases rs with
 |nil =>
  obtain ⟨ad,c,e1,_⟩:=zE (H.known HK (A:=zc zj 254 4 mv []) pk);simp only [zC] at e1;subst e1;simp only [Vh];go_enter Tryz.func177,Tryz.ntmps177;go_wp2_with (first|refine sL ?_|(refine sS ?_;clear H;intros;rename_i H)|((with_reducible refine qh ?_);refine AtLoad.cel rfl rfl rfl rfl (zV (H.known HK (A:=blk b (.cells cs 250)) pk) C11.out) ?_;simp only [Act.put,puA,puB,puC]));refine zG H 12 [] [] (by kernel_rfl) (by kernel_rfl) ?_;apply Exists.intro;refine ⟨fun w1 hw1 HX=>?_,fun bs wr Hr=>?_⟩
  ·refine sG ?_;repeat (first|go_big_quiet_skip|refine sQ ?_|((with_reducible refine yp ?_);refine QtLoad.cel rfl rfl rfl rfl (fun y=>zV ((HX y).known HK (A:=blk b (.cells cs 250)) pk) C9.out) ?_;simp only [Act.put,puA,puB,puC])|((with_reducible refine yp ?_);refine QtLoad.cel rfl rfl rfl rfl (fun y=>zV ((HX y).known HK (A:=blk b (.cells cs 250)) pk) C10.out) ?_;simp only [Act.put,puA,puB,puC])|go_big_quiet_step (fail))
   exact wpQuiet_nil rfl
  clear H;have H:=Hr;clear Hr;replace H:=sH H;refine sT ?_;go_wp2_with (first|refine sL ?_|(refine sS ?_;clear H;intros;rename_i H));go_ret2;exact ⟨rfl,H.nix⟩
 |cons r rs =>
  obtain ⟨g,c,e1,_,_⟩:=q8 (H.known HK (A:=zc zj 254 4 mv (r::rs)) pk) (by simp);obtain ⟨n,hn⟩:∃ n,(r::rs).length=n:=⟨_,rfl⟩
  have hn0:0<n:=(by rw [← hn];simp);rw [hn] at e1 hb;subst e1;have d1:decide ((0:Int)<(n:Int))=true:=(by simp;omega);have d2:decide (0<n)=true:=(by simp;omega);have HR0:Hid (∀ w,(zc zj 254 4 (.slice (some ⟨g,0,none⟩) n c) (r::rs)).ho w->w.cell? ⟨g,0,none⟩=some (.int .i64 r.id)):=zh fun w h=>qj (i:=0) (j:=0) h q7 rfl rfl
  have HR2:Hid (∀ w,(zc zj 254 4 (.slice (some ⟨g,0,none⟩) n c) (r::rs)).ho w->w.cell? ⟨g,2,none⟩=some (.int .u64 r.ky)):=zh fun w h=>qj (i:=0) (j:=2) h q7 rfl rfl
  simp only [Vh];clear hn;go_enter Tryz.func177,Tryz.ntmps177;go_wp2_with (first|refine sL ?_|(refine sS ?_;clear H;intros;rename_i H)|((with_reducible refine qh ?_);refine AtLoad.cel rfl rfl rfl rfl (zV (H.known HK (A:=blk b (.cells cs 250)) pk) C11.out) ?_;simp only [Act.put,puA,puB,puC]));refine zG H 16 [] [] (by kernel_rfl) (by kernel_rfl) ?_;apply Exists.intro;refine ⟨fun w1 hw1 HX=>?_,fun bs wr Hr=>?_⟩
  ·refine sG ?_;repeat (first|go_big_quiet_skip|refine sQ ?_|((with_reducible refine yp ?_);refine QtLoad.cel rfl rfl rfl rfl (fun y=>zV ((HX y).known HK (A:=blk b (.cells cs 250)) pk) C11.out) ?_;simp only [Act.put,puA,puB,puC])|((with_reducible refine yp ?_);refine QtLoad.cel rfl rfl rfl rfl (fun y=>HR0.out _ ((HX y).known HK (A:=zc zj 254 4 (.slice (some ⟨g,0,none⟩) n c) (r::rs)) pk)) ?_;simp only [Act.put,puA,puB,puC])|((with_reducible refine yp ?_);refine QtLoad.cel rfl rfl rfl rfl (fun y=>HR2.out _ ((HX y).known HK (A:=zc zj 254 4 (.slice (some ⟨g,0,none⟩) n c) (r::rs)) pk)) ?_;simp only [Act.put,puA,puB,puC])|go_big_quiet_step (fail))
   exact wpQuiet_nil rfl
  clear H;have H:=Hr;clear Hr;replace H:=sH H;refine sT ?_;go_wp2_with (first|refine sL ?_|(refine sS ?_;clear H;intros;rename_i H));go_ret2;exact ⟨rfl,H.nix⟩
theorem last_c {b il kl:Nat} {cs:Array Value} {mv:Value} {rs:List ItR} (hb:rs.length<=4194304) (c11:cs[11]?=some mv) (c4:cs[4]?=some (.int .i64 il)) (c5:cs[5]?=some (.int .u64 kl)) (w:World) (h:((blk b (.cells cs 250)).sep (zc zj 254 4 mv rs)).ho w) :
  Calls zb 181 #[.pointer (some ⟨b,0,none⟩)] w fun e w'=>e=.returned (.tuple #[.int .i64 (Ww rs il kl).1,.int .u64 (Ww rs il kl).2])∧St w [] [] w':=by
 rw [qz] at h;obtain ⟨k1,k2,_⟩:=h;have H:=St.nil w [];have HK:Ks w [] [blk b (.cells cs 250),zc zj 254 4 mv rs]:=Ks.two k1 k2;clear k1 k2;have C11:=zh c11;have C4:=zh c4;have C5:=zh c5;clear c11 c4 c5;rcases yn rs with rfl|⟨ts,r,rfl⟩
 ·obtain ⟨ad,c,e1,_⟩:=zE (H.known HK (A:=zc zj 254 4 mv []) pk);simp only [zC] at e1;subst e1;rw [show Ww [] il kl=(il,kl) from rfl];go_enter Tryz.func181,Tryz.ntmps181;go_wp2_with (first|refine sL ?_|(refine sS ?_;clear H;intros;rename_i H)|((with_reducible refine qh ?_);refine AtLoad.cel rfl rfl rfl rfl (zV (H.known HK (A:=blk b (.cells cs 250)) pk) C11.out) ?_;simp only [Act.put,puA,puB,puC]));refine zG H 12 [] [] (by kernel_rfl) (by kernel_rfl) ?_;apply Exists.intro;refine ⟨fun w1 hw1 HX=>?_,fun bs wr Hr=>?_⟩
  ·refine sG ?_;repeat (first|go_big_quiet_skip|refine sQ ?_|((with_reducible refine yp ?_);refine QtLoad.cel rfl rfl rfl rfl (fun y=>zV ((HX y).known HK (A:=blk b (.cells cs 250)) pk) C4.out) ?_;simp only [Act.put,puA,puB,puC])|((with_reducible refine yp ?_);refine QtLoad.cel rfl rfl rfl rfl (fun y=>zV ((HX y).known HK (A:=blk b (.cells cs 250)) pk) C5.out) ?_;simp only [Act.put,puA,puB,puC])|go_big_quiet_step (fail))
   exact wpQuiet_nil rfl
  clear H;have H:=Hr;clear Hr;replace H:=sH H;refine sT ?_;go_wp2_with (first|refine sL ?_|(refine sS ?_;clear H;intros;rename_i H));go_ret2;exact ⟨rfl,H.nix⟩
 ·obtain ⟨g,c,e1,hc1,_⟩:=q8 (H.known HK (A:=zc zj 254 4 mv (ts++[r])) pk) (by simp);obtain ⟨n,hn⟩:∃ n,ts.length=n:=⟨_,rfl⟩
  have hlen:(ts++[r]).length=n+1:=(by simp [hn]);rw [hlen] at e1 hb hc1;subst e1;have hx:(ts++[r])[n]?=some r:=(by rw [← hn];simp);have HR0:Hid (∀ w,(zc zj 254 4 (.slice (some ⟨g,0,none⟩) (n+1) c) (ts++[r])).ho w->w.cell? ⟨g,n*4,none⟩=some (.int .i64 r.id)):=zh fun w h=>qj (j:=0) h q7 hx rfl
  have HR2:Hid (∀ w,(zc zj 254 4 (.slice (some ⟨g,0,none⟩) (n+1) c) (ts++[r])).ho w->w.cell? ⟨g,n*4+2,none⟩=some (.int .u64 r.ky)):=zh fun w h=>qj (j:=2) h q7 hx rfl
  rw [show Ww (ts++[r]) il kl=(r.id,r.ky) by simp [Ww]];clear hn hlen hx;go_enter Tryz.func181,Tryz.ntmps181;go_wp2_with (first|refine sL ?_|(refine sS ?_;clear H;intros;rename_i H)|((with_reducible refine qh ?_);refine AtLoad.cel rfl rfl rfl rfl (zV (H.known HK (A:=blk b (.cells cs 250)) pk) C11.out) ?_;simp only [Act.put,puA,puB,puC]));refine zG H 20 [] [] (by kernel_rfl) (by kernel_rfl) ?_;apply Exists.intro;refine ⟨fun w1 hw1 HX=>?_,fun bs wr Hr=>?_⟩
  ·refine sG ?_;repeat (first|go_big_quiet_skip|refine sQ ?_|((with_reducible refine yp ?_);refine QtLoad.cel rfl rfl rfl rfl (fun y=>zV ((HX y).known HK (A:=blk b (.cells cs 250)) pk) C11.out) ?_;simp only [Act.put,puA,puB,puC])|((with_reducible refine yp ?_);refine QtLoad.cel rfl rfl rfl rfl (fun y=>HR0.out _ ((HX y).known HK (A:=zc zj 254 4 (.slice (some ⟨g,0,none⟩) (n+1) c) (ts++[r])) pk)) ?_;simp only [Act.put,puA,puB,puC])|((with_reducible refine yp ?_);refine QtLoad.cel rfl rfl rfl rfl (fun y=>HR2.out _ ((HX y).known HK (A:=zc zj 254 4 (.slice (some ⟨g,0,none⟩) (n+1) c) (ts++[r])) pk)) ?_;simp only [Act.put,puA,puB,puC])|go_big_quiet_step (fail))
   exact wpQuiet_nil rfl
  clear H;have H:=Hr;clear Hr;replace H:=sH H;refine sT ?_;go_wp2_with (first|refine sL ?_|(refine sS ?_;clear H;intros;rename_i H));go_ret2;exact ⟨rfl,H.nix⟩
end
section
open Go.RowKit Go.Maps
attribute [local go_sem] qt
structure SpIn (X:Px) (cs:Array Value) (pl:Value) (fl:List Fr) (il kl:Nat) (pr:Value) (fr:List Fr) (ir kr:Nat) (mv:Value) (rs:List ItR) (d e:qK) (M:List It):Prop where
 sz:cs.size=12
 c0:cs[0]?=some (.pointer (some ⟨X.p,0,none⟩))
 c11:cs[11]?=some mv
 left:EndIn X false cs 1 pl fl il kl d
 right:EndIn X true cs 6 pr fr ir kr e
 its:ItsOf X.S M rs
def spA (X:Px) (b:Nat) (cs:Array Value) (pl:Value) (fl:List Fr) (pr:Value) (fr:List Fr) (mv:Value) (rs:List ItR):As:=(pA X).sep ((blk b (.cells cs 250)).sep ((zc ze 265 8 pl fl).sep ((zc ze 265 8 pr fr).sep (zc zj 254 4 mv rs))))
abbrev jB (X:Px) (b:Nat) (N:List Nat) (w:World) (v:Value) (d e:qK) (M:List It) (x:Ending) (w':World):Prop :=
 ∃ (X':Px) (cs':Array Value) (pl':Value) (fl':List Fr) (il' kl':Nat) (pr':Value) (fr':List Fr) (ir' kr':Nat) (mv':Value) (rs':List ItR),x=.returned v∧X.Ext X'∧zK X'∧X'.S=X.S∧SpIn X' cs' pl' fl' il' kl' pr' fr' ir' kr' mv' rs' d e M∧St w N [pA X',blk b (.cells cs' 250),zc ze 265 8 pl' fl',zc ze 265 8 pr' fr',zc zj 254 4 mv' rs'] w'
section
variable {X:Px} {b il kl ir kr:Nat} {cs:Array Value} {pl pr mv:Value} {fl fr:List Fr} {rs:List ItR} {d e:qK} {M:List It}
theorem jG {w0 w:World} {N:List Nat} {R:List As} (h:St w0 N (spA X b cs pl fl pr fr mv rs::R) w):St w0 N (pA X::blk b (.cells cs 250)::zc ze 265 8 pl fl::zc ze 265 8 pr fr::zc zj 254 4 mv rs::R) w:=by
 have h1:=h.sep;have h2:=(h1.pick (A:=(blk b (.cells cs 250)).sep ((zc ze 265 8 pl fl).sep ((zc ze 265 8 pr fr).sep (zc zj 254 4 mv rs)))) (.there .here)).sep;have h3:=(h2.pick (A:=(zc ze 265 8 pl fl).sep ((zc ze 265 8 pr fr).sep (zc zj 254 4 mv rs))) (.there .here)).sep;have h4:=(h3.pick (A:=(zc ze 265 8 pr fr).sep (zc zj 254 4 mv rs)) (.there .here)).sep;have h5:=h4.pick (A:=zc ze 265 8 pl fl) (.there (.there .here));have h6:=h5.pick (A:=blk b (.cells cs 250)) (.there (.there (.there .here)));exact h6.pick (A:=pA X) (.there (.there (.there (.there .here))))
end
theorem St.join5 {w0 w:World} {M:List Nat} {R:List As} {A B C D E:As} (h:St w0 M (A::B::C::D::E::R) w):St w0 M (A.sep (B.sep (C.sep (D.sep E)))::R) w:=by
 have h1:=(h.pick2 (A:=D) (B:=E) (.there (.there (.there .here))) (.there (.there (.there .here)))).join;have h2:=(h1.pick (A:=C) (.there (.there (.there .here)))).join;have h3:=(h2.pick (A:=B) (.there (.there .here))).join;exact (h3.pick (A:=A) (.there .here)).join
theorem St.pick5 {w0 w:World} {M:List Nat} {L R1 R2 R3 R4 R5:List As} {A B C D E:As} (h:St w0 M L w) (p1:Pick L A R1) (p2:Pick R1 B R2) (p3:Pick R2 C R3) (p4:Pick R3 D R4) (p5:Pick R4 E R5):St w0 M (A::B::C::D::E::R5) w:=by
 have h1:=h.pick3 p1 p2 p3;have q4:Pick (A::B::C::R3) D (A::B::C::R4):=.there (.there (.there p4));have h2:=h1.pick q4;have q5:Pick (D::A::B::C::R4) E (D::A::B::C::R5):=.there (.there (.there (.there p5)));have h3:=h2.pick q5;have h4:=h3.pick (A:=D) (.there .here);exact h4.pick3 (A:=A) (B:=B) (C:=C) (.there (.there .here)) (.there (.there .here)) (.there (.there .here))
section
variable {X:Px} {b il kl ir kr:Nat} {cs:Array Value} {pl pr mv:Value} {fl fr:List Fr} {rs:List ItR} {d e:qK} {M:List It}
theorem SpIn.ext {X':Px} (h:SpIn X cs pl fl il kl pr fr ir kr mv rs d e M) (hX:X.S.Ok) (he:X.Ext X'):SpIn X' cs pl fl il kl pr fr ir kr mv rs d e M:=⟨h.sz,by rw [he.p];exact h.c0,h.c11,h.left.ext hX he,h.right.ext hX he,h.its.le hX he.le⟩
theorem SpIn.afterL {X':Px} {cs':Array Value} {pl':Value} {fl':List Fr} {il' kl':Nat} {d':qK} (h:SpIn X cs pl fl il kl pr fr ir kr mv rs d e M) (hX:X.S.Ok) (he:X.Ext X') (hd:EndIn X' false cs' 1 pl' fl' il' kl' d') (ha:AlikeBut cs cs' 1):SpIn X' cs' pl' fl' il' kl' pr fr ir kr mv rs d' e M :=
 ⟨ha.size.trans h.sz,by rw [ha.eq 0 (by omega),he.p];exact h.c0,by rw [ha.eq 11 (by omega)];exact h.c11,hd,(h.right.ext hX he).other ha (by omega),h.its.le hX he.le⟩
theorem SpIn.afterR {X':Px} {cs':Array Value} {pr':Value} {fr':List Fr} {ir' kr':Nat} {e':qK} (h:SpIn X cs pl fl il kl pr fr ir kr mv rs d e M) (hX:X.S.Ok) (he:X.Ext X') (hd:EndIn X' true cs' 6 pr' fr' ir' kr' e') (ha:AlikeBut cs cs' 6):SpIn X' cs' pl fl il kl pr' fr' ir' kr' mv rs d e' M :=
 ⟨ha.size.trans h.sz,by rw [ha.eq 0 (by omega),he.p];exact h.c0,by rw [ha.eq 11 (by omega)];exact h.c11,(h.left.ext hX he).other ha (by omega),hd,h.its.le hX he.le⟩
theorem EndAt.past {cs:Array Value} {o p:Nat} {bk:Bool} {pv v:Value} {id ky j:Nat} (h:EndAt cs o p bk pv id ky) (hj:o+5<=j):EndAt (cs.setIfInBounds j v) o p bk pv id ky :=
 ⟨by simpa using h.sz,by rw [zz (by omega)];exact h.c0,by rw [zz (by omega)];exact h.c1,by rw [zz (by omega)];exact h.c2,by rw [zz (by omega)];exact h.c3,by rw [zz (by omega)];exact h.c4⟩
theorem SpIn.setM {mv':Value} {rs':List ItR} {M':List It} (h:SpIn X cs pl fl il kl pr fr ir kr mv rs d e M) (hi:ItsOf X.S M' rs'):SpIn X (cs.setIfInBounds 11 mv') pl fl il kl pr fr ir kr mv' rs' d e M' :=
 ⟨by simpa using h.sz,by rw [zz (by omega)];exact h.c0,by rw [wO (by rw [h.sz];omega)],⟨h.left.at_.past (by omega),h.left.path,h.left.sym⟩,⟨h.right.at_.past (by omega),h.right.path,h.right.sym⟩,hi⟩
theorem SpIn.c4 (h:SpIn X cs pl fl il kl pr fr ir kr mv rs d e M):cs[4]?=some (.int .i64 il):=h.left.at_.c3
theorem SpIn.c5 (h:SpIn X cs pl fl il kl pr fr ir kr mv rs d e M):cs[5]?=some (.int .u64 kl):=h.left.at_.c4
theorem SpIn.c9 (h:SpIn X cs pl fl il kl pr fr ir kr mv rs d e M):cs[9]?=some (.int .i64 ir):=h.right.at_.c3
theorem SpIn.c10 (h:SpIn X cs pl fl il kl pr fr ir kr mv rs d e M):cs[10]?=some (.int .u64 kr):=h.right.at_.c4
end
theorem Y3 {X:Px} {a:Tr} {bk:Bool} {b o id ky lv:Nat} {ty:TypeId} {d:qK} {cs:Array Value} {pv:Value} {fs:List Fr} (he:EndIn X bk cs o pv fs id ky d) (hz:EndZ a d) (ga:a.Gd) (hal:a.lv<=25339) (ht:yZ lv d.1=none) (w:World) (h1:(blk b (.cells cs ty)).ho w) (h2:(zc ze 265 8 pv fs).ho w) :
  Calls zb 172 #[.pointer (some ⟨b,o,none⟩),.int .i64 lv] w fun e w'=>e=.returned (.pointer none)∧w'=w:=by
 obtain ⟨p,sx⟩:=d;rcases yn fs with rfl|⟨fs1,f,rfl⟩
 ·obtain ⟨ad,c,e1,_⟩:=zE h2;simp only [zC] at e1;subst e1;exact ZP (fun w h=>zV h he.at_.c2) w h1
 ·obtain ⟨q,p,rfl,hfr,hpp⟩:=he.path.last;obtain ⟨g,c,e1,hc1,hc2⟩:=q8 h2 (by simp);obtain ⟨n,hn⟩:∃ n,fs1.length=n:=⟨_,rfl⟩
  have hlen:(fs1++[f]).length=n+1:=(by simp [hn]);rw [hlen] at e1 hc1;subst e1;have hn20:n<=1048576:=by
   have h3:=he.path.len;cases sx with
   |none=>have:q::p=[]:=hz;cases this
   |some x=>have:=(show Zip a (q::p) x from hz).room ga;simp only at h3;omega
  have hfx:(fs1++[f])[n]?=some f:=(by rw [← hn];simp);have hne:f.lev≠lv:=fun h3=>by rw [JZ (hfr.lv.trans h3)] at ht;cases ht
  have:=vy (m:=lv) (fs:=fs1) (Y:=(blk b (.cells cs ty)).both (zc ze 265 8 (.slice (some ⟨g,0,none⟩) (n+1) c) (fs1++[f]))) (fun w h=>zV h.1 he.at_.c2) hn20 (fun w h=>xg (j:=6) h.2 hfx rfl) w ⟨h1,h2⟩;rw [if_neg hne] at this;exact this
theorem Q5 {X:Px} {a:Tr} {bk:Bool} {b o id ky lv:Nat} {ty:TypeId} {d:qK} {cs:Array Value} {pv:Value} {fs:List Fr} {q:Tr×Nat} {w0:World} (he:EndIn X bk cs o pv fs id ky d) (hz:EndZ a d) (ga:a.Gd) (hal:a.lv<=25339) (ht:yZ lv d.1=some q) (h0:(zc ze 265 8 pv fs).ho w0) :
  ∃ g n c fs1 f p,pv=.slice (some ⟨g,0,none⟩) (n+1) c∧fs=fs1++[f]∧fs1.length=n∧n<=1048576∧d.1=q::p∧FrOf X.S bk q f∧PathOf X.S bk p fs1∧f.lev=lv∧(fs1++[f])[n]?=some f∧∀ w,(blk b (.cells cs ty)).ho w->(zc ze 265 8 pv fs).ho w->Calls zb 172 #[.pointer (some ⟨b,o,none⟩),.int .i64 lv] w fun e w'=>e=.returned (.pointer (some ⟨g,n*8,none⟩))∧w'=w:=by
 obtain ⟨p,sx⟩:=d;obtain ⟨p',e0,hq⟩:=xk ht;simp only at e0;subst e0;rcases yn fs with rfl|⟨fs1,f,rfl⟩
 ·have:=he.path.len;simp at this
 ·obtain ⟨q',p,e2,hfr,hpp⟩:=he.path.last;simp only at e2;injection e2 with e2 e3
  subst e2 e3;obtain ⟨g,c,e1,hc1,hc2⟩:=q8 h0 (by simp);obtain ⟨n,hn⟩:∃ n,fs1.length=n:=⟨_,rfl⟩
  have hlen:(fs1++[f]).length=n+1:=(by simp [hn]);rw [hlen] at e1 hc1;subst e1;have hn20:n<=1048576:=by
   have h3:=he.path.len;cases sx with
   |none=>have:q::p'=[]:=hz;cases this
   |some x=>have:=(show Zip a (q::p') x from hz).room ga;simp only at h3;omega
  have hfx:(fs1++[f])[n]?=some f:=(by rw [← hn];simp);have hlv:f.lev=lv:=hfr.lv.symm.trans hq;refine ⟨g,n,c,fs1,f,p',rfl,rfl,hn,hn20,rfl,hfr,hpp,hlv,hfx,fun w h1 h2=>?_⟩;have:=vy (m:=lv) (fs:=fs1) (Y:=(blk b (.cells cs ty)).both (zc ze 265 8 (.slice (some ⟨g,0,none⟩) (n+1) c) (fs1++[f]))) (fun w h=>zV h.1 he.at_.c2) hn20 (fun w h=>xg (j:=6) h.2 hfx rfl) w ⟨h1,h2⟩;rw [if_pos hlv] at this;exact this
theorem runT_le {bk:Bool} {lv:Nat} {a x:Tr} {p:List (Tr×Nat)} (h:Zip a p x):∀ q p',p=q::p'->(j0 bk lv p).1<=hvT bk q:=by
 rintro q p' rfl;unfold j0;simp only [yZ];by_cases hq:q.1.lv=lv
 ·rw [if_pos hq];exact zr _
 ·rw [if_neg hq];have:=h.lt q (by simp);simp only [hvT];split <;> omega
theorem runT_lt {S:Sto} (hS:S.Ok) {bk:Bool} {lv:Nat} {p:List (Tr×Nat)} {fs:List Fr} (h:PathOf S bk p fs):(j0 bk lv p).1<=1152921504606846976:=by
 unfold j0;cases ht:yZ lv p with
 |none=>simp
 |some q =>
  obtain ⟨p',rfl,hq⟩:=xk ht;obtain ⟨fs',f,rfl,h1,_⟩:=h;simp only;rw [← h1.hvT];exact h1.hv_le hS
theorem Jv {x:ItR} {its:List ItR} {v:Value} {s:Nat} (hb:its.length<=4194304) (w:World) (h:((zc zj 254 4 v its).sep (zc zj 254 4 (.slice (some ⟨s,0,none⟩) 1 1) [x])).ho w) :
  Calls zb 179 #[v,.int .i64 0,.slice (some ⟨s,0,none⟩) 1 1] w fun e w'=>∃ v',e=.returned v'∧St w ((zc zj 254 4 v its).sep (zc zj 254 4 (.slice (some ⟨s,0,none⟩) 1 1) [x])).fp [zc zj 254 4 v' (x::its)] w':=by
 have H:=(St.one h).sep;have H2:=H.pick (A:=zc zj 254 4 (.slice (some ⟨s,0,none⟩) 1 1) [x]) (.there .here);obtain ⟨cur,_,_,_,hcs,hct,H3⟩:=YJ H2;have e1:cur=#[.int .i64 x.id,.int .i64 x.nx,.int .u64 x.ky,.int .i64 x.n]:=by
  apply Array.ext';rw [← qp (l:=cur.toList) (i:=1*4) (by simp at hcs ⊢;omega),hct];simp [zU,zj,ItR.cells]
 subst e1;have H4:=(H3.pick (A:=zc zj 254 4 v its) (.there .here)).join;refine (insert0_c hb w (H4.ho _ zN)).mono ?_;rintro e w' ⟨v',rfl,hst⟩;refine ⟨v',rfl,?_⟩;have e2:((zc zj 254 4 v its).sep (blk s (.cells #[.int .i64 x.id,.int .i64 x.nx,.int .u64 x.ky,.int .i64 x.n] 254))).fp=((zc zj 254 4 v its).sep (zc zj 254 4 (.slice (some ⟨s,0,none⟩) 1 1) [x])).fp:=by
  rw [sep_fp,sep_fp,w8,qS zj 254 4 (.slice (some ⟨s,0,none⟩) 1 1) [x]];rfl
 rw [e2] at hst;exact hst
end
section
open Go.RowKit Go.Maps
attribute [local go_sem] qt
section
variable {ops:Array Oper} {a:Act} {w w0:World} {M:List Nat} {R:List As} {o1:Oper} {Rr:Value->World->Prop}
theorem StStep.rowAk {α:Type} {enc:α->List Value} {e ty:TypeId} {x y:Operand} {k g n c i j b:Nat} {xs:List α} (H:St w0 M (zc enc e k (.slice (some ⟨g,0,none⟩) n c) xs::R) w) (hw:Region.wanted o1 (yielded ops a.tmps)=true) (ho:o1.op=.store ty x y) (hx:a.eval x=.pointer (some ⟨g,b,none⟩)) {u:Value} (hr:je ty=true) (hy:yU a y=some u) (h1:u.oneCell'=true)
  (hk:∀ x,(enc x).length=k) {x0:α} (hi:xs[i]?=some x0) (hj:j<k) (hb:b=i*k+j) (z:α) (hz:enc z=(enc x0).set j u)
  (h:∀ w',St w0 M (zc enc e k (.slice (some ⟨g,0,none⟩) n c) (xs.set i z)::R) w'->Rr undef w'):StStep zb ops o1 a w Rr:=by
 have hil:i<xs.length:=(xB.1 hi).1;obtain ⟨cur,q1,q2,q3,q4,q5,H2⟩:=YJ H;have hbl:b<cur.size:=by
  have h9:(i+1)*k<=xs.length*k:=y9 k hil;have h10:(i+1)*k=i*k+k:=XX i k;have h11:=congrArg ym q5;rw [yW enc k hk,qg] at h11;have h12:cur.toList.length=cur.size:=rfl;omega
 refine StStep.storeC hw ho hx hr hy h1 H2 hbl fun w' H3=>h w' (ZD hk H3 q1 q2 (by rw [wo];exact q3) (by simpa using q4) ?_)
 rw [Array.toList_setIfInBounds,List.take_set,q5,Yy hk hj hi hz,hb]
end
def xD (rs:List ItR) (x:ItR):List ItR:=match rs.getLast? with
 |some j=>if j.id=x.id then rs.dropLast++[⟨j.id,j.nx,j.ky,j.n+x.n⟩] else rs++[x]
 |none=>rs++[x]
theorem JM (x:ItR):xD [] x=[x]:=rfl
theorem WF (ts:List ItR) (j x:ItR):xD (ts++[j]) x=if j.id=x.id then ts++[⟨j.id,j.nx,j.ky,j.n+x.n⟩] else ts++[j]++[x]:=by simp [xD]
theorem ZR {S:Sto} (hS:S.Ok) {M:List It} {rs:List ItR} {i:It} {x:ItR} (h:ItsOf S M rs) (hi:ItOf S i x):ItsOf S (qx M i) (xD rs x):=by
 rcases yn M with rfl|⟨M',j,rfl⟩
 ·rw [ItsOf.nil_iff h,YH,JM];exact ⟨hi,trivial⟩
 ·obtain ⟨ts,r,rfl,h1,h2⟩:=h.snoc_iff;rw [QC,WF];by_cases he:r.id=x.id
  ·rw [if_pos he,if_pos ((Den.eq_iff hS h2.den hi.den).1 he)];exact h1.snoc ⟨h2.den,h2.ky,by simp only;rw [h2.n,hi.n],h2.nx⟩
  ·rw [if_neg he,if_neg (fun e=>he ((Den.eq_iff hS h2.den hi.den).2 e))];exact (h1.snoc h2).snoc hi
attribute [local go_sem] StStep jw yM in
theorem WG {x:ItR} {v:Value} {rs:List ItR} (hb:rs.length<=4194304) (hn:∀ j,rs.getLast?=some j->j.n+x.n<=1152921504606846976) (w:World) (h:(zc zj 254 4 v rs).ho w) :
  Calls zb 183 #[v,.agg #[.int .i64 x.id,.int .i64 x.nx,.int .u64 x.ky,.int .i64 x.n]] w fun e w'=>∃ v',e=.returned v'∧St w (zc zj 254 4 v rs).fp [zc zj 254 4 v' (xD rs x)] w':=by
 have H:=St.one h;generalize (zc zj 254 4 v rs).fp=N at *;clear h;have HB:=zh hb;rcases yn rs with rfl|⟨ts,j,rfl⟩
 ·obtain ⟨ad,c,e1,_⟩:=zE (H.get (A:=zc zj 254 4 v []) pk);simp only [zC] at e1;subst e1;clear hb hn;rw [JM];go_enter Tryz.func183,Tryz.ntmps183;go_wp2_with (first|refine sL ?_|(refine sS ?_;clear H;intros;rename_i H));rename_i b3 _ _ _ _ _;refine zG H 13 [] [] (by kernel_rfl) (by kernel_rfl) ?_;apply Exists.intro;refine ⟨fun w1 hw1 HX=>?_,fun bs wr Hr=>?_⟩
  ·refine sG ?_;repeat (first|go_big_quiet_skip|refine sQ ?_|fail|go_big_quiet_step (fail))
   exact wpQuiet_nil rfl
  clear H;have H:=Hr;clear Hr;replace H:=sH H;refine sT ?_;go_wp2_with (first|refine sL ?_|(refine sS ?_;clear H;intros;rename_i H)|((with_reducible refine qV ?_);refine AtSlice.one H rfl rfl rfl rfl rfl rfl rfl rfl rfl ?_;clear H;intro b _ H;simp only [Act.put,puA,puB,puC])|((with_reducible refine qJ ?_);refine AtAppend.go (enc:=zj) H rfl rfl rfl rfl rfl (by decide) (by decide) rfl pk rfl (H.at pk) [x] rfl rfl q7 w9 (by have:=HB.out;first|(simp;done)|(simp at this ⊢;omega)) ?_;clear H;intro ad9 cp9 _ H;simp only [Act.put,puA,puB,puC]));go_ret;exact ⟨_,rfl,H.picks (.cons pk .nil)⟩
 ·obtain ⟨g,c,e1,hc1,_⟩:=q8 (H.get (A:=zc zj 254 4 v (ts++[j])) pk) (by simp);obtain ⟨n,hn1⟩:∃ n,ts.length=n:=⟨_,rfl⟩
  have hlen:(ts++[j]).length=n+1:=(by simp [hn1]);rw [hlen] at e1 hb hc1;subst e1;have hsum:j.n+x.n<=1152921504606846976:=hn j (by simp);obtain ⟨s,hs⟩:∃ s,j.n+x.n=s:=⟨_,rfl⟩
  have i1:(j.n:Int)+(x.n:Int)=(s:Nat):=(by omega);have hsb:s<=1152921504606846976:=(by omega);have hx:(ts++[j])[n]?=some j:=(by rw [← hn1];simp);have HXI:=zh hx;have HR0:Hid (∀ w,(zc zj 254 4 (.slice (some ⟨g,0,none⟩) (n+1) c) (ts++[j])).ho w->w.cell? ⟨g,n*4,none⟩=some (.int .i64 j.id)):=zh fun w h=>qj (j:=0) h q7 hx rfl
  have HR3:Hid (∀ w,(zc zj 254 4 (.slice (some ⟨g,0,none⟩) (n+1) c) (ts++[j])).ho w->w.cell? ⟨g,n*4+3,none⟩=some (.int .i64 j.n)):=zh fun w h=>qj (j:=3) h q7 hx rfl
  have HSE:Hid (zj ⟨j.id,j.nx,j.ky,j.n+x.n⟩=(zj j).set 3 (.int .i64 (s:Nat))):=zh (by rw [← hs];rfl);have HSET:Hid ((ts++[j]).set n ⟨j.id,j.nx,j.ky,j.n+x.n⟩=ts++[⟨j.id,j.nx,j.ky,j.n+x.n⟩]):=zh (by rw [← hn1];simp);rw [WF];by_cases he:j.id=x.id
  ·rw [if_pos he];have d1:((j.id:Int)==(x.id:Int))=true:=(by simp [he]);clear he hn hn1 hlen hx hs hsum;go_enter Tryz.func183,Tryz.ntmps183;go_wp2_with (first|refine sL ?_|(refine sS ?_;clear H;intros;rename_i H));rename_i b3 _ _ _ _ _;refine zG H 13 [] [] (by kernel_rfl) (by kernel_rfl) ?_;apply Exists.intro;refine ⟨fun w1 hw1 HX=>?_,fun bs wr Hr=>?_⟩
   ·refine sG ?_;repeat (first|go_big_quiet_skip|refine sQ ?_|go_big_quiet_step (fail))
    exact wpQuiet_nil rfl
   clear H;have H:=Hr;clear Hr;replace H:=sH H;refine sT ?_;go_wp2_with (first|refine sL ?_|(refine sS ?_;clear H;intros;rename_i H));replace H:St w N [zc zj 254 4 (.slice (some ⟨g,0,none⟩) (n+1) c) (ts++[j]),blk b3 (.cells #[.int .i64 x.id,.int .i64 x.nx,.int .u64 x.ky,.int .i64 x.n] 254)] _:=H.picks (.cons pk (.cons pk .nil));refine zM 12 [⟨[],fun v _=>v=.slice (some ⟨g,0,none⟩) (n+1) c⟩,⟨[],fun v _=>v=.int .i64 ((n:Int)+1)⟩,⟨[1],fun v _=>v=.int .i64 n⟩,⟨[0,2],fun v _=>v=.pointer (some ⟨g,n*4,none⟩)⟩,⟨[3],fun v _=>v=.pointer (some ⟨g,n*4+3,none⟩)⟩,⟨[4],fun v _=>v=.int .i64 j.n⟩,⟨[],fun v _=>v=.pointer (some ⟨b3,3,none⟩)⟩,⟨[6],fun v _=>v=.int .i64 x.n⟩,⟨[5,7],fun v _=>v=.int .i64 s⟩,⟨[0,2],fun v _=>v=.pointer (some ⟨g,n*4,none⟩)⟩,⟨[9],fun v _=>v=.pointer (some ⟨g,n*4+3,none⟩)⟩,⟨[8,10],fun _ _=>True⟩] [11] [[0],[0],[0],[0],[0],[0],[0],[0],[0],[0],[0],[0]] [fun _ wx=>St w N [zc zj 254 4 (.slice (some ⟨g,0,none⟩) (n+1) c) (ts++[j]),blk b3 (.cells #[.int .i64 x.id,.int .i64 x.nx,.int .u64 x.ky,.int .i64 x.n] 254)] wx,fun _ wx=>St w N [zc zj 254 4 (.slice (some ⟨g,0,none⟩) (n+1) c) (ts++[⟨j.id,j.nx,j.ky,j.n+x.n⟩]),blk b3 (.cells #[.int .i64 x.id,.int .i64 x.nx,.int .u64 x.ky,.int .i64 x.n] 254)] wx]
    [[],[],[(1,22)],[(0,21),(2,23)],[(3,24)],[(4,25)],[],[(6,27)],[(5,26),(7,28)],[(0,21),(2,23)],[(9,30)],[(8,29),(10,31)]] [(0,21),(1,22),(2,23),(3,24),(4,25),(5,26),(6,27),(7,28),(8,29),(9,30),(10,31)] (by kernel_rfl) (by kernel_rfl) H.drew ⟨⟨qo,trivial⟩,⟨qo,trivial⟩,⟨qo,trivial⟩,⟨?_,trivial⟩,⟨qo,trivial⟩,⟨ql,trivial⟩,⟨qo,trivial⟩,⟨ql,trivial⟩,⟨qo,trivial⟩,⟨?_,trivial⟩,⟨qo,trivial⟩,⟨?_,trivial⟩,trivial⟩ ?_
   ·intro vals wx hd HC;simp only [GF] at hd;have H:=HC;simp only [CA] at H;simp only [PS,hd];clear H;go_simp;rw [if_pos (show (n:Int)<(n:Int)+1 by omega)];exact ⟨rfl,HC⟩
   ·intro vals wx hd HC;simp only [GF] at hd;have H:=HC;simp only [CA] at H;simp only [PS,hd];clear H;go_simp;rw [if_pos (show (n:Int)<(n:Int)+1 by omega)];exact ⟨rfl,HC⟩
   ·intro vals wx hd HC;simp only [GF] at hd;have H:=HC;simp only [CA] at H;simp only [PS,hd];refine StStep.rowAk (enc:=zj) (k:=4) (n:=n+1) (c:=c) (i:=n) (j:=3) H rfl rfl rfl rfl rfl rfl q7 HXI.out (by omega) rfl ⟨j.id,j.nx,j.ky,j.n+x.n⟩ HSE.out ?_;intro wz H;rw [HSET.out] at H;exact ⟨trivial,H⟩
   intro vals wx hd HC;simp only [CA] at HC;have H:=HC;clear HC;simp only [GF] at hd;simp only [PS,hd];clear hd;go_wp2_with (first|refine sL ?_|(refine sS ?_;clear H;intros;rename_i H));go_ret;exact ⟨_,rfl,H.picks (.cons pk .nil)⟩
  ·rw [if_neg he];have d1:((j.id:Int)==(x.id:Int))=false:=(by simp;omega);clear he hn hn1 hlen hx hs hsum HSET HSE HXI HR3;generalize ts++[j]=zs at *;go_enter Tryz.func183,Tryz.ntmps183;go_wp2_with (first|refine sL ?_|(refine sS ?_;clear H;intros;rename_i H));rename_i b3 _ _ _ _ _;refine zG H 13 [] [] (by kernel_rfl) (by kernel_rfl) ?_;apply Exists.intro;refine ⟨fun w1 hw1 HX=>?_,fun bs wr Hr=>?_⟩
   ·refine sG ?_;repeat (first|go_big_quiet_skip|refine sQ ?_|go_big_quiet_step (fail))
    exact wpQuiet_nil rfl
   clear H;have H:=Hr;clear Hr;replace H:=sH H;refine sT ?_;go_wp2_with (first|refine sL ?_|(refine sS ?_;clear H;intros;rename_i H)|((with_reducible refine qV ?_);refine AtSlice.one H rfl rfl rfl rfl rfl rfl rfl rfl rfl ?_;clear H;intro b _ H;simp only [Act.put,puA,puB,puC])|((with_reducible refine qJ ?_);refine AtAppend.go (enc:=zj) H rfl rfl rfl rfl rfl (by decide) (by decide) rfl pk rfl (H.at pk) [x] rfl rfl q7 w9 (by have:=HB.out;first|(simp;done)|(simp at this ⊢;omega)) ?_;clear H;intro ad9 cp9 _ H;simp only [Act.put,puA,puB,puC]));go_ret;exact ⟨_,rfl,H.picks (.cons pk .nil)⟩
theorem mpost_ok {X:Px} {t:Tr} {f:FuncId} {args:Array Value} {N:List Nat} {w:World} (hr:X.S.list.length<X.S.most) (h:Calls zb f args w (QH X t N w)):Calls zb f args w fun e w'=>∃ (X':Px) (id:Nat),e=.returned (.tuple #[.int .i64 id,.nilIface])∧X.Ext X'∧zK X'∧X'.S.list.length<=X.S.list.length+1∧Den X'.S id t∧St w N [pA X'] w':=by
 refine h.mono ?_;rintro e w' ⟨X',id,c,rfl,h1,h2,h3,h4,h5⟩;rcases h4 with ⟨rfl,h4⟩|⟨_,_,_,h6⟩
 ·exact ⟨X',id,rfl,h1,h2,h3,h4,h5⟩
 ·omega
theorem kW {X:Px} {b l r n:Nat} {cs:Array Value} {t u:Tr} {v:Value} {rs:List ItR} {M:List It} (hX:zK X) (c0:cs[0]?=some (.pointer (some ⟨X.p,0,none⟩))) (hl:Den X.S l t) (hr:Den X.S r u) (hlen:t.len+u.len<=yG) (hroom:X.S.list.length<X.S.most) (hits:ItsOf X.S M rs) (hb:rs.length<=4194304) (hn:∀ j,rs.getLast?=some j->j.n+n<=1152921504606846976) (hnb:n<=1152921504606846976) (w:World) (h:(((pA X).sep ((blk b (.cells cs 250)).sep (zc zj 254 4 v rs))).sep deA).ho w) :
  Calls zb 184 #[.pointer (some ⟨b,0,none⟩),v,.int .i64 l,.int .i64 r,.int .i64 n] w fun e w'=>∃ (X':Px) (v':Value) (rs':List ItR),e=.returned (.tuple #[v',.nilIface])∧X.Ext X'∧zK X'∧X'.S.list.length<=X.S.list.length+1∧ItsOf X'.S (qx M ⟨.pair t u,none,n⟩) rs'∧St w ((pA X).sep ((blk b (.cells cs 250)).sep (zc zj 254 4 v rs))).fp [pA X',blk b (.cells cs 250),zc zj 254 4 v' rs'] w':=by
 rw [qz] at h;obtain ⟨k1,k2,hdd⟩:=h;have H:=St.one k1;have HK:Ks w ((pA X).sep ((blk b (.cells cs 250)).sep (zc zj 254 4 v rs))).fp [deA]:=⟨by simpa using k2,by simpa using fun b hb hm=>hdd b hm hb⟩
 generalize ((pA X).sep ((blk b (.cells cs 250)).sep (zc zj 254 4 v rs))).fp=N at *;replace H:=H.sep;replace H:=(H.pick (.there .here)).sep;clear k1 k2 hdd;have C0:=zh c0;have HXX:=zh hX;have HI:=zh hits;have HST:Hid (∀ w,(pA X).ho w->Calls zb 53 #[.pointer (some ⟨X.p,0,none⟩)] w fun e w'=>e=.returned (.pointer (some ⟨X.s,0,none⟩))∧w'=w):=zh fun w h=>jH w h
 have HPR:Hid (∀ w,(pA X).ho w->Calls zb 43 #[.pointer (some ⟨X.s,0,none⟩),.int .i64 l,.int .i64 r] w fun e w'=>∃ (X':Px) (id:Nat),e=.returned (.tuple #[.int .i64 id,.nilIface])∧X.Ext X'∧zK X'∧X'.S.list.length<=X.S.list.length+1∧Den X'.S id (.pair t u)∧St w (pA X).fp [pA X'] w'):=zh fun w h=>mpost_ok hroom (WA hl hr hlen hX w h)
 have HKS:Hid (∀ X2:Px,X.Ext X2->∀ w,(pA X2).ho w->Calls zb 174 #[.pointer (some ⟨X.p,0,none⟩)] w fun e w'=>e=.returned (.pointer (some ⟨X.K.t,0,none⟩))∧w'=w):=zh fun X2 e w h=>by have:=Wj w h;rwa [e.p,e.t] at this
 obtain ⟨ky,hky⟩:∃ k,(Tr.pair t u).key=k:=⟨_,rfl⟩
 have HKY:Hid (∀ (X2:Px) (id:Nat),X.Ext X2->zK X2->Den X2.S id (.pair t u)->∀ w,((pA X2).sep deA).ho w->Calls zb 98 #[.pointer (some ⟨X.K.t,0,none⟩),.int .i64 id] w (jL X2 (.tuple #[.int .u64 ky,.nilIface]) (pA X2).fp w)):=zh fun X2 id e1 e2 e3 w h=>by have:=Jx e2 e3 w h;rwa [e1.t,hky] at this
 have HPU:Hid (∀ (id:Nat) w,(zc zj 254 4 v rs).ho w->Calls zb 183 #[v,.agg #[.int .i64 id,.int .i64 0,.int .u64 ky,.int .i64 n]] w fun e w'=>∃ v',e=.returned v'∧St w (zc zj 254 4 v rs).fp [zc zj 254 4 v' (xD rs ⟨id,0,ky,n⟩)] w'):=zh fun id w h=>WG (x:=⟨id,0,ky,n⟩) hb hn w h
 have HKYE:=zh hky;clear hX c0 hl hr hlen hroom hits hb hn hky;go_enter Tryz.func184,Tryz.ntmps184;go_wp2_with (first|refine sL ?_|(refine sS ?_;clear H;intros;rename_i H)|(go_at_call 53;with_reducible refine same (HST.out _ (H.get pk)) ?_)|(go_at_call 43;with_reducible refine zm (HPR.out _ (H.get pk)) ?_;rintro e wc ⟨X2,id,rfl,y1,y2,y3,y4,hb⟩;have HY:=zh (za y1 (za y2 (za y3 y4)));clear y1 y2 y3 y4;replace H:=zn ((H.pick pk).call hb);clear hb)|(go_at_call 174;with_reducible refine same (HKS.out X2 HY.out.1 _ (H.get pk)) ?_)|(go_at_call 98;with_reducible refine zm (HKY.out X2 id HY.out.1 HY.out.2.1 HY.out.2.2.2 _ (H.sepK HK pk pk)) ?_;rintro e wc ⟨X3,z1,z2,z3,rfl,hb⟩;have HZ:=zh (za z1 (za z2 z3));clear z1 z2 z3;replace H:=zn ((H.pick pk).call hb);clear hb)|(go_at_call 183;with_reducible refine zm (HPU.out id _ (H.get pk)) ?_;rintro e wc ⟨v',rfl,hb⟩;replace H:=zn ((H.pick pk).call hb);clear hb));go_ret2;have hy:=HY.out;have hz:=HZ.out;exact ⟨X3,v',xD rs ⟨id,0,ky,n⟩,rfl,hy.1.trans hz.1,hz.2.1,by rw [hz.2.2];exact hy.2.2.1,ZR hz.2.1.ok (HI.out.le HXX.out.ok (hy.1.trans hz.1).le) ⟨by rw [hz.2.2];exact hy.2.2.2,HKYE.out.symm,rfl,rfl⟩,H.picks (.cons pk (.cons pk (.cons pk .nil)))⟩
end
section
open Go.RowKit Go.Maps
attribute [local go_sem] qt
theorem wN:∀ {M:List It},Sg M->M.length<=(zT M).length
 |[],_=>by simp
 |i::M,h=>by
  have h1:=h i (by simp);have h2:=wN (M:=M) fun j hj=>h j (by simp [hj])
  rw [qn];simp [It.exp,h1.1];omega
abbrev Yn (X:Px) (b:Nat) (cs:Array Value) (N:List Nat) (w:World) (M0 M':List It) (e:Ending) (w':World):Prop :=
 ∃ (X':Px) (v':Value) (rs':List ItR),e=.returned (.tuple #[v',.nilIface])∧X.Ext X'∧zK X'∧ItsOf X'.S M' rs'∧X'.S.list.length+(zT M').length<=X.S.list.length+(zT M0).length∧St w N [pA X',blk b (.cells cs 250),zc zj 254 4 v' rs'] w'
theorem Kj {i:It}:∀ {l:List It},i∈l->∃ a c,zT l=a++i.exp++c
 |j::l,h=>by
  rcases zL.1 h with rfl|h
  ·exact ⟨[],zT l,by rw [qn];simp⟩
  ·obtain ⟨a,c,e⟩:=Kj h;exact ⟨j.exp++a,c,by rw [qn,e];simp⟩
theorem Qq {i:It} {l:List It} (h:i∈l):i.exp.length<=(zT l).length:=by
 obtain ⟨a,c,e⟩:=Kj h;rw [e];simp;omega
theorem Ve {i:It} {l:List It} (h:i∈l):xe i.exp<=xe (zT l):=by
 obtain ⟨a,c,e⟩:=Kj h;rw [e,yx,yx];omega
theorem It.n_le (i:It):i.n<=i.exp.length:=by
 unfold It.exp;split
 ·simp
 ·simp;omega
theorem kJ {i:It} {l:List It} (h:i∈l):i.n<=(zT l).length:=qs i.n_le (Qq h)
theorem ItsOf.set {S:Sto}:∀ {M:List It} {rs:List ItR} {k:Nat} {i:It} {r:ItR},ItsOf S M rs->ItOf S i r->ItsOf S (M.set k i) (rs.set k r)
 |[],[],_,_,_,_,_=>trivial
 |_::_,_::_,0,_,_,h,hi=>⟨hi,h.2⟩
 |_::_,_::_,k+1,_,_,h,hi=>⟨h.1,ItsOf.set h.2 hi⟩
 |[],_::_,_,_,_,h,_=>h.elim
 |_::_,[],_,_,_,h,_=>h.elim
theorem ItsOf.take {S:Sto}:∀ {M:List It} {rs:List ItR} (k:Nat),ItsOf S M rs->ItsOf S (M.take k) (rs.take k)
 |[],[],k,_=>by cases k <;> exact trivial
 |_::_,_::_,0,_=>trivial
 |_::_,_::_,k+1,h=>⟨h.1,ItsOf.take k h.2⟩
 |[],_::_,_,h=>h.elim
 |_::_,[],_,h=>h.elim
theorem YI {S:Sto} (hS:S.Ok):∀ {M acc:List It} {rs ac:List ItR},ItsOf S acc ac->ItsOf S M rs->ItsOf S (M.foldl qx acc) (rs.foldl xD ac)
 |[],_,[],_,h,_=>h
 |i::M,_,r::rs,_,h,k=>by
  have h2:=YI (M:=M) (rs:=rs) hS (ZR hS h k.1) k.2;exact h2
 |[],_,_::_,_,_,h=>h.elim
 |_::_,_,[],_,_,h=>h.elim
theorem set_same {α:Type} {l:List α} {k:Nat} {x:α} (h:l[k]?=some x):l.set k x=l:=by
 apply Zm;intro j;rw [List.getElem?_set];split
 ·rename_i e;subst e;rw [if_pos (yE h),h]
 ·rfl
def vj (L:List It) (k:Nat):List It:=(L.take k).map Y4++L.drop k
theorem JG (L:List It):vj L 0=L:=by simp [vj]
theorem midI_len (L:List It) (k:Nat):(vj L k).length=L.length:=by simp [vj];omega
theorem midI_all (L:List It) {k:Nat} (h:L.length<=k):vj L k=L.map Y4:=by
 unfold vj;rw [qp h,yo h];simp
theorem Wz {L:List It} {k:Nat} {i:It} (h:L[k]?=some i):(vj L k)[k]?=some i:=by
 have hk:=yE h;unfold vj;rw [yd (by simp;omega)];simp [kF (Nat.le_of_lt hk),h]
theorem JF {L:List It} {k:Nat} {i:It} (h:L[k]?=some i):vj L (k+1)=(vj L k).set k (Y4 i):=by
 have hk:=yE h;have h1:L.drop k=i::L.drop (k+1):=by
  rw [yj hk];congr 1
  rw [zg hk] at h;injection h
 unfold vj;rw [h1,List.set_append_right _ _ (by simp;omega)];simp only [qd,qg,kF (Nat.le_of_lt hk),QL,zq];rw [x5,h];simp
theorem midI_exp {L:List It} {k:Nat} {i:It} (h:L[k]?=some i):(zT (vj L (k+1))).length+i.exp.length=(zT (vj L k)).length+(Y4 i).exp.length:=by
 have hk:=yE h;have h1:L.drop k=i::L.drop (k+1):=by
  rw [yj hk];congr 1
  rw [zg hk] at h;injection h
 unfold vj;rw [h1,x5,h];simp only [qb,xH,zX,ye,xw,qn,qH,zi,qO];omega
theorem made_det {X:Px} {f:FuncId} {args:Array Value} {r:(Nat×Option Nat)×Sto} {t:Tr} {w:World} (hX:zK X) (h:(pA X).ho w) (hm:Made X.S t r) (hroom:X.S.list.length<X.S.most) (hc:(qF X.s X.lv X.m X.S).ho w->Calls zb f args w (StoPost X.s X.m (qF X.s X.lv X.m X.S).fp r w)):Calls zb f args w fun e w'=>∃ X':Px,e=.returned (.tuple #[.int .i64 r.1.1,.nilIface])∧X.Ext X'∧zK X'∧X'.S.list.length<=X.S.list.length+1∧Den X'.S r.1.1 t∧St w (pA X).fp [pA X'] w':=by
 have H:=KE (St.one h);refine (hc (H.get pk)).mono ?_;rintro e w' ⟨lv',rfl,hb⟩;replace H:=(H.pick pk).call hb;simp only [zo,zv] at H;obtain ⟨m1,m2,m3,m4⟩:=hm;rcases m4 with ⟨h1,h2⟩|⟨_,_,h3⟩
 ·refine ⟨⟨X.p,X.s,lv',X.m,r.2,X.K⟩,by rw [h1];rfl,⟨rfl,rfl,rfl,m1⟩,⟨m2,hX.kt.le hX.ok m1,hX.s⟩,m3,h2,?_⟩;exact (XL (X:=⟨X.p,X.s,lv',X.m,r.2,X.K⟩) (H.pick3 (A:=blk X.p (.cells #[.pointer (some ⟨X.s,0,none⟩),.pointer (some ⟨X.K.t,0,none⟩)] 119)) (B:=ktA X.K) (C:=qF X.s lv' X.m r.2) pk pk pk)).onlyHead
 ·omega
theorem power_d {X:Px} {l k:Nat} {t:Tr} (hl:Den X.S l t) (hk:2<=k) (hk2:k<9223372036854775808) (hlen:t.len*k<=yG) (hroom:X.S.list.length<X.S.most) (hX:zK X) (w:World) (h:(pA X).ho w) :
  Calls zb 70 #[.pointer (some ⟨X.s,0,none⟩),.int .i64 l,.int .i64 k] w fun e w'=>∃ X':Px,e=.returned (.tuple #[.int .i64 (X.S.power l k).1.1,.nilIface])∧X.Ext X'∧zK X'∧X'.S.list.length<=X.S.list.length+1∧Den X'.S (X.S.power l k).1.1 (.pow t k)∧St w (pA X).fp [pA X'] w' :=
 made_det hX h (VE hX.ok hl hk hlen) hroom fun h=>power_c hX.ok l k hl.2.1 hk2 w h
def MrRel (X:Px) (b:Nat) (cs:Array Value) (mv:Value) (rs:List ItR) (N:List Nat) (w:World) (m:Nat) (v4 v17:Value) (wr:World):Prop :=
 ∃ k:Nat,k<=rs.length∧m=rs.length-k∧v17=.int .i64 k∧St w N [pA X,blk b (.cells cs 250),zc zj 254 4 mv rs,zc zj 254 4 v4 ((rs.take k).foldl xD [])] wr
def MsRel (X:Px) (b:Nat) (cs:Array Value) (v:Value) (L:List It) (B:Nat) (N:List Nat) (w:World) (m:Nat) (v27:Value) (wr:World):Prop :=
 ∃ (k:Nat) (X1:Px) (ls:List ItR),k<=L.length∧m=L.length-k∧v27=.int .i64 k∧(X.Ext X1∧zK X1∧ItsOf X1.S (vj L k) ls∧X1.S.list.length+(zT (vj L k)).length<=B)∧St w N [pA X1,blk b (.cells cs 250),zc zj 254 4 v ls] wr
attribute [local go_sem] StStep jw yM in
theorem VF {X:Px} {b:Nat} {cs:Array Value} {mv:Value} {rs:List ItR} {M:List It} (hX:zK X) (c0:cs[0]?=some (.pointer (some ⟨X.p,0,none⟩))) (c11:cs[11]?=some mv) (hits:ItsOf X.S M rs) (hsg:Sg M) (hcnt:(zT M).length<=1048576) (hlen:xe (zT M)<=yG) (hroom:X.S.list.length+(zT M).length<=X.S.most) (w:World) (h:(((pA X).sep ((blk b (.cells cs 250)).sep (zc zj 254 4 mv rs))).sep deA).ho w) :
  Calls zb 167 #[.pointer (some ⟨b,0,none⟩)] w (Yn X b cs ((pA X).sep ((blk b (.cells cs 250)).sep (zc zj 254 4 mv rs))).fp w M (Qh M)):=by
 rw [qz] at h;obtain ⟨k1,k2,hdd⟩:=h;have H:=St.one k1;have HK:Ks w ((pA X).sep ((blk b (.cells cs 250)).sep (zc zj 254 4 mv rs))).fp [deA]:=⟨by simpa using k2,by simpa using fun b hb hm=>hdd b hm hb⟩
 generalize ((pA X).sep ((blk b (.cells cs 250)).sep (zc zj 254 4 mv rs))).fp=N at *;replace H:=H.sep;replace H:=(H.pick (.there .here)).sep;clear k1 k2 hdd;have C0:=zh c0;have C11:=zh c11;have HXX:=zh hX;have HI:=zh hits;have HSG:=zh hsg;have HL:=zh (za hcnt (za hlen hroom));have HML:Hid (rs.length=M.length∧M.length<=(zT M).length):=zh ⟨hits.len,wN hsg⟩;have hrn:rs.length<=1048576:=(by have:=HML.out;omega);obtain ⟨am,cm,em,_⟩:=zE (H.get (A:=zc zj 254 4 mv rs) pk);subst em;obtain ⟨n,hn⟩:∃ n,rs.length=n:=⟨_,rfl⟩
 rw [hn] at hrn;have HN:=zh hn;simp only [hn] at H C11;have H0:=H.empty (A:=zc zj 254 4 (.slice none 0 0) []) (qq _) (by rw [qW];rfl);clear hX c0 c11 hits hsg hcnt hlen hroom H hn;have H:=H0;clear H0;go_enter Tryz.func167,Tryz.ntmps167;go_wp2_with (first|refine sL ?_|(refine sS ?_;clear H;intros;rename_i H));go_loopg [4,17] n (fun m v4 v17 wr=>MrRel X b cs (.slice am n cm) rs N w m v4 v17 wr);case atStart=>exact ⟨0,qy _,by rw [HN.out];rfl,rfl,H.picks (.cons pk (.cons pk (.cons pk (.cons pk .nil))))⟩
 case round =>
  clear H;obtain ⟨k,hk0,rfl,rfl,H⟩:=hrel;rw [HN.out] at hk0;by_cases hk:k<n
  ·have d1:decide ((k:Int)<(n:Int))=true:=(by simp;omega);have d2:decide (k<n)=true:=(by simp;omega);obtain ⟨r,hr⟩:∃ r,rs[k]?=some r:=⟨rs[k]'(by rw [HN.out];exact hk),by simp [HN.out,hk]⟩
   obtain ⟨i,hi⟩:∃ i,M[k]?=some i:=⟨M[k]'(by rw [← HML.out.1,HN.out];exact hk),by simp⟩
   obtain ⟨gm,cm2,e9,_⟩:=q8 (H.get (A:=zc zj 254 4 (.slice am n cm) rs) pk) (by rw [HN.out];omega);injection e9 with e9 e7 e8
   subst e9 e8;clear e7;have HRX:Hid (∀ w,(zc zj 254 4 (.slice (some ⟨gm,0,none⟩) n cm) rs).ho w->w.rangeAt gm (k*4) [.int .i64 r.id,.int .i64 r.nx,.int .u64 r.ky,.int .i64 r.n]):=zh fun w h=>wd h q7 hr
   obtain ⟨acc,hacc⟩:∃ acc,(rs.take k).foldl xD []=acc:=⟨_,rfl⟩
   rw [hacc] at H;have hio:ItOf X.S i r:=by
    obtain ⟨r',e1,e2⟩:=HI.out.get hi;rw [hr] at e1;injection e1 with e1
    rw [e1];exact e2
   have hft:=YI HXX.out.ok (acc:=[]) (ac:=[]) trivial (HI.out.take k);rw [hacc] at hft;have hpa:=Y5 (M:=M.take k) (acc:=[]) (fun j hj=>by simp at hj) trivial (fun j hj=>HSG.out j (List.mem_of_mem_take hj));have htk:(zT (M.take k)).length<=(zT M).length:=by
    have:zT M=zT (M.take k)++zT (M.drop k):=by rw [← xw,List.take_append_drop]
    rw [this];simp
   have hal:acc.length<=1048576:=by
    have h1:=hft.len;have h2:=wN hpa.1;rw [hpa.2.2] at h2;simp only [qH,zv] at h2;have:=HL.out.1;omega
   have hsum:∀ j,acc.getLast?=some j->j.n+r.n<=1152921504606846976:=fun j hj=>by
    have hjm:=vq hj;obtain ⟨q,hq⟩:=Yi.1 hjm;have hql:q<((M.take k).foldl qx []).length:=(by rw [← hft.len];exact yE hq);obtain ⟨jr,e1,e2⟩:=hft.get (k:=q) (i:=((M.take k).foldl qx [])[q]) (by simp);rw [hq] at e1;injection e1 with e1
    have h3:=kJ (List.getElem_mem hql);rw [hpa.2.2] at h3;simp only [qH,zv] at h3;have h4:=kJ (zy hi);rw [e1,e2.n,hio.n];have:=HL.out.1;omega
   have HPU:Hid (∀ w,(zc zj 254 4 u4 acc).ho w->Calls zb 183 #[u4,.agg #[.int .i64 r.id,.int .i64 r.nx,.int .u64 r.ky,.int .i64 r.n]] w fun e w'=>∃ v',e=.returned v'∧St w (zc zj 254 4 u4 acc).fp [zc zj 254 4 v' (xD acc r)] w'):=zh fun w h=>WG (by omega) hsum w h
   have HTK:Hid ((rs.take (k+1)).foldl xD []=xD acc r):=zh (by rw [x5,hr,qb,List.foldl_append,hacc];rfl);clear hr hi hacc hio hft hpa htk hal hsum;go_wp2_with (first|refine sL ?_|(refine sS ?_;clear H;intros;rename_i H)|((with_reducible refine qh ?_);refine AtLoad.rngT rfl rfl rfl (HRX.out _ (H.get pk)) rfl ?_;simp only [Act.put,puA,puB,puC])|(go_at_call 183;with_reducible refine zm (HPU.out _ (H.get pk)) ?_;rintro e wc ⟨v',rfl,hb⟩;replace H:=zn ((H.pick pk).call hb);clear hb));go_roundg (n-(k+1));case measure=>(have:=HN.out;omega)
   case rel=>exact ⟨k+1,by rw [HN.out];omega,by rw [HN.out],by simp,by rw [HTK.out];exact H.picks (.cons pk (.cons pk (.cons pk (.cons pk .nil))))⟩
  ·have hkn:k=n:=(by omega);subst hkn;have d1:decide ((k:Int)<(k:Int))=false:=(by simp);have d2:decide (k<k)=false:=(by simp);rw [show rs.take k=rs from by rw [← HN.out];exact jx] at H;obtain ⟨acc,hacc⟩:∃ acc,rs.foldl xD []=acc:=⟨_,rfl⟩
   rw [hacc] at H;obtain ⟨LM,hLM⟩:∃ LM,M.foldl qx []=LM:=⟨_,rfl⟩
   have hfold:ItsOf X.S LM acc:=by
    have:=YI HXX.out.ok (acc:=[]) (ac:=[]) trivial HI.out;rwa [hLM,hacc] at this
   have hpa:=Y5 (M:=M) (acc:=[]) (fun j hj=>by simp at hj) trivial HSG.out;rw [hLM] at hpa;simp only [qH,zv] at hpa;have hll:=hfold.len;have hl2:=wN hpa.1;obtain ⟨av,cv,ev,_⟩:=zE (H.get (A:=zc zj 254 4 u4 acc) pk);obtain ⟨n2,hn2⟩:∃ n2,acc.length=n2:=⟨_,rfl⟩
   rw [hn2] at ev hll;have hn2b:n2<=1048576:=(by rw [hpa.2.2] at hl2;have:=HL.out.1;omega);subst ev;have HF:=zh hfold;have HP:=zh (za hpa.1 hpa.2.2);have HLL:=zh (za hll.symm hLM);clear hacc hLM hfold hpa hll hl2 hn2 hk0;go_wp2_with (first|refine sL ?_|(refine sS ?_;clear H;intros;rename_i H));go_loopg [27] n2 (fun m v27 wr=>MsRel X b cs (.slice av n2 cv) LM (X.S.list.length+(zT M).length) N w m v27 wr);case atStart=>exact ⟨0,X,acc,qy _,by rw [HLL.out.1];rfl,rfl,⟨.refl _,HXX.out,by rw [JG];exact HF.out,by rw [JG,HP.out.2];exact zr _⟩,H.picks (.cons pk (.cons pk (.cons pk .nil)))⟩
   case round =>
    clear H d1 d2;obtain ⟨q,X1,ls,hq0,rfl,rfl,hrel,H⟩:=hrel;have HREL:=zh hrel;rw [HLL.out.1] at hq0;by_cases hq:q<n2
    ·have d1:decide ((q:Int)<(n2:Int))=true:=(by simp;omega);have d2:decide (q<n2)=true:=(by simp;omega);obtain ⟨i,hi⟩:∃ i,LM[q]?=some i:=⟨LM[q]'(by rw [HLL.out.1];exact hq),by simp⟩
     obtain ⟨r,hr,hio⟩:=hrel.2.2.1.get (Wz hi);have hlsl:ls.length=n2:=(by rw [hrel.2.2.1.len,midI_len,HLL.out.1]);obtain ⟨g2,c2,e9,_⟩:=q8 (H.get (A:=zc zj 254 4 (.slice av n2 cv) ls) pk) (by omega);injection e9 with e9 e7 e8
     subst e9 e8;clear e7;have HRX:Hid (∀ w,(zc zj 254 4 (.slice (some ⟨g2,0,none⟩) n2 cv) ls).ho w->w.rangeAt g2 (q*4) [.int .i64 r.id,.int .i64 r.nx,.int .u64 r.ky,.int .i64 r.n]):=zh fun w h=>wd h q7 hr
     have hmem:=zy hi;have hsgi:=HP.out.1 i hmem;have hne:i.exp.length=i.n:=(by unfold It.exp;rw [hsgi.1];simp);have hex:=midI_exp hi;by_cases h1:r.n=1
     ·have d3:((r.n:Int)==1)=true:=(by simp [h1]);have hpi:Y4 i=i:=(by unfold Y4;rw [if_pos (by rw [← hio.n];exact h1)]);have hmid:vj LM (q+1)=vj LM q:=by
       rw [JF hi,hpi];have h5:=Wz hi;exact set_same h5
      have HNX:Hid (ItsOf X1.S (vj LM (q+1)) ls∧X1.S.list.length+(zT (vj LM (q+1))).length<=X.S.list.length+(zT M).length):=zh (by rw [hmid];exact hrel.2.2);clear hi hr hio hrel hlsl hmem hsgi hne hex h1 hpi hmid;go_wp2_with (first|refine sL ?_|(refine sS ?_;clear H;intros;rename_i H)|((with_reducible refine qh ?_);refine AtLoad.rngT rfl rfl rfl (HRX.out _ (H.get pk)) rfl ?_;simp only [Act.put,puA,puB,puC]));go_roundg (n2-(q+1));case measure=>(have:=HLL.out.1;omega)
      case rel=>exact ⟨q+1,X1,ls,by rw [HLL.out.1];omega,by rw [HLL.out.1],by simp,⟨HREL.out.1,HREL.out.2.1,HNX.out⟩,H.picks (.cons pk (.cons pk (.cons pk .nil)))⟩
     ·have d3:((r.n:Int)==1)=false:=(by simp;omega);have hn2':2<=r.n:=(by have:=hsgi.2;rw [hio.n] at h1 ⊢;omega);have hpi:Y4 i=⟨.pow i.x i.n,none,1⟩:=(by unfold Y4;rw [if_neg (by rw [← hio.n];exact h1)]);have hpe:(Y4 i).exp.length=1:=(by rw [hpi];rfl);have hil:i.x.len*r.n<=yG:=by
       have h5:=Ve hmem;have h6:i.exp=zd i.n i.x:=(by unfold It.exp;rw [hsgi.1]);rw [h6,Wn,HP.out.2] at h5;rw [hio.n];exact qs h5 HL.out.2.1
      have hrb:r.n<=1048576:=by
       rw [hio.n];have h5:=Qq hmem;rw [hne,HP.out.2] at h5;have:=HL.out.1;omega
      have hrm:X1.S.list.length<X1.S.most:=by
       have h5:=hrel.2.2.2;have h6:=HL.out.2.2;have h7:=Qq (zy (Wz hi));rw [hne,← hio.n] at h7;have h8:X1.S.most=X.S.most:=hrel.1.le.1;omega
      obtain ⟨pid,hpid⟩:∃ pid,(X1.S.power r.id r.n).1.1=pid:=⟨_,rfl⟩
      have hpw:=fun w h=>power_d hio.den hn2' (by omega) hil hrm hrel.2.1 w h
      rw [hpid,hrel.1.s] at hpw;have HPW:=zh hpw;obtain ⟨pky,hpky⟩:∃ pky,(Tr.pow i.x r.n).key=pky:=⟨_,rfl⟩
      have HPK:=zh hpky;have HST:Hid (∀ w,(pA X1).ho w->Calls zb 53 #[.pointer (some ⟨X.p,0,none⟩)] w fun e w'=>e=.returned (.pointer (some ⟨X.s,0,none⟩))∧w'=w):=zh fun w h=>by have:=jH w h;rwa [HREL.out.1.p,HREL.out.1.s] at this
      have HKS:Hid (∀ X2:Px,X1.Ext X2->∀ w,(pA X2).ho w->Calls zb 174 #[.pointer (some ⟨X.p,0,none⟩)] w fun e w'=>e=.returned (.pointer (some ⟨X.K.t,0,none⟩))∧w'=w):=zh fun X2 e w h=>by have:=Wj w h;rwa [(HREL.out.1.trans e).p,(HREL.out.1.trans e).t] at this
      have HKY:Hid (∀ X2:Px,X1.Ext X2->zK X2->Den X2.S pid (.pow i.x r.n)->∀ w,((pA X2).sep deA).ho w->Calls zb 98 #[.pointer (some ⟨X.K.t,0,none⟩),.int .i64 pid] w (jL X2 (.tuple #[.int .u64 pky,.nilIface]) (pA X2).fp w)):=zh fun X2 e1 e2 e3 w h=>by have:=Jx e2 e3 w h;rwa [(HREL.out.1.trans e1).t,HPK.out] at this
      have HQL:Hid (q<ls.length):=zh (by omega);have HFIN:Hid (∀ X3:Px,X1.Ext X3->zK X3->X3.S.list.length<=X1.S.list.length+1->Den X3.S pid (.pow i.x r.n)->ItsOf X3.S (vj LM (q+1)) (ls.set q ⟨pid,0,pky,1⟩)∧X3.S.list.length+(zT (vj LM (q+1))).length<=X.S.list.length+(zT M).length):=zh fun X3 e1 e2 e3 e4=>by
       refine ⟨?_,?_⟩
       ·rw [JF hi,hpi];exact (HREL.out.2.2.1.le HREL.out.2.1.ok e1.le).set ⟨by rw [← hio.n];exact e4,by rw [← hio.n];exact HPK.out.symm,rfl,rfl⟩
       ·have h5:=HREL.out.2.2.2;rw [hpe,hne,← hio.n] at hex;omega
      clear hi hr hio hrel hlsl hmem hsgi hne hex h1 hpi hpe hil hrm hpid hpw hpky;go_wp2_with (first|refine sL ?_|(refine sS ?_;clear H;intros;rename_i H)|((with_reducible refine qh ?_);refine AtLoad.rngT rfl rfl rfl (HRX.out _ (H.get pk)) rfl ?_;simp only [Act.put,puA,puB,puC]));rename_i b8 _ _ _ _;replace H:St w N [pA X1,blk b (.cells cs 250),zc zj 254 4 (.slice (some ⟨g2,0,none⟩) n2 cv) ls,blk b8 (.cells #[.int .i64 r.id,.int .i64 r.nx,.int .u64 r.ky,.int .i64 r.n] 254)] _:=H.picks (.cons pk (.cons pk (.cons pk (.cons pk .nil))));refine zM 15 [⟨[],fun v _=>v=.pointer (some ⟨b,0,none⟩)⟩,⟨[0],fun v _=>v=.pointer (some ⟨b,0,none⟩)⟩,⟨[1],fun v _=>v=.pointer (some ⟨b,0,none⟩)⟩,⟨[2],fun v _=>v=.pointer (some ⟨X.p,0,none⟩)⟩,⟨[3],fun v _=>v=.pointer (some ⟨X.s,0,none⟩)⟩,⟨[],fun v _=>v=.pointer (some ⟨b8,0,none⟩)⟩,⟨[5],fun v _=>v=.int .i64 r.id⟩,⟨[],fun v _=>v=.pointer (some ⟨b8,3,none⟩)⟩,⟨[7],fun v _=>v=.int .i64 r.n⟩,⟨[4,6,8],fun v _=>v=.tuple #[.int .i64 pid,.nilIface]⟩,⟨[9],fun v _=>v=.tuple #[.int .i64 pid,.nilIface]⟩,⟨[10],fun v _=>v=.int .i64 pid⟩,⟨[10],fun v _=>v=.nilIface⟩,⟨[11],fun v _=>v=.int .i64 pid⟩,⟨[12],fun v _=>v=.nilIface⟩] [9] [[0],[0],[0],[0],[0],[0],[0],[0],[0],[0],[1],[1],[1],[1],[1]] [fun _ wx=>St w N [pA X1,blk b (.cells cs 250),zc zj 254 4 (.slice (some ⟨g2,0,none⟩) n2 cv) ls,blk b8 (.cells #[.int .i64 r.id,.int .i64 r.nx,.int .u64 r.ky,.int .i64 r.n] 254)] wx,fun _ wx=>∃ X2:Px,(X1.Ext X2∧zK X2∧X2.S.list.length<=X1.S.list.length+1∧Den X2.S pid (.pow i.x r.n))∧St w N [pA X2,blk b (.cells cs 250),zc zj 254 4 (.slice (some ⟨g2,0,none⟩) n2 cv) ls,blk b8 (.cells #[.int .i64 r.id,.int .i64 r.nx,.int .u64 r.ky,.int .i64 r.n] 254)] wx]
       [[],[(0,36)],[(1,37)],[(2,38)],[(3,39)],[],[(5,41)],[],[(7,43)],[(4,40),(6,42),(8,44)],[(9,45)],[(10,35)],[(10,35)],[(11,46)],[(12,47)]] [(0,36),(1,37),(2,38),(3,39),(4,40),(5,41),(6,42),(7,43),(8,44),(9,45),(10,35),(11,46),(12,47),(13,9),(14,10)] (by kernel_rfl) (by kernel_rfl) H.drew ⟨⟨qo,trivial⟩,⟨qo,trivial⟩,⟨qo,trivial⟩,⟨ql,trivial⟩,⟨?_,trivial⟩,⟨qo,trivial⟩,⟨ql,trivial⟩,⟨qo,trivial⟩,⟨ql,trivial⟩,⟨?_,trivial⟩,⟨qo,trivial⟩,⟨qo,trivial⟩,⟨qo,trivial⟩,⟨qo,trivial⟩,⟨qo,trivial⟩,trivial⟩ ?_
      ·intro vals wx hd HC;simp only [GF] at hd;have h3:=hd;clear hd;have H:=HC;simp only [CA] at H;simp only [PS,h3];clear h3;go_simp;with_reducible refine zm (HST.out _ (H.get pk)) ?_
       rintro e wc ⟨rfl,rfl⟩;first|exact ⟨_,rfl,rfl,HC⟩|exact ⟨_,rfl,HC⟩
      ·intro vals wx hd HC;simp only [GF] at hd;obtain ⟨h4,h6,h8⟩:=hd;have H:=HC;simp only [CA] at H;simp only [PS,h4,h6,h8];clear h4 h6 h8 HC;go_simp;with_reducible refine zm (HPW.out _ (H.get pk)) ?_
       rintro e wc ⟨X2,rfl,m1,m2,m3,m4,hb⟩;have H2:=(H.pick pk).call hb;exact ⟨_,rfl,rfl,X2,⟨m1,m2,m3,m4⟩,(by simpa using H2:St w N _ _).picks (.cons pk (.cons pk (.cons pk (.cons pk .nil))))⟩
      intro vals wx hd HC;simp only [CA] at HC;obtain ⟨X2,hX2,H⟩:=HC;simp only [GF] at hd;simp only [PS,hd];clear hd;go_wp2_with (first|refine sL ?_|(refine sS ?_;clear H;intros;rename_i H)|(go_at_call 174;with_reducible refine same (HKS.out X2 hX2.1 _ (H.get pk)) ?_)|(go_at_call 98;with_reducible refine zm (HKY.out X2 hX2.1 hX2.2.1 hX2.2.2.2 _ (H.sepK HK pk pk)) ?_;rintro e wc ⟨X3,z1,z2,z3,rfl,hb⟩;have HZ:=zh (za z1 (za z2 z3));clear z1 z2 z3;replace H:=zn ((H.pick pk).call hb);clear hb)|((with_reducible refine yl ?_);refine AtStore.rowEl (enc:=zj) (k:=4) (g:=g2) (n:=n2) (c:=cv) (i:=q) (xs:=ls) H rfl rfl rfl rfl rfl rfl pk q7 HQL.out rfl (⟨pid,0,pky,1⟩:ItR) rfl ?_;clear H;intro _ H;simp only [Act.put,puA,puB,puC]));have hz:=HZ.out;have hfin:=HFIN.out X3 (hX2.1.trans hz.1) hz.2.1 (by rw [hz.2.2];exact hX2.2.2.1) (by rw [hz.2.2];exact hX2.2.2.2);go_roundg (n2-(q+1));case measure=>(have:=HLL.out.1;omega)
      case rel=>exact ⟨q+1,X3,ls.set q ⟨pid,0,pky,1⟩,by rw [HLL.out.1];omega,by rw [HLL.out.1],by simp,⟨HREL.out.1.trans (hX2.1.trans hz.1),hz.2.1,hfin⟩,H.picks (.cons pk (.cons pk (.cons pk .nil)))⟩
    ·have hqn:q=n2:=(by omega);subst hqn;have d1:decide ((q:Int)<(q:Int))=false:=(by simp);have d2:decide (q<q)=false:=(by simp);have HFN:Hid (ItsOf X1.S (Qh M) ls∧X1.S.list.length+(zT (Qh M)).length<=X.S.list.length+(zT M).length):=zh (by
      have:=hrel.2.2;rw [midI_all LM (by rw [HLL.out.1];exact zr _),← HLL.out.2] at this;exact this)
     clear hrel hq0;go_wp2_with (first|refine sL ?_|(refine sS ?_;clear H;intros;rename_i H));go_ret2;exact ⟨X1,_,ls,rfl,HREL.out.1,HREL.out.2.1,HFN.out.1,HFN.out.2,H.picks (.cons pk (.cons pk (.cons pk .nil)))⟩
end
section
open Go.RowKit Go.Maps
attribute [local go_sem] qt
theorem JK (lv:Nat) (acc:List It):yK lv acc []=acc:=by unfold yK;rfl
theorem pairs_one (lv:Nat) (acc:List It) (x:It):yK lv acc [x]=qx acc x:=by unfold yK;rfl
theorem pairs_fit {lv:Nat} {acc:List It} {x y:It} {r:List It} (h:fits lv x.x y.x=true):yK lv acc (x::y::r)=yK lv (qx acc ⟨.pair x.x y.x,none,1⟩) r:=by conv=>lhs;unfold yK;rw [if_pos h]
theorem pairs_not {lv:Nat} {acc:List It} {x y:It} {r:List It} (h:fits lv x.x y.x=false):yK lv acc (x::y::r)=yK lv (qx acc x) (y::r):=by conv=>lhs;unfold yK;rw [if_neg (by simp [h])]
structure MpIn (X X1:Px) (M:List It) (lv k:Nat) (A:List It) (acc:List ItR):Prop where
 ext:X.Ext X1
 ok:zK X1
 its:ItsOf X1.S A acc
 sg:Sg A
 way:yK lv A (M.drop k)=yK lv [] M
 sum:X1.S.list.length+((zT A).length+(M.length-k))<=X.S.list.length+M.length
 cnt:(zT A).length+(M.length-k)<=M.length
def MpRel (X:Px) (b:Nat) (cs:Array Value) (mv:Value) (rs:List ItR) (M:List It) (lv:Nat) (N:List Nat) (w:World) (m:Nat) (v6 v8:Value) (wr:World):Prop :=
 ∃ (k:Nat) (X1:Px) (A:List It) (acc:List ItR),k<=rs.length∧m=rs.length-k∧v8=.int .i64 k∧MpIn X X1 M lv k A acc∧St w N [pA X1,blk b (.cells cs 250),zc zj 254 4 mv rs,zc zj 254 4 v6 acc] wr
theorem MpIn.last {X X1:Px} {M:List It} {lv k:Nat} {A:List It} {acc:List ItR} (h:MpIn X X1 M lv k A acc) (hm:M.length<=1048576):acc.length<=1048576∧∀ j,acc.getLast?=some j->j.n+1<=1152921504606846976:=by
 have h1:=h.its.len;have h2:=wN h.sg;have h3:=h.cnt;refine ⟨by omega,fun j hj=>?_⟩;obtain ⟨q,hq⟩:=Yi.1 (vq hj);have hql:q<A.length:=(by rw [← h1];exact yE hq);obtain ⟨jr,e1,e2⟩:=h.its.get (k:=q) (i:=A[q]) (by simp);rw [hq] at e1;injection e1 with e1
 have h4:=kJ (List.getElem_mem hql);rw [e1,e2.n];omega
theorem JN {A:List It} {i:It} (hA:Sg A) (hi:i.nx=none∧i.n=1):(zT (qx A i)).length=(zT A).length+1:=by
 have:=(wV (i:=i) hA ⟨hi.1,by omega⟩).2;rw [this];simp [It.exp,hi.1,hi.2]
theorem MpIn.one {X X1:Px} {M:List It} {lv k:Nat} {A:List It} {acc:List ItR} {i:It} {r:ItR} (h:MpIn X X1 M lv k A acc) (hM:One M) (hi:M[k]?=some i) (hr:ItOf X1.S i r) (hw:yK lv (qx A i) (M.drop (k+1))=yK lv A (M.drop k)):MpIn X X1 M lv (k+1) (qx A i) (xD acc r):=by
 have hk:=yE hi;have h1:=hM i (zy hi);have h2:=JN h.sg h1;have h3:=h.sum;have h4:=h.cnt;exact ⟨h.ext,h.ok,ZR h.ok.ok h.its hr,(wV (i:=i) h.sg ⟨h1.1,by omega⟩).1,hw.trans h.way,by omega,by omega⟩
theorem MpIn.two {X X1 X2:Px} {M:List It} {lv k:Nat} {A:List It} {acc ac2:List ItR} {x y:It} (h:MpIn X X1 M lv k A acc) (hx:M[k]?=some x) (hy:M[k+1]?=some y) (hf:fits lv x.x y.x=true) (he:X1.Ext X2) (ho:zK X2) (hl:X2.S.list.length<=X1.S.list.length+1) (hi:ItsOf X2.S (qx A ⟨.pair x.x y.x,none,1⟩) ac2):MpIn X X2 M lv (k+2) (qx A ⟨.pair x.x y.x,none,1⟩) ac2:=by
 have hk:=yE hy;have h2:=JN (i:=⟨.pair x.x y.x,none,1⟩) h.sg ⟨rfl,rfl⟩;have h3:=h.sum;have h4:=h.cnt;have e1:M.drop k=x::y::M.drop (k+2):=by
  rw [yj (by omega),yj hk];rw [zg (by omega)] at hx hy;injection hx with hx
  injection hy with hy
  rw [hx,hy]
 refine ⟨h.ext.trans he,ho,hi,(wV (i:=⟨.pair x.x y.x,none,1⟩) h.sg ⟨rfl,zr _⟩).1,?_,by omega,by omega⟩;rw [← h.way,e1,pairs_fit hf]
theorem Vb {M:List It} {k:Nat} {x y:It} (hx:M[k]?=some x) (hy:M[k+1]?=some y):M.drop k=x::y::M.drop (k+2):=by
 have hk:=yE hy;rw [yj (by omega),yj hk];rw [zg (by omega)] at hx hy;injection hx with hx
 injection hy with hy
 rw [hx,hy]
theorem kh {M:List It} {k:Nat} {x:It} (hx:M[k]?=some x):M.drop k=x::M.drop (k+1):=by
 have hk:=yE hx;rw [yj hk];rw [zg hk] at hx;injection hx with hx
 rw [hx]
attribute [local go_sem] StStep jw yM in
theorem KB {X:Px} {b lv:Nat} {cs:Array Value} {mv:Value} {rs:List ItR} {M:List It} (hX:zK X) (c0:cs[0]?=some (.pointer (some ⟨X.p,0,none⟩))) (c11:cs[11]?=some mv) (hits:ItsOf X.S M rs) (hone:One M) (hcnt:M.length<=1048576) (hlen:xe (zT M)<=yG) (hroom:X.S.list.length+M.length<=X.S.most) (hlv:lv<1152921504606846976) (w:World) (h:(((pA X).sep ((blk b (.cells cs 250)).sep (zc zj 254 4 mv rs))).sep deA).ho w) :
  Calls zb 169 #[.pointer (some ⟨b,0,none⟩),.int .i64 lv] w (Yn X b cs ((pA X).sep ((blk b (.cells cs 250)).sep (zc zj 254 4 mv rs))).fp w M (yK lv [] M)):=by
 rw [qz] at h;obtain ⟨k1,k2,hdd⟩:=h;have H:=St.one k1;have HK:Ks w ((pA X).sep ((blk b (.cells cs 250)).sep (zc zj 254 4 mv rs))).fp [deA]:=⟨by simpa using k2,by simpa using fun b hb hm=>hdd b hm hb⟩
 generalize ((pA X).sep ((blk b (.cells cs 250)).sep (zc zj 254 4 mv rs))).fp=N at *;replace H:=H.sep;replace H:=(H.pick (.there .here)).sep;clear k1 k2 hdd;have C0:=zh c0;have C11:=zh c11;have HXX:=zh hX;have HI:=zh hits;have HONE:=zh hone;have HLV:=zh hlv;have HL:=zh (za hcnt (za hlen hroom));have HML:Hid (rs.length=M.length):=zh hits.len;obtain ⟨am,cm,em,_⟩:=zE (H.get (A:=zc zj 254 4 mv rs) pk);subst em;obtain ⟨n,hn⟩:∃ n,rs.length=n:=⟨_,rfl⟩
 have hrn:n<=1048576:=(by have:=hits.len;omega);have HN:=zh hn;simp only [hn] at H C11;have H0:=H.empty (A:=zc zj 254 4 (.slice none 0 0) []) (qq _) (by rw [qW];rfl);clear hX c0 c11 hits hone hcnt hlen hroom hlv H hn;have H:=H0;clear H0;go_enter Tryz.func169,Tryz.ntmps169;go_wp2_with (first|refine sL ?_|(refine sS ?_;clear H;intros;rename_i H));go_loopg [6,8] n (fun m v6 v8 wr=>MpRel X b cs (.slice am n cm) rs M lv N w m v6 v8 wr);case atStart=>exact ⟨0,X,[],[],qy _,by rw [HN.out];rfl,rfl,⟨.refl _,HXX.out,trivial,fun j hj=>by simp at hj,rfl,by simp [qH],by simp [qH]⟩,H.picks (.cons pk (.cons pk (.cons pk (.cons pk .nil))))⟩
 case round =>
  clear H;obtain ⟨k,X1,A,acc,hk0,rfl,rfl,hin,H⟩:=hrel;rw [HN.out] at hk0;have C0:Hid (cs[0]?=some (.pointer (some ⟨X.p,0,none⟩))):=C0;by_cases hk:k<n
  ·have d1:decide ((k:Int)<(n:Int))=true:=(by simp;omega);have d2:decide (k<n)=true:=(by simp;omega);obtain ⟨i,hi⟩:∃ i,M[k]?=some i:=⟨M[k]'(by rw [← HML.out,HN.out];exact hk),by simp⟩
   obtain ⟨r,hr,hio0⟩:=HI.out.get hi;have hio:=hio0.le HXX.out.ok hin.ext.le;obtain ⟨gm,cm2,e9,_⟩:=q8 (H.get (A:=zc zj 254 4 (.slice am n cm) rs) pk) (by rw [HN.out];omega);injection e9 with e9 e7 e8
   subst e9 e8;clear e7;have HRX:Hid (∀ w,(zc zj 254 4 (.slice (some ⟨gm,0,none⟩) n cm) rs).ho w->w.rangeAt gm (k*4) [.int .i64 r.id,.int .i64 r.nx,.int .u64 r.ky,.int .i64 r.n]):=zh fun w h=>wd h q7 hr
   have h1i:=HONE.out i (zy hi);have hrn1:r.n=1:=(by rw [hio.n];exact h1i.2);have hlast:=hin.last (by rw [← HML.out,HN.out];exact hrn);have HPU:Hid (∀ w,(zc zj 254 4 u6 acc).ho w->Calls zb 183 #[u6,.agg #[.int .i64 r.id,.int .i64 r.nx,.int .u64 r.ky,.int .i64 r.n]] w fun e w'=>∃ v',e=.returned v'∧St w (zc zj 254 4 u6 acc).fp [zc zj 254 4 v' (xD acc r)] w'):=zh fun w h=>WG (by omega) (fun j hj=>by rw [hrn1];exact hlast.2 j hj) w h
   obtain ⟨k1,hk1⟩:∃ k1,k+1=k1:=⟨_,rfl⟩
   have i1:(k:Int)+1=(k1:Nat):=(by omega);have HK1:=zh hk1;have hk1b:k1<=1048576:=(by omega);by_cases he:k1=n
   ·have d3:((k1:Int)==(n:Int))=true:=(by simp [he]);have HNX:Hid (MpIn X X1 M lv k1 (qx A i) (xD acc r)):=zh (by
     rw [← hk1];refine hin.one HONE.out hi hio ?_;have e1:M.drop (k+1)=[]:=yo (by rw [← HML.out,HN.out];omega);rw [kh hi,e1,pairs_one,JK])
    clear hi hr hio hio0 h1i hrn1 hlast hin hk1 he;go_wp2_with (first|refine sL ?_|(refine sS ?_;clear H;intros;rename_i H)|((with_reducible refine qh ?_);refine AtLoad.rngT rfl rfl rfl (HRX.out _ (H.get pk)) rfl ?_;simp only [Act.put,puA,puB,puC]));refine zG H 24 [] [] (by kernel_rfl) (by kernel_rfl) ?_;apply Exists.intro;refine ⟨fun w1 hw1 HX=>?_,fun bs wr Hr=>?_⟩
    ·refine sG ?_;repeat (first|go_big_quiet_skip|refine sQ ?_|go_big_quiet_step (fail))
     exact wpQuiet_nil rfl
    clear H;have H:=Hr;clear Hr;replace H:=sH H;refine sT ?_;go_wp2_with (first|refine sL ?_|(refine sS ?_;clear H;intros;rename_i H)|(go_at_call 183;with_reducible refine zm (HPU.out _ (H.get pk)) ?_;rintro e wc ⟨v',rfl,hb⟩;replace H:=zn ((H.pick pk).call hb);clear hb));go_roundg (n-k1);case measure=>have:=HN.out;omega
    case rel=>exact ⟨k1,X1,_,(xD acc r),by rw [HN.out];omega,by rw [HN.out],by first|rfl|simp|(congr 1;omega),HNX.out,H.picks (.cons pk (.cons pk (.cons pk (.cons pk .nil))))⟩
   ·have d3:((k1:Int)==(n:Int))=false:=(by simp;omega);have hk1n:k1<n:=(by omega);have d4:decide ((k1:Int)<(n:Int))=true:=(by simp;omega);obtain ⟨i2,hi2⟩:∃ i2,M[k+1]?=some i2:=⟨M[k+1]'(by rw [← HML.out,HN.out];omega),by simp⟩
    obtain ⟨r2,hr2,hio2⟩:=HI.out.get hi2;have hio2':=hio2.le HXX.out.ok hin.ext.le;rw [hk1] at hr2;have HR2:Hid (∀ w,(zc zj 254 4 (.slice (some ⟨gm,0,none⟩) n cm) rs).ho w->w.cell? ⟨gm,k1*4+2,none⟩=some (.int .u64 r2.ky)):=zh fun w h=>qj (j:=2) h q7 hr2 rfl
    have HR0:Hid (∀ w,(zc zj 254 4 (.slice (some ⟨gm,0,none⟩) n cm) rs).ho w->w.cell? ⟨gm,k1*4,none⟩=some (.int .i64 r2.id)):=zh fun w h=>qj (j:=0) h q7 hr2 rfl
    have hfi:=KO r.ky r2.ky lv HLV.out (by rw [hio.ky];exact Tr.key_lt _) (by rw [hio2.ky];exact Tr.key_lt _);have hft:yt r.ky r2.ky lv=fits lv i.x i2.x:=(by rw [hio.ky,hio2.ky];rfl);rw [hft] at hfi;by_cases hf:fits lv i.x i2.x=true
    ·rw [hf] at hfi;have HFI:=zh hfi;have hrm:X1.S.list.length<X1.S.most:=by
      have h3:=hin.sum;have h4:=HL.out.2.2;have h5:X1.S.most=X.S.most:=hin.ext.le.1;have h6:=HML.out;have h7:=HN.out;omega
     have hll:i.x.len+i2.x.len<=yG:=by
      refine qs ?_ HL.out.2.1;have e1:zT M=zT (M.take k)++(i.exp++(i2.exp++zT (M.drop (k+2)))):=by
       rw [← qn,← qn,← Vb hi hi2,← xw,List.take_append_drop]
      have h1j:=HONE.out i2 (zy hi2);rw [e1];simp only [yx];have e2:i.exp=[i.x]:=(by unfold It.exp;rw [h1i.1,h1i.2];rfl);have e3:i2.exp=[i2.x]:=(by unfold It.exp;rw [h1j.1,h1j.2];rfl);rw [e2,e3];simp only [yB];omega
     have hpp:=fun w h=>kW (b:=b) (n:=1) (v:=u6) hin.ok (by rw [hin.ext.p];exact C0.out) hio.den hio2'.den hll hrm hin.its (by omega) hlast.2 (by omega) w h
     have HPP:Hid (∀ w,(((pA X1).sep ((blk b (.cells cs 250)).sep (zc zj 254 4 u6 acc))).sep deA).ho w->Calls zb 184 #[.pointer (some ⟨b,0,none⟩),u6,.int .i64 r.id,.int .i64 r2.id,.int .i64 1] w fun e w'=>∃ (X':Px) (v':Value) (rs':List ItR),e=.returned (.tuple #[v',.nilIface])∧X1.Ext X'∧zK X'∧X'.S.list.length<=X1.S.list.length+1∧ItsOf X'.S (qx A ⟨.pair i.x i2.x,none,1⟩) rs'∧St w ((pA X1).sep ((blk b (.cells cs 250)).sep (zc zj 254 4 u6 acc))).fp [pA X',blk b (.cells cs 250),zc zj 254 4 v' rs'] w'):=zh fun w h=>hpp w h
     have HTW:Hid (∀ (X2:Px) (ac2:List ItR),X1.Ext X2->zK X2->X2.S.list.length<=X1.S.list.length+1->ItsOf X2.S (qx A ⟨.pair i.x i2.x,none,1⟩) ac2->MpIn X X2 M lv (k+2) (qx A ⟨.pair i.x i2.x,none,1⟩) ac2):=zh fun X2 ac2 q1 q2 q3 q4=>hin.two hi hi2 hf q1 q2 q3 q4
     obtain ⟨k2,hk2⟩:∃ k2,k+2=k2:=⟨_,rfl⟩
     have i2':(k1:Int)+1=(k2:Nat):=(by omega);have hk2b:k2<=1048577∧k2<=n∧k<k2:=(by omega);rw [hk2] at HTW;clear hi hr hio hio0 h1i hrn1 hlast hin hk1 he hi2 hr2 hio2 hio2' hfi hft hf hrm hll hpp hk2;go_wp2_with (first|refine sL ?_|(refine sS ?_;clear H;intros;rename_i H)|((with_reducible refine qh ?_);refine AtLoad.rngT rfl rfl rfl (HRX.out _ (H.get pk)) rfl ?_;simp only [Act.put,puA,puB,puC]));rename_i b9 _ _ _ _ _ _;refine zG H 24 [] [] (by kernel_rfl) (by kernel_rfl) ?_;apply Exists.intro;refine ⟨fun w1 hw1 HX=>?_,fun bs wr Hr=>?_⟩
     ·refine sG ?_;repeat (first|go_big_quiet_skip|refine sQ ?_|go_big_quiet_step ((go_at_call 182;with_reducible exact Y7 (HFI.out _)))|go_big_quiet_step (fail))
      exact wpQuiet_nil rfl
     clear H;have H:=Hr;clear Hr;replace H:=sH H;refine sT ?_;go_wp2_with (first|refine sL ?_|(refine sS ?_;clear H;intros;rename_i H));replace H:St w N [pA X1,blk b (.cells cs 250),zc zj 254 4 u6 acc,zc zj 254 4 (.slice (some ⟨gm,0,none⟩) n cm) rs,blk b9 (.cells #[.int .i64 r.id,.int .i64 r.nx,.int .u64 r.ky,.int .i64 r.n] 254)] _:=H.picks (.cons pk (.cons pk (.cons pk (.cons pk (.cons pk .nil)))));refine zM 18 [⟨[],fun v _=>v=.pointer (some ⟨b,0,none⟩)⟩,⟨[],fun v _=>v=u6⟩,⟨[],fun v _=>v=.pointer (some ⟨b9,0,none⟩)⟩,⟨[2],fun v _=>v=.int .i64 r.id⟩,⟨[],fun v _=>v=.pointer (some ⟨b,0,none⟩)⟩,⟨[4],fun v _=>v=.pointer (some ⟨b,0,none⟩)⟩,⟨[5],fun v _=>v=.pointer (some ⟨b,11,none⟩)⟩,⟨[6],fun v _=>v=(.slice (some ⟨gm,0,none⟩) n cm)⟩,⟨[],fun v _=>v=.int .i64 k1⟩,⟨[7,8],fun v _=>v=.pointer (some ⟨gm,k1*4,none⟩)⟩,⟨[9],fun v _=>v=.pointer (some ⟨gm,k1*4,none⟩)⟩,⟨[10],fun v _=>v=.int .i64 r2.id⟩,⟨[0,1,3,11],fun v _=>∃ v2:Value,v=.tuple #[v2,.nilIface]⟩,⟨[12],fun v ds=>ds=[v]⟩,⟨[13],fun v ds=>∃ v2:Value,ds=[.tuple #[v2,.nilIface]]∧v=v2⟩,⟨[13],fun v ds=>v=.nilIface⟩,⟨[14],fun v ds=>ds=[v]⟩,⟨[15],fun v ds=>ds=[v]⟩] [12] [[0],[0],[0],[0],[0],[0],[0],[0],[0],[0],[0],[0],[0],[1],[1],[1],[1],[1]] [fun _ wx=>St w N [pA X1,blk b (.cells cs 250),zc zj 254 4 u6 acc,zc zj 254 4 (.slice (some ⟨gm,0,none⟩) n cm) rs,blk b9 (.cells #[.int .i64 r.id,.int .i64 r.nx,.int .u64 r.ky,.int .i64 r.n] 254)] wx,fun vals wx=>∃ (X2:Px) (v2:Value),vals 12=.tuple #[v2,.nilIface]∧∃ (ac2:List ItR),(X1.Ext X2∧zK X2∧X2.S.list.length<=X1.S.list.length+1∧ItsOf X2.S (qx A ⟨.pair i.x i2.x,none,1⟩) ac2)∧St w N [pA X2,blk b (.cells cs 250),zc zj 254 4 v2 ac2,zc zj 254 4 (.slice (some ⟨gm,0,none⟩) n cm) rs,blk b9 (.cells #[.int .i64 r.id,.int .i64 r.nx,.int .u64 r.ky,.int .i64 r.n] 254)] wx]
      [[],[],[],[(2,58)],[],[(4,60)],[(5,61)],[(6,62)],[],[(7,63),(8,64)],[(9,65)],[(10,66)],[(0,56),(1,57),(3,59),(11,67)],[(12,68)],[(13,55)],[(13,55)],[(14,69)],[(15,70)]] [(0,56),(1,57),(2,58),(3,59),(4,60),(5,61),(6,62),(7,63),(8,64),(9,65),(10,66),(11,67),(12,68),(13,55),(14,69),(15,70),(16,6),(17,7)] (by kernel_rfl) (by kernel_rfl) H.drew ⟨⟨qo,trivial⟩,⟨qo,trivial⟩,⟨qo,trivial⟩,⟨ql,trivial⟩,⟨qo,trivial⟩,⟨qo,trivial⟩,⟨qo,trivial⟩,⟨ql,trivial⟩,⟨qo,trivial⟩,⟨?_,trivial⟩,⟨qo,trivial⟩,⟨ql,trivial⟩,⟨?_,trivial⟩,⟨?_,trivial⟩,⟨?_,trivial⟩,⟨?_,trivial⟩,⟨?_,trivial⟩,⟨?_,trivial⟩,trivial⟩ ?_
     ·intro vals wx hd HC;simp only [GF] at hd;have H:=HC;simp only [CA] at H;simp only [PS,hd];clear H;go_simp;first|exact ⟨rfl,HC⟩|exact HC|(rw [if_pos (show (k1:Int)<(n:Int) by omega)];exact ⟨rfl,HC⟩)
     ·intro vals wx hd HC;simp only [GF] at hd;obtain ⟨h0,h1,h3,h11⟩:=hd;have H:=HC;simp only [CA] at H;simp only [PS,h0,h1,h3,h11];clear h0 h1 h3 h11 HC;go_simp;with_reducible refine zm (HPP.out _ ((St.join3 (H.pick3 (A:=pA X1) (B:=blk b (.cells cs 250)) (C:=zc zj 254 4 u6 acc) pk pk pk)).sepK HK pk pk)) ?_
      rintro e wc ⟨X2,v2,ac2,rfl,m1,m2,m3,m4,hb⟩;have H2:=(St.join3 (H.pick3 (A:=pA X1) (B:=blk b (.cells cs 250)) (C:=zc zj 254 4 u6 acc) pk pk pk)).call hb;simp only [zo,zv] at H2;exact ⟨_,rfl,⟨v2,rfl⟩,X2,v2,rfl,ac2,⟨m1,m2,m3,m4⟩,H2.picks (.cons pk (.cons pk (.cons pk (.cons pk (.cons pk .nil)))))⟩
     ·intro vals wx hd HC;simp only [GF] at hd;have h12:=hd;clear hd;have H:=HC;simp only [CA] at H;obtain ⟨X2,v2,hv2,ac2,hX2,H⟩:=H;simp only [PS];clear h12;go_simp;first|exact HC|exact ⟨rfl,HC⟩
     ·intro vals wx hd HC;simp only [GF] at hd;have h13:=hd;clear hd;have H:=HC;simp only [CA] at H;obtain ⟨X2,v2,hv2,ac2,hX2,H⟩:=H;simp only [PS];have h13':∃ v2:Value,[vals 12]=[.tuple #[v2,.nilIface]]:=⟨v2,by rw [hv2]⟩
      have e13:vals 13=.tuple #[v2,.nilIface]:=(by rw [← hv2];exact X8 (show [vals 12]=[vals 13] from h13));simp only [e13];clear h13;go_simp;first|exact HC|exact ⟨⟨v2,by simp [e13],rfl⟩,HC⟩|exact ⟨rfl,HC⟩|exact ⟨⟨v2,rfl,rfl⟩,HC⟩|exact ⟨⟨v2,rfl⟩,HC⟩
     ·intro vals wx hd HC;simp only [GF] at hd;have h13:=hd;clear hd;have H:=HC;simp only [CA] at H;obtain ⟨X2,v2,hv2,ac2,hX2,H⟩:=H;simp only [PS];have e13:vals 13=.tuple #[v2,.nilIface]:=(by rw [← hv2];exact X8 (show [vals 12]=[vals 13] from h13));simp only [e13];clear h13;go_simp;first|exact HC|exact ⟨rfl,HC⟩
     ·intro vals wx hd HC;simp only [GF] at hd;have h14:=hd;clear hd;have H:=HC;simp only [CA] at H;obtain ⟨X2,v2,hv2,ac2,hX2,H⟩:=H;simp only [PS];clear h14;go_simp;first|exact HC|exact ⟨rfl,HC⟩
     ·intro vals wx hd HC;simp only [GF] at hd;have h15:=hd;clear hd;have H:=HC;simp only [CA] at H;obtain ⟨X2,v2,hv2,ac2,hX2,H⟩:=H;simp only [PS];clear h15;go_simp;first|exact HC|exact ⟨rfl,HC⟩
     intro vals wx hd HC;have h12:=hd.2.2.2.2.2.2.2.2.2.2.2.2.1;have h13:=hd.2.2.2.2.2.2.2.2.2.2.2.2.2.1;have h14:=hd.2.2.2.2.2.2.2.2.2.2.2.2.2.2.1;have h15:=hd.2.2.2.2.2.2.2.2.2.2.2.2.2.2.2.1;have h16:=hd.2.2.2.2.2.2.2.2.2.2.2.2.2.2.2.2.1;have h17:=hd.2.2.2.2.2.2.2.2.2.2.2.2.2.2.2.2.2.1;simp only [CA] at HC;obtain ⟨X2,v2,hv2,ac2,hX2,H⟩:=HC;simp only [GF] at hd;simp only [PS,hd];clear hd;have e13:vals 13=.tuple #[v2,.nilIface]:=(by rw [← hv2];exact X8 (show [vals 12]=[vals 13] from h13));have h14':∃ v3:Value,[vals 13]=[.tuple #[v3,.nilIface]]∧vals 14=v3:=h14;have e14:vals 14=v2:=by
      obtain ⟨v3,e,e'⟩:=h14';rw [e13] at e;simp at e;rw [e',e]
     have e15:vals 15=.nilIface:=h15;have e16:vals 16=v2:=(by rw [← e14];exact X8 (show [vals 14]=[vals 16] from h16));have e17:vals 17=.nilIface:=(by rw [← e15];exact X8 (show [vals 15]=[vals 17] from h17));simp only [hv2,e13,e14,e15,e16,e17];clear e13 e14 e15 e16 e17 h13 h14 h15 h16 h17 h14' hv2;go_wp2_with (first|refine sL ?_|(refine sS ?_;clear H;intros;rename_i H));go_roundg (n-k2);case measure=>have:=HN.out;omega
     case rel=>exact ⟨k2,X2,_,ac2,by rw [HN.out];omega,by rw [HN.out],by first|rfl|simp|(congr 1;omega),HTW.out X2 ac2 hX2.1 hX2.2.1 hX2.2.2.1 hX2.2.2.2,H.picks (.cons pk (.cons pk (.cons pk (.cons pk .nil))))⟩
    ·rw [show fits lv i.x i2.x=false by simpa using hf] at hfi;have HFI:=zh hfi;have HNX:Hid (MpIn X X1 M lv k1 (qx A i) (xD acc r)):=zh (by
      rw [← hk1];refine hin.one HONE.out hi hio ?_;rw [Vb hi hi2,pairs_not (by simpa using hf),← kh hi2])
     clear hi hr hio hio0 h1i hrn1 hlast hin hk1 he hi2 hr2 hio2 hio2' hfi hft hf;go_wp2_with (first|refine sL ?_|(refine sS ?_;clear H;intros;rename_i H)|((with_reducible refine qh ?_);refine AtLoad.rngT rfl rfl rfl (HRX.out _ (H.get pk)) rfl ?_;simp only [Act.put,puA,puB,puC]));refine zG H 24 [] [] (by kernel_rfl) (by kernel_rfl) ?_;apply Exists.intro;refine ⟨fun w1 hw1 HX=>?_,fun bs wr Hr=>?_⟩
     ·refine sG ?_;repeat (first|go_big_quiet_skip|refine sQ ?_|go_big_quiet_step ((go_at_call 182;with_reducible exact Y7 (HFI.out _)))|go_big_quiet_step (fail))
      exact wpQuiet_nil rfl
     clear H;have H:=Hr;clear Hr;replace H:=sH H;refine sT ?_;go_wp2_with (first|refine sL ?_|(refine sS ?_;clear H;intros;rename_i H)|(go_at_call 183;with_reducible refine zm (HPU.out _ (H.get pk)) ?_;rintro e wc ⟨v',rfl,hb⟩;replace H:=zn ((H.pick pk).call hb);clear hb));go_roundg (n-k1);case measure=>have:=HN.out;omega
     case rel=>exact ⟨k1,X1,_,(xD acc r),by rw [HN.out];omega,by rw [HN.out],by first|rfl|simp|(congr 1;omega),HNX.out,H.picks (.cons pk (.cons pk (.cons pk (.cons pk .nil))))⟩
  ·have hkn:k=n:=(by omega);subst hkn;have d1:decide ((k:Int)<(k:Int))=false:=(by simp);have d2:decide (k<k)=false:=(by simp);have HFN:Hid (ItsOf X1.S (yK lv [] M) acc∧X1.S.list.length+(zT (yK lv [] M)).length<=X.S.list.length+(zT M).length):=zh (by
    have e1:M.drop k=[]:=yo (by rw [← HML.out,HN.out];exact zr _);have e2:=hin.way;rw [e1,JK] at e2;rw [← e2];refine ⟨hin.its,?_⟩;have h3:=hin.sum;have h4:(zT M).length=M.length:=(by rw [HONE.out.exp];simp);omega)
   have HEO:=zh (za hin.ext hin.ok);clear hin hk0;go_wp2_with (first|refine sL ?_|(refine sS ?_;clear H;intros;rename_i H));go_ret2;exact ⟨X1,_,acc,rfl,HEO.out.1,HEO.out.2,HFN.out.1,HFN.out.2,H.picks (.cons pk (.cons pk (.cons pk .nil)))⟩
end
section
def GatR (lv:Nat) (d e:qK) (M:List It) (d1 e2:qK) (M2:List It):Prop :=
 if lv%2=1 then d1=(yP lv d e M).1∧e2=(jn lv (yP lv d e M).1 e (yP lv d e M).2).1∧M2=(jn lv (yP lv d e M).1 e (yP lv d e M).2).2
 else if yQ lv=true then d1=(qA lv d e M).1∧Xu lv e (qA lv d e M).2 e2 M2
 else d1=(qA lv d e M).1∧e2=(wa lv (qA lv d e M).1 e (qA lv d e M).2).1∧M2=(wa lv (qA lv d e M).1 e (qA lv d e M).2).2
def kB (lv:Nat) (M:List It):List It:=if lv%2=1 then Qh M else if yQ lv=true then kU (M.foldl xm ([],none)) else yK lv [] M
theorem GatR.lev {lv:Nat} {d e d1 e2:qK} {M M2:List It} (h:GatR lv d e M d1 e2 M2):LevR lv d e M (upT false lv d1) (upT true lv e2) (kB lv M2):=by
 unfold GatR at h;unfold LevR kB;by_cases h1:lv%2=1
 ·rw [if_pos h1] at h ⊢;rw [if_pos h1];obtain ⟨rfl,rfl,rfl⟩:=h;exact ⟨rfl,rfl,rfl⟩
 ·rw [if_neg h1] at h ⊢;rw [if_neg h1];by_cases h2:yQ lv=true
  ·rw [if_pos h2] at h ⊢;rw [if_pos h2];obtain ⟨rfl,h⟩:=h;exact ⟨e2,M2,h,rfl,rfl,rfl⟩
  ·rw [if_neg h2] at h ⊢;rw [if_neg h2];obtain ⟨rfl,rfl,rfl⟩:=h;exact ⟨rfl,rfl,rfl⟩
structure GatOk (a b:Tr) (s:List Tr) (m:Nat) (d1 e2:qK) (M2:List It):Prop where
 z1:EndZ a d1
 z2:EndZ b e2
 run:m%2=0->Sg M2
 tie:m%2=1->yQ (m+1)=true->Tie M2
 one:m%2=1->yQ (m+1)=false->One M2
 cnt:(zT M2).length<=(xf s m).length
 len:xe (zT M2)<=xe s
 gain:(xf s (m+1)).length+(zT M2).length<=(xf s m).length+(zT (kB (m+1) M2)).length
theorem ZT (s:List Tr):∀ m,(xf s m).length<=s.length
 |0=>zr _
 |m+1=>qs (VU (m+1) (xf s m)) (ZT s m)
theorem GatOk.of {a b:Tr} {s:List Tr} {m:Nat} {L R P Q:List Tr} {d1 e2:qK} {M M1 M2:List It} (hs:xi s) (h3:xf s m=L++zT M++R) (hl:LOk a m L R M d1 M1 P) (hr:ROk b m R M1 e2 M2 Q) (hm:zT (kB (m+1) M2)=yc (m+1) (zT M2))
  (h5:m%2=0->Sg M2) (h6:m%2=1->yQ (m+1)=true->Tie M2) (h7:m%2=1->yQ (m+1)=false->One M2):GatOk a b s m d1 e2 M2:=by
 have hlev:=Y0 h3 hl hr hm;obtain ⟨Y,y1,y2⟩:=hl.mv;obtain ⟨Z,z1,z2⟩:=hr.mv;have hE:xf s m=P.flatMap (Tr.lay m)++zT M2++Q.flatMap (Tr.lay m):=(by rw [h3,z2,y2,y1,z1];simp);have hP:∀ t∈P,t.Pow2:=fun t ht=>wM hs (m+1) t (by rw [hlev];simp [ht])
 have hQ:∀ t∈Q,t.Pow2:=fun t ht=>wM hs (m+1) t (by rw [hlev];simp [ht])
 have fl:∀ l:List Tr,(∀ t∈l,t.Pow2)->l.length<=(l.flatMap (Tr.lay m)).length:=fun l=>by
  induction l with
  |nil=>intro _;simp
  |cons t l ih =>
   intro h;have h1:=wS (m:=m) (h t (by simp));have h2:=ih fun u hu=>h u (by simp [hu])
   simp only [zt,zi,zw];omega
 have h1:=fl P hP;have h2:=fl Q hQ;have hlen:=congrArg ym hE;have hlen2:=congrArg ym hlev;simp only [zi] at hlen hlen2;refine ⟨.ofL hl.end_,.ofR hr.end_,h5,h6,h7,by omega,?_,by omega⟩;rw [← Wo s m,hE,yx,yx];omega
theorem SpI.gat {a b:Tr} {s:List Tr} {i n m:Nat} {d e d1 e2:qK} {M M2:List It} (h:SpI a b s i n m d e M) (hs:xi s) (hg:GatR (m+1) d e M d1 e2 M2):GatOk a b s m d1 e2 M2:=by
 obtain ⟨L,R,h1,h2,h3,_,_⟩:=h.ex;unfold GatR at hg;by_cases he:m%2=0
 ·rw [if_pos (by omega)] at hg;obtain ⟨rfl,rfl,rfl⟩:=hg;obtain ⟨P,hl⟩:=Vj he h.ca h1 (ZK h.sg h2);have hsg:=Vk (lv:=m+1) (e:=e) h1 h.sg;obtain ⟨Q,hq⟩:=Vl he h.cb h2 (QZ (yP (m+1) d e M).1 hsg);have hsg2:=Vm (lv:=m+1) (d:=(yP (m+1) d e M).1) h2 hsg;refine .of hs h3 hl hq ?_ (fun _=>hsg2) (fun h=>by omega) (fun h=>by omega);unfold kB;rw [if_pos (by omega),(VB hsg2).2,xE he]
 ·rw [if_neg (by omega)] at hg;have ho:m%2=1:=(by omega);have hone:=h.one ho;obtain ⟨P,hl⟩:=Yz ho h.ca h1 (ZK h.sg h2);have hone1:=Qt (lv:=m+1) (d:=d) (e:=e) hone;by_cases ht:yQ (m+1)=true
  ·rw [if_pos ht] at hg;obtain ⟨rfl,hg⟩:=hg;obtain ⟨⟨Q,hq⟩,hT⟩:=gStr_ok ho ht h.cb h2 hone1 hg;refine .of hs h3 hl hq ?_ (fun h=>by omega) (fun _ _=>hT) (fun _ h=>by rw [ht] at h;cases h);unfold kB;rw [if_neg (by omega),if_pos ht,(Wx ht (M:=M2) (s:=([],none)) (fun i hi=>by simp at hi) hT).2,yH ho];simp [qH]
  ·rw [if_neg ht] at hg;obtain ⟨rfl,rfl,rfl⟩:=hg;obtain ⟨Q,hq⟩:=Jt ho (by simpa using ht) h.cb h2 (QZ (qA (m+1) d e M).1 hone1.sg);have hone2:=Wd (lv:=m+1) (d:=(qA (m+1) d e M).1) (e:=e) hone1;refine .of hs h3 hl hq ?_ (fun h=>by omega) (fun _ h=>absurd h ht) (fun _ _=>hone2);unfold kB;rw [if_neg (by omega),if_neg ht,(Q0 (m+1) (M:=(wa (m+1) (qA (m+1) d e M).1 e (qA (m+1) d e M).2).2) (acc:=[]) (fun i hi=>by simp at hi) hone2).2,yH ho];simp [qH]
structure SpI0 (a b:Tr) (s:List Tr) (m:Nat) (d e:qK) (M:List It):Prop where
 z1:EndZ a d
 z2:EndZ b e
 cnt:M.length<=s.length
theorem SpI.zero {a b:Tr} {s:List Tr} {i n m:Nat} {d e:qK} {M:List It} (h:SpI a b s i n m d e M):SpI0 a b s m d e M:=by
 obtain ⟨L,R,h1,h2,h3,_,_⟩:=h.ex;refine ⟨.ofL h1,.ofR h2,?_⟩;have h4:=wN h.sg;have h5:=ZT s m;rw [h3] at h5;simp only [zi] at h5;omega
theorem SpI.mid {a b:Tr} {s:List Tr} {i n m:Nat} {d e:qK} {M:List It} (h:SpI a b s i n m d e M) (ho:m%2=1):∃ R,EndR b m e R∧One (qA (m+1) d e M).2∧(zT (qA (m+1) d e M).2).length+R.length<=s.length∧(qA (m+1) d e M).2.length<=s.length:=by
 obtain ⟨L,R,h1,h2,h3,_,_⟩:=h.ex;obtain ⟨P,hl⟩:=Yz ho h.ca h1 (ZK h.sg h2);have hone1:=Qt (lv:=m+1) (d:=d) (e:=e) (h.one ho);obtain ⟨Y,y1,y2⟩:=hl.mv;have h5:=ZT s m;rw [h3,y1] at h5;have h6:=congrArg ym y2;have h7:=wN hone1.sg;simp only [zi] at h5 h6;exact ⟨R,h2,hone1,by omega,by omega⟩
end
section
open Go.RowKit Go.Maps
attribute [local go_sem] qt
attribute [local go_sem] StStep jw yM in
theorem Kn {a:Tr} {lv:Nat} {X:Px} {b il kl ir kr:Nat} {cs:Array Value} {pl pr mv:Value} {fl fr:List Fr} {rs:List ItR} {d e:qK} {M:List It} (hX:zK X) (hs:SpIn X cs pl fl il kl pr fr ir kr mv rs d e M) (hz:EndZ a d) (ga:a.Gd) (hal:a.lv<=25339) (h1:1<=lv) (hlv:lv<1152921504606846976) (hb:rs.length<=2097152) (w:World) (h:((spA X b cs pl fl pr fr mv rs).sep deA).ho w) :
  Calls zb 164 #[.pointer (some ⟨b,0,none⟩),.int .i64 lv] w (jB X b (spA X b cs pl fl pr fr mv rs).fp w (.tuple #[]) (qA lv d e M).1 e (qA lv d e M).2):=by
 rw [qz] at h;obtain ⟨k1,k2,hdd⟩:=h;have H:=jG (St.one k1);have HK:Ks w (spA X b cs pl fl pr fr mv rs).fp [deA]:=⟨by simpa using k2,by simpa using fun b hb hm=>hdd b hm hb⟩
 generalize (spA X b cs pl fl pr fr mv rs).fp=N at *;clear k1 k2 hdd;have HX:=zh hX;have HS:=zh hs;have HLN:Hid (rs.length<=4194304):=zh (by omega);have C11:=zh hs.c11;have CI:=zh hs.c4;have CK:=zh hs.c5;obtain ⟨m,hm⟩:∃ m,lv-1=m:=⟨_,rfl⟩
 have i1:(lv:Int)-1=(m:Nat):=(by omega);have HM:Hid (m<9223372036854775808∧lv-1=m):=zh ⟨by omega,hm⟩;obtain ⟨p,sx⟩:=d;have hsy:=hs.left.symOf;simp only at hsy;cases sx with
 |none =>
  have hi0:=hsy.1;subst hi0;rw [show qA lv (p,none) e M=((p,none),M) from rfl];clear hsy hs hX hz hb hm;go_enter YX,QP;go_wp2_with (first|refine sL ?_|(refine sS ?_;clear H;intros;rename_i H));refine nR ?_;exact ⟨X,cs,pl,fl,0,kl,pr,fr,ir,kr,mv,rs,rfl,.refl _,HX.out,rfl,HS.out,H.picks (.cons pk (.cons pk (.cons pk (.cons pk (.cons pk .nil)))))⟩
 |some x =>
  have hx:Den X.S il x∧kl=x.key:=hsy;have hi1:=hx.1.1;have d0:((il:Int)==0)=false:=(by simp;omega);have hkx:kl<2305843009213693951:=(by rw [hx.2];exact x.key_lt);have hzz:Zip a p x:=hz;have HZ:Hid (EndZ a (p,some x)∧a.Gd∧a.lv<=25339):=zh ⟨hz,ga,hal⟩;have HNT:Hid ((∀ q p',p=q::p'->1<=hvT false q)∧(1:Nat)<9223372036854775808):=zh ⟨fun q p' e=>by
   have:=hzz.lt q (by rw [e];simp);simp only [hvT];split <;> omega,by omega⟩
  have HITS:Hid (ItsOf X.S (⟨x,none,1⟩::M) (⟨il,0,kl,1⟩::rs)):=zh (⟨⟨hx.1,hx.2,rfl,rfl⟩,hs.its⟩);have hhd:=Vo hs.its hs.right.symOf;have hfs:=fun w h=>first_c (b:=b) (mv:=mv) HLN.out hs.c11 hs.c9 hs.c10 w h
  obtain ⟨hn,hk,hnk⟩:∃ hn hk,Vh rs ir kr=(hn,hk):=⟨_,_,rfl⟩
  rw [hnk] at hhd hfs;simp only at hhd hfs;have HFS:=zh hfs;clear hfs hnk;have hgo:qA lv (p,some x) e M=if wD false lv p x (kz M e)=true then ((p,some x),M) else (qZ false m 1 p,(⟨x,none,1⟩::M)):=by unfold qA;simp only [hm]
  cases ht:yZ lv p
  case' none =>
   have hpa:=fun w h1 h2=>Y3 (b:=b) (ty:=250) (lv:=lv) hs.left hz ga hal ht w h1 h2
   have HPA:=zh hpa;clear hpa;cases hh:kz M e
   case none =>
    rw [hh] at hhd;have hn0:=hhd.1;subst hn0;rw [hgo,hh,if_pos (by simp [wD,ht])];clear hsy hs hX hz hb hm hx hzz hgo ht hhd hh hi1;go_enter YX,QP;go_wp2_with (first|refine sL ?_|(refine sS ?_;clear H;intros;rename_i H)|(go_at_call 172;with_reducible refine same (HPA.out _ (H.get pk) (H.get pk)) ?_)|(go_at_call 177;with_reducible refine zm (HFS.out _ (H.sepO pk pk)) ?_;rintro e wc ⟨rfl,hb⟩;replace H:=H.grew hb.below;clear hb)|(go_at_call 182;with_reducible refine same (HFI.out _) ?_));refine nR ?_;exact ⟨X,cs,pl,fl,il,kl,pr,fr,ir,kr,mv,rs,rfl,.refl _,HX.out,rfl,HS.out,H.picks (.cons pk (.cons pk (.cons pk (.cons pk (.cons pk .nil)))))⟩
   case' some y =>
    rw [hh] at hhd;have hy1:=hhd.1.1;have d3:((hn:Int)==0)=false:=(by simp;omega);have hfi:=KO kl hk lv hlv hkx (by rw [hhd.2];exact y.key_lt);have hft:yt kl hk lv=fits lv x y:=(by rw [hx.2,hhd.2];rfl);rw [hft] at hfi;cases hf:fits lv x y
    case' true=>rw [hgo,hh,if_neg (by simp [wD,ht,hf])]
    case' false=>rw [hgo,hh,if_pos (by simp [wD,ht,hf])]
    all_goals
     rw [hf] at hfi;have HFI:=zh hfi;clear hsy hs hX hz hb hm hx hzz hgo ht hhd hh hi1 hy1 hfi hft hf;go_enter YX,QP;go_wp2_with (first|refine sL ?_|(refine sS ?_;clear H;intros;rename_i H)|(go_at_call 172;with_reducible refine same (HPA.out _ (H.get pk) (H.get pk)) ?_)|(go_at_call 177;with_reducible refine zm (HFS.out _ (H.sepO pk pk)) ?_;rintro e wc ⟨rfl,hb⟩;replace H:=H.grew hb.below;clear hb)|(go_at_call 182;with_reducible refine same (HFI.out _) ?_))
    ·refine nR ?_;exact ⟨X,cs,pl,fl,il,kl,pr,fr,ir,kr,mv,rs,rfl,.refl _,HX.out,rfl,HS.out,H.picks (.cons pk (.cons pk (.cons pk (.cons pk (.cons pk .nil)))))⟩
  case' some q =>
   obtain ⟨g,n,c,fs1,f,p2,e1,e2,hn1,hn20,e3,hfr,hpp,hfl,hfx,hpa⟩:=Q5 (b:=b) (ty:=250) (lv:=lv) hs.left hz ga hal ht (H.get (A:=zc ze 265 8 pl fl) pk);subst e1 e2;clear e3;have HPA:=zh hpa;have HC7:Hid (∀ w,(zc ze 265 8 (.slice (some ⟨g,0,none⟩) (n+1) c) (fs1++[f])).ho w->w.cell? ⟨g,n*8+7,none⟩=some (.int .i64 f.hv)):=zh fun w h=>xg h hfx rfl
   clear hpa;by_cases hv:f.hv=2
   case' neg =>
    rw [hgo,if_neg (by simp [wD,ht,← hfr.hvT,hv])];have d3:((f.hv:Int)==2)=false:=by simp;omega
   case' pos =>
    rw [hgo,if_pos (by simp [wD,ht,← hfr.hvT,hv])];rw [hv] at HC7
   all_goals
    clear hsy hs hX hz hb hm hx hzz hgo ht hhd hi1 hn1 hfr hpp hfl hfx hv;go_enter YX,QP;go_wp2_with (first|refine sL ?_|(refine sS ?_;clear H;intros;rename_i H)|(go_at_call 172;with_reducible refine same (HPA.out _ (H.get pk) (H.get pk)) ?_));obtain ⟨pl,hpv⟩:∃ v:Value,v=.slice (some ⟨g,0,none⟩) (n+1) c:=⟨_,rfl⟩
    obtain ⟨fl,hfs2⟩:∃ v:List Fr,v=fs1++[f]:=⟨_,rfl⟩
    rw [← hpv,← hfs2] at HS H;clear hpv hfs2 HPA HC7
   ·refine nR ?_;exact ⟨X,cs,pl,fl,il,kl,pr,fr,ir,kr,mv,rs,rfl,.refl _,HX.out,rfl,HS.out,H.picks (.cons pk (.cons pk (.cons pk (.cons pk (.cons pk .nil)))))⟩
  all_goals
   replace H:St w N [zc zj 254 4 mv rs,pA X,blk b (.cells cs 250),zc ze 265 8 pl fl,zc ze 265 8 pr fr] _:=H.picks (.cons pk (.cons pk (.cons pk (.cons pk (.cons pk .nil)))));refine zM 21 [⟨[],fun v _=>v=.pointer (some ⟨b,0,none⟩)⟩,⟨[],fun v _=>v=.pointer (some ⟨b,0,none⟩)⟩,⟨[1],fun v _=>v=.pointer (some ⟨b,0,none⟩)⟩,⟨[2],fun v _=>v=.pointer (some ⟨b,11,none⟩)⟩,⟨[3],fun v _=>v=mv⟩,⟨[],fun v _=>v=.pointer (some ⟨b,0,none⟩)⟩,⟨[5],fun v _=>v=.pointer (some ⟨b,0,none⟩)⟩,⟨[6],fun v _=>v=.pointer (some ⟨b,1,none⟩)⟩,⟨[7],fun v _=>v=.pointer (some ⟨b,4,none⟩)⟩,⟨[8],fun v _=>v=.int .i64 il⟩,⟨[],fun v _=>v=.pointer (some ⟨b,0,none⟩)⟩,⟨[10],fun v _=>v=.pointer (some ⟨b,0,none⟩)⟩,⟨[11],fun v _=>v=.pointer (some ⟨b,1,none⟩)⟩,⟨[12],fun v _=>v=.pointer (some ⟨b,5,none⟩)⟩,⟨[13],fun v _=>v=.int .u64 kl⟩,⟨[9,14],fun v _=>v=.agg #[.int .i64 il,.int .i64 0,.int .u64 kl,.int .i64 1]⟩,⟨[15],fun v _=>∃ bn:Nat,v=.slice (some ⟨bn,0,none⟩) 1 1⟩,⟨[4,16],fun _ _=>True⟩,⟨[0],fun v _=>v=.pointer (some ⟨b,0,none⟩)⟩,⟨[18],fun v _=>v=.pointer (some ⟨b,11,none⟩)⟩,⟨[17,19],fun _ _=>True⟩] [16,17,20] [[0,1,2],[0,1],[0,1],[0,1],[0,1],[0],[0],[0],[0],[0],[0],[0],[0],[0],[0],[0],[0],[1],[2],[2],[2]] [fun _ wx=>St w N [zc zj 254 4 mv rs,pA X,blk b (.cells cs 250),zc ze 265 8 pl fl,zc ze 265 8 pr fr] wx,fun vals wx=>∃ bn:Nat,vals 16=.slice (some ⟨bn,0,none⟩) 1 1∧St w N [zc zj 254 4 mv rs,zc zj 254 4 (.slice (some ⟨bn,0,none⟩) 1 1) [⟨il,0,kl,1⟩],pA X,blk b (.cells cs 250),zc ze 265 8 pl fl,zc ze 265 8 pr fr] wx,fun vals wx=>∃ (ad9:Option Addr) (cp9:Nat),vals 17=.slice ad9 (rs.length+1) cp9∧St w N [blk b (.cells cs 250),pA X,zc ze 265 8 pl fl,zc ze 265 8 pr fr,zc zj 254 4 (.slice ad9 (rs.length+1) cp9) (⟨il,0,kl,1⟩::rs)] wx,fun vals wx=>∃ (ad9:Option Addr) (cp9:Nat),St w N [blk b (.cells (cs.setIfInBounds 11 (.slice ad9 (rs.length+1) cp9)) 250),pA X,zc ze 265 8 pl fl,zc ze 265 8 pr fr,zc zj 254 4 (.slice ad9 (rs.length+1) cp9) (⟨il,0,kl,1⟩::rs)] wx]
    [[],[],[(1,48)],[(2,49)],[(3,50)],[],[(5,52)],[(6,53)],[(7,54)],[(8,55)],[],[(10,57)],[(11,58)],[(12,59)],[(13,60)],[(9,56),(14,61)],[(15,62)],[(4,51),(16,63)],[(0,47)],[(18,65)],[(17,64),(19,66)]] [(0,47),(1,48),(2,49),(3,50),(4,51),(5,52),(6,53),(7,54),(8,55),(9,56),(10,57),(11,58),(12,59),(13,60),(14,61),(15,62),(16,63),(17,64),(18,65),(19,66)] (by kernel_rfl) (by kernel_rfl) H.drew ⟨⟨qo,qo,qo,trivial⟩,⟨qo,qo,trivial⟩,⟨qo,qo,trivial⟩,⟨qo,qo,trivial⟩,⟨ql,ql,trivial⟩,⟨qo,trivial⟩,⟨qo,trivial⟩,⟨qo,trivial⟩,⟨qo,trivial⟩,⟨ql,trivial⟩,⟨qo,trivial⟩,⟨qo,trivial⟩,⟨qo,trivial⟩,⟨qo,trivial⟩,⟨ql,trivial⟩,⟨qo,trivial⟩,⟨?_,trivial⟩,⟨?_,trivial⟩,⟨qo,trivial⟩,⟨qo,trivial⟩,⟨?_,trivial⟩,trivial⟩ ?_
   ·intro vals wx hd HC;simp only [GF] at hd;have H:=HC;simp only [CA] at H;simp only [PS,hd];clear HC;refine StStep.slice1 (enc:=zj) H rfl rfl rfl rfl rfl rfl rfl rfl rfl ⟨il,0,kl,1⟩ rfl q7 ?_;intro bn wz H;exact ⟨⟨bn,rfl⟩,bn,rfl,H.picks (.cons pk (.cons pk (.cons pk (.cons pk (.cons pk (.cons pk .nil))))))⟩
   ·intro vals wx hd HC;simp only [GF] at hd;have H:=HC;simp only [CA] at H;obtain ⟨bn,hv,H⟩:=H;simp only [PS,hd,hv];clear HC;go_simp;with_reducible refine zm (Jv (x:=⟨il,0,kl,1⟩) (its:=rs) (v:=mv) (s:=bn) HLN.out _ (H.sepO pk pk)) ?_
    rintro e wc ⟨v',rfl,hb⟩;have H2:=(H.pick2 (A:=zc zj 254 4 mv rs) (B:=zc zj 254 4 (.slice (some ⟨bn,0,none⟩) 1 1) [⟨il,0,kl,1⟩]) pk pk).join.call hb;simp only [zo,zv] at H2;obtain ⟨ad9,cp9,e9,_⟩:=zE (H2.get (A:=zc zj 254 4 v' (⟨il,0,kl,1⟩::rs)) pk);simp only [zw] at e9;subst e9;exact ⟨_,rfl,ad9,cp9,rfl,H2.picks (.cons pk (.cons pk (.cons pk (.cons pk (.cons pk .nil)))))⟩
   ·intro vals wx hd HC;simp only [GF] at hd;have H:=HC;simp only [CA] at H;obtain ⟨ad9,cp9,hv,H⟩:=H;simp only [PS,hd,hv];refine StStep.storeC rfl rfl rfl rfl rfl rfl H (by have:=HS.out.sz;omega) ?_;intro wz H;exact ⟨trivial,ad9,cp9,H⟩
   intro vals wx hd HC;have h16:=hd.2.2.2.2.2.2.2.2.2.2.2.2.2.2.2.2.1;simp only [CA] at HC;obtain ⟨ad9,cp9,H⟩:=HC;simp only [GF] at hd;simp only [PS,hd];clear hd;obtain ⟨cs1,hcs1⟩:∃ c,cs.setIfInBounds 11 (.slice ad9 (rs.length+1) cp9)=c:=⟨_,rfl⟩
   have hs1:=HS.out.setM (mv':=.slice ad9 (rs.length+1) cp9) (rs':=(⟨il,0,kl,1⟩::rs)) (M':=(⟨x,none,1⟩::M)) HITS.out;simp only [hcs1] at H hs1;have HS1:=zh hs1;have HDR:Hid (∀ w,(((pA X).sep ((blk b (.cells cs1 250)).sep (zc ze 265 8 pl fl))).sep deA).ho w->Calls zb 180 #[.pointer (some ⟨b,1,none⟩),.int .i64 (1:Nat),.int .i64 m] w (xY X false b 1 250 cs1 (qZ false m 1 p) ((pA X).sep ((blk b (.cells cs1 250)).sep (zc ze 265 8 pl fl))).fp w (.tuple #[]))):=zh fun w h=>Yu HX.out hs1.left HZ.out.1 HZ.out.2.1 HZ.out.2.2 HM.out.1 HNT.out.1 HNT.out.2 w h
   clear hs1 hcs1;go_wp2_with (first|refine sL ?_|(refine sS ?_;clear H;intros;rename_i H)|(go_at_call 180;with_reducible refine zm (HDR.out _ ((St.join3 (H.pick3 (A:=pA X) (B:=blk b (.cells cs1 250)) (C:=zc ze 265 8 pl fl) pk pk pk)).sepK HK pk pk)) ?_;rintro e wc ⟨X2,cs2,pl2,fl2,il2,kl2,rfl,y1,y2,y3,y4,y5,hb⟩;have HY:=zh (za y1 (za y2 (za y3 (za y4 y5))));clear y1 y2 y3 y4 y5;replace H:=zn ((St.join3 (H.pick3 (A:=pA X) (B:=blk b (.cells cs1 250)) (C:=zc ze 265 8 pl fl) pk pk pk)).call hb);clear hb));refine nR ?_;have hy:=HY.out;exact ⟨X2,cs2,pl2,fl2,il2,kl2,pr,fr,ir,kr,_,_,rfl,hy.1,hy.2.1,hy.2.2.1,HS1.out.afterL HX.out.ok hy.1 hy.2.2.2.1 hy.2.2.2.2,H.picks (.cons pk (.cons pk (.cons pk (.cons pk (.cons pk .nil)))))⟩
attribute [local go_sem] StStep jw yM in
theorem Jb {a:Tr} {lv:Nat} {X:Px} {b il kl ir kr:Nat} {cs:Array Value} {pl pr mv:Value} {fl fr:List Fr} {rs:List ItR} {d e:qK} {M:List It} (hX:zK X) (hs:SpIn X cs pl fl il kl pr fr ir kr mv rs d e M) (hz:EndZ a e) (ga:a.Gd) (hal:a.lv<=25339) (h1:1<=lv) (hlv:lv<1152921504606846976) (hb:rs.length<=2097152) (w:World) (h:((spA X b cs pl fl pr fr mv rs).sep deA).ho w) :
  Calls zb 166 #[.pointer (some ⟨b,0,none⟩),.int .i64 lv] w (jB X b (spA X b cs pl fl pr fr mv rs).fp w (.tuple #[]) d (wa lv d e M).1 (wa lv d e M).2):=by
 rw [qz] at h;obtain ⟨k1,k2,hdd⟩:=h;have H:=jG (St.one k1);have HK:Ks w (spA X b cs pl fl pr fr mv rs).fp [deA]:=⟨by simpa using k2,by simpa using fun b hb hm=>hdd b hm hb⟩
 generalize (spA X b cs pl fl pr fr mv rs).fp=N at *;clear k1 k2 hdd;have HX:=zh hX;have HS:=zh hs;have HLN:Hid (rs.length<=4194304):=zh (by omega);have C11:=zh hs.c11;have CI:=zh hs.c9;have CK:=zh hs.c10;obtain ⟨m,hm⟩:∃ m,lv-1=m:=⟨_,rfl⟩
 have i1:(lv:Int)-1=(m:Nat):=(by omega);have HM:Hid (m<9223372036854775808∧lv-1=m):=zh ⟨by omega,hm⟩;obtain ⟨p,sx⟩:=e;have hsy:=hs.right.symOf;simp only at hsy;cases sx with
 |none =>
  have hi0:=hsy.1;subst hi0;rw [show wa lv d (p,none) M=((p,none),M) from rfl];clear hsy hs hX hz hb hm;go_enter YY,QQ;go_wp2_with (first|refine sL ?_|(refine sS ?_;clear H;intros;rename_i H));refine nR ?_;exact ⟨X,cs,pl,fl,il,kl,pr,fr,0,kr,mv,rs,rfl,.refl _,HX.out,rfl,HS.out,H.picks (.cons pk (.cons pk (.cons pk (.cons pk (.cons pk .nil)))))⟩
 |some x =>
  have hx:Den X.S ir x∧kr=x.key:=hsy;have hi1:=hx.1.1;have d0:((ir:Int)==0)=false:=(by simp;omega);have hkx:kr<2305843009213693951:=(by rw [hx.2];exact x.key_lt);have hzz:Zip a p x:=hz;have HZ:Hid (EndZ a (p,some x)∧a.Gd∧a.lv<=25339):=zh ⟨hz,ga,hal⟩;have HNT:Hid ((∀ q p',p=q::p'->1<=hvT true q)∧(1:Nat)<9223372036854775808):=zh ⟨fun q p' e=>by
   have:=hzz.lt q (by rw [e];simp);simp only [hvT];split <;> omega,by omega⟩
  have HITS:Hid (ItsOf X.S (M++[⟨x,none,1⟩]) (rs++[⟨ir,0,kr,1⟩])):=zh (hs.its.snoc ⟨hx.1,hx.2,rfl,rfl⟩);have hhd:=Vw hs.its hs.left.symOf;have hfs:=fun w h=>last_c (b:=b) (mv:=mv) HLN.out hs.c11 hs.c4 hs.c5 w h
  obtain ⟨hn,hk,hnk⟩:∃ hn hk,Ww rs il kl=(hn,hk):=⟨_,_,rfl⟩
  rw [hnk] at hhd hfs;simp only at hhd hfs;have HFS:=zh hfs;clear hfs hnk;have hgo:wa lv d (p,some x) M=if wD true lv p x (kj M d)=true then ((p,some x),M) else (qZ true m 1 p,(M++[⟨x,none,1⟩])):=by unfold wa;simp only [hm]
  cases ht:yZ lv p
  case' none =>
   have hpa:=fun w h1 h2=>Y3 (b:=b) (ty:=250) (lv:=lv) hs.right hz ga hal ht w h1 h2
   have HPA:=zh hpa;clear hpa;cases hh:kj M d
   case none =>
    rw [hh] at hhd;have hn0:=hhd.1;subst hn0;rw [hgo,hh,if_pos (by simp [wD,ht])];clear hsy hs hX hz hb hm hx hzz hgo ht hhd hh hi1;go_enter YY,QQ;go_wp2_with (first|refine sL ?_|(refine sS ?_;clear H;intros;rename_i H)|(go_at_call 172;with_reducible refine same (HPA.out _ (H.get pk) (H.get pk)) ?_)|(go_at_call 181;with_reducible refine zm (HFS.out _ (H.sepO pk pk)) ?_;rintro e wc ⟨rfl,hb⟩;replace H:=H.grew hb.below;clear hb)|(go_at_call 182;with_reducible refine same (HFI.out _) ?_));refine nR ?_;exact ⟨X,cs,pl,fl,il,kl,pr,fr,ir,kr,mv,rs,rfl,.refl _,HX.out,rfl,HS.out,H.picks (.cons pk (.cons pk (.cons pk (.cons pk (.cons pk .nil)))))⟩
   case' some y =>
    rw [hh] at hhd;have hy1:=hhd.1.1;have d3:((hn:Int)==0)=false:=(by simp;omega);have hfi:=KO hk kr lv hlv (by rw [hhd.2];exact y.key_lt) hkx;have hft:yt hk kr lv=fits lv y x:=(by rw [hx.2,hhd.2];rfl);rw [hft] at hfi;cases hf:fits lv y x
    case' true=>rw [hgo,hh,if_neg (by simp [wD,ht,hf])]
    case' false=>rw [hgo,hh,if_pos (by simp [wD,ht,hf])]
    all_goals
     rw [hf] at hfi;have HFI:=zh hfi;clear hsy hs hX hz hb hm hx hzz hgo ht hhd hh hi1 hy1 hfi hft hf;go_enter YY,QQ;go_wp2_with (first|refine sL ?_|(refine sS ?_;clear H;intros;rename_i H)|(go_at_call 172;with_reducible refine same (HPA.out _ (H.get pk) (H.get pk)) ?_)|(go_at_call 181;with_reducible refine zm (HFS.out _ (H.sepO pk pk)) ?_;rintro e wc ⟨rfl,hb⟩;replace H:=H.grew hb.below;clear hb)|(go_at_call 182;with_reducible refine same (HFI.out _) ?_))
    ·refine nR ?_;exact ⟨X,cs,pl,fl,il,kl,pr,fr,ir,kr,mv,rs,rfl,.refl _,HX.out,rfl,HS.out,H.picks (.cons pk (.cons pk (.cons pk (.cons pk (.cons pk .nil)))))⟩
  case' some q =>
   obtain ⟨g,n,c,fs1,f,p2,e1,e2,hn1,hn20,e3,hfr,hpp,hfl,hfx,hpa⟩:=Q5 (b:=b) (ty:=250) (lv:=lv) hs.right hz ga hal ht (H.get (A:=zc ze 265 8 pr fr) pk);subst e1 e2;clear e3;have HPA:=zh hpa;have HC7:Hid (∀ w,(zc ze 265 8 (.slice (some ⟨g,0,none⟩) (n+1) c) (fs1++[f])).ho w->w.cell? ⟨g,n*8+7,none⟩=some (.int .i64 f.hv)):=zh fun w h=>xg h hfx rfl
   clear hpa;by_cases hv:f.hv=2
   case' neg =>
    rw [hgo,if_neg (by simp [wD,ht,← hfr.hvT,hv])];have d3:((f.hv:Int)==2)=false:=by simp;omega
   case' pos =>
    rw [hgo,if_pos (by simp [wD,ht,← hfr.hvT,hv])];rw [hv] at HC7
   all_goals
    clear hsy hs hX hz hb hm hx hzz hgo ht hhd hi1 hn1 hfr hpp hfl hfx hv;go_enter YY,QQ;go_wp2_with (first|refine sL ?_|(refine sS ?_;clear H;intros;rename_i H)|(go_at_call 172;with_reducible refine same (HPA.out _ (H.get pk) (H.get pk)) ?_));obtain ⟨pr,hpv⟩:∃ v:Value,v=.slice (some ⟨g,0,none⟩) (n+1) c:=⟨_,rfl⟩
    obtain ⟨fr,hfs2⟩:∃ v:List Fr,v=fs1++[f]:=⟨_,rfl⟩
    rw [← hpv,← hfs2] at HS H;clear hpv hfs2 HPA HC7
   ·refine nR ?_;exact ⟨X,cs,pl,fl,il,kl,pr,fr,ir,kr,mv,rs,rfl,.refl _,HX.out,rfl,HS.out,H.picks (.cons pk (.cons pk (.cons pk (.cons pk (.cons pk .nil)))))⟩
  all_goals
   replace H:St w N [zc zj 254 4 mv rs,pA X,blk b (.cells cs 250),zc ze 265 8 pl fl,zc ze 265 8 pr fr] _:=H.picks (.cons pk (.cons pk (.cons pk (.cons pk (.cons pk .nil)))));refine zM 21 [⟨[],fun v _=>v=.pointer (some ⟨b,0,none⟩)⟩,⟨[],fun v _=>v=.pointer (some ⟨b,0,none⟩)⟩,⟨[1],fun v _=>v=.pointer (some ⟨b,0,none⟩)⟩,⟨[2],fun v _=>v=.pointer (some ⟨b,11,none⟩)⟩,⟨[3],fun v _=>v=mv⟩,⟨[],fun v _=>v=.pointer (some ⟨b,0,none⟩)⟩,⟨[5],fun v _=>v=.pointer (some ⟨b,0,none⟩)⟩,⟨[6],fun v _=>v=.pointer (some ⟨b,6,none⟩)⟩,⟨[7],fun v _=>v=.pointer (some ⟨b,9,none⟩)⟩,⟨[8],fun v _=>v=.int .i64 ir⟩,⟨[],fun v _=>v=.pointer (some ⟨b,0,none⟩)⟩,⟨[10],fun v _=>v=.pointer (some ⟨b,0,none⟩)⟩,⟨[11],fun v _=>v=.pointer (some ⟨b,6,none⟩)⟩,⟨[12],fun v _=>v=.pointer (some ⟨b,10,none⟩)⟩,⟨[13],fun v _=>v=.int .u64 kr⟩,⟨[9,14],fun v _=>v=.agg #[.int .i64 ir,.int .i64 0,.int .u64 kr,.int .i64 1]⟩,⟨[15],fun v _=>∃ bn:Nat,v=.slice (some ⟨bn,0,none⟩) 1 1⟩,⟨[4,16],fun _ _=>True⟩,⟨[0],fun v _=>v=.pointer (some ⟨b,0,none⟩)⟩,⟨[18],fun v _=>v=.pointer (some ⟨b,11,none⟩)⟩,⟨[17,19],fun _ _=>True⟩] [16,17,20] [[0,1,2],[0,1],[0,1],[0,1],[0,1],[0],[0],[0],[0],[0],[0],[0],[0],[0],[0],[0],[0],[1],[2],[2],[2]] [fun _ wx=>St w N [zc zj 254 4 mv rs,pA X,blk b (.cells cs 250),zc ze 265 8 pl fl,zc ze 265 8 pr fr] wx,fun vals wx=>∃ bn:Nat,vals 16=.slice (some ⟨bn,0,none⟩) 1 1∧St w N [zc zj 254 4 mv rs,zc zj 254 4 (.slice (some ⟨bn,0,none⟩) 1 1) [⟨ir,0,kr,1⟩],pA X,blk b (.cells cs 250),zc ze 265 8 pl fl,zc ze 265 8 pr fr] wx,fun vals wx=>∃ (ad9:Option Addr) (cp9:Nat),vals 17=.slice ad9 (rs.length+1) cp9∧St w N [blk b (.cells cs 250),pA X,zc ze 265 8 pl fl,zc ze 265 8 pr fr,zc zj 254 4 (.slice ad9 (rs.length+1) cp9) (rs++[⟨ir,0,kr,1⟩])] wx,fun vals wx=>∃ (ad9:Option Addr) (cp9:Nat),St w N [blk b (.cells (cs.setIfInBounds 11 (.slice ad9 (rs.length+1) cp9)) 250),pA X,zc ze 265 8 pl fl,zc ze 265 8 pr fr,zc zj 254 4 (.slice ad9 (rs.length+1) cp9) (rs++[⟨ir,0,kr,1⟩])] wx]
    [[],[],[(1,48)],[(2,49)],[(3,50)],[],[(5,52)],[(6,53)],[(7,54)],[(8,55)],[],[(10,57)],[(11,58)],[(12,59)],[(13,60)],[(9,56),(14,61)],[(15,62)],[(4,51),(16,63)],[(0,47)],[(18,65)],[(17,64),(19,66)]] [(0,47),(1,48),(2,49),(3,50),(4,51),(5,52),(6,53),(7,54),(8,55),(9,56),(10,57),(11,58),(12,59),(13,60),(14,61),(15,62),(16,63),(17,64),(18,65),(19,66)] (by kernel_rfl) (by kernel_rfl) H.drew ⟨⟨qo,qo,qo,trivial⟩,⟨qo,qo,trivial⟩,⟨qo,qo,trivial⟩,⟨qo,qo,trivial⟩,⟨ql,ql,trivial⟩,⟨qo,trivial⟩,⟨qo,trivial⟩,⟨qo,trivial⟩,⟨qo,trivial⟩,⟨ql,trivial⟩,⟨qo,trivial⟩,⟨qo,trivial⟩,⟨qo,trivial⟩,⟨qo,trivial⟩,⟨ql,trivial⟩,⟨qo,trivial⟩,⟨?_,trivial⟩,⟨?_,trivial⟩,⟨qo,trivial⟩,⟨qo,trivial⟩,⟨?_,trivial⟩,trivial⟩ ?_
   ·intro vals wx hd HC;simp only [GF] at hd;have H:=HC;simp only [CA] at H;simp only [PS,hd];clear HC;refine StStep.slice1 (enc:=zj) H rfl rfl rfl rfl rfl rfl rfl rfl rfl ⟨ir,0,kr,1⟩ rfl q7 ?_;intro bn wz H;exact ⟨⟨bn,rfl⟩,bn,rfl,H.picks (.cons pk (.cons pk (.cons pk (.cons pk (.cons pk (.cons pk .nil))))))⟩
   ·intro vals wx hd HC;simp only [GF] at hd;have H:=HC;simp only [CA] at H;obtain ⟨bn,hv,H⟩:=H;simp only [PS,hd,hv];refine StStep.append (enc:=zj) rfl rfl rfl rfl rfl (by decide) (by decide) rfl rfl H (H.get (A:=zc zj 254 4 (.slice (some ⟨bn,0,none⟩) 1 1) [⟨ir,0,kr,1⟩]) pk) q7 w9 (by have:=HLN.out;simp;omega) ?_;intro v' wz H;obtain ⟨ad9,cp9,e9,_⟩:=zE (H.get (A:=zc zj 254 4 v' (rs++[⟨ir,0,kr,1⟩])) pk);simp only [zi,zw,zC,qQ] at e9;subst e9;exact ⟨trivial,ad9,cp9,rfl,H.picks (.cons pk (.cons pk (.cons pk (.cons pk (.cons pk .nil)))))⟩
   ·intro vals wx hd HC;simp only [GF] at hd;have H:=HC;simp only [CA] at H;obtain ⟨ad9,cp9,hv,H⟩:=H;simp only [PS,hd,hv];refine StStep.storeC rfl rfl rfl rfl rfl rfl H (by have:=HS.out.sz;omega) ?_;intro wz H;exact ⟨trivial,ad9,cp9,H⟩
   intro vals wx hd HC;have h16:=hd.2.2.2.2.2.2.2.2.2.2.2.2.2.2.2.2.1;simp only [CA] at HC;obtain ⟨ad9,cp9,H⟩:=HC;simp only [GF] at hd;simp only [PS,hd];clear hd;obtain ⟨cs1,hcs1⟩:∃ c,cs.setIfInBounds 11 (.slice ad9 (rs.length+1) cp9)=c:=⟨_,rfl⟩
   have hs1:=HS.out.setM (mv':=.slice ad9 (rs.length+1) cp9) (rs':=(rs++[⟨ir,0,kr,1⟩])) (M':=(M++[⟨x,none,1⟩])) HITS.out;simp only [hcs1] at H hs1;have HS1:=zh hs1;have HDR:Hid (∀ w,(((pA X).sep ((blk b (.cells cs1 250)).sep (zc ze 265 8 pr fr))).sep deA).ho w->Calls zb 180 #[.pointer (some ⟨b,6,none⟩),.int .i64 (1:Nat),.int .i64 m] w (xY X true b 6 250 cs1 (qZ true m 1 p) ((pA X).sep ((blk b (.cells cs1 250)).sep (zc ze 265 8 pr fr))).fp w (.tuple #[]))):=zh fun w h=>Yu HX.out hs1.right HZ.out.1 HZ.out.2.1 HZ.out.2.2 HM.out.1 HNT.out.1 HNT.out.2 w h
   clear hs1 hcs1;go_wp2_with (first|refine sL ?_|(refine sS ?_;clear H;intros;rename_i H)|(go_at_call 180;with_reducible refine zm (HDR.out _ ((St.join3 (H.pick3 (A:=pA X) (B:=blk b (.cells cs1 250)) (C:=zc ze 265 8 pr fr) pk pk pk)).sepK HK pk pk)) ?_;rintro e wc ⟨X2,cs2,pr2,fr2,ir2,kr2,rfl,y1,y2,y3,y4,y5,hb⟩;have HY:=zh (za y1 (za y2 (za y3 (za y4 y5))));clear y1 y2 y3 y4 y5;replace H:=zn ((St.join3 (H.pick3 (A:=pA X) (B:=blk b (.cells cs1 250)) (C:=zc ze 265 8 pr fr) pk pk pk)).call hb);clear hb));refine nR ?_;have hy:=HY.out;exact ⟨X2,cs2,pl,fl,il,kl,pr2,fr2,ir2,kr2,_,_,rfl,hy.1,hy.2.1,hy.2.2.1,HS1.out.afterR HX.out.ok hy.1 hy.2.2.2.1 hy.2.2.2.2,H.picks (.cons pk (.cons pk (.cons pk (.cons pk (.cons pk .nil)))))⟩
end
end Go.Proofs.YtgnppnokkdghcaaGreatDoor
