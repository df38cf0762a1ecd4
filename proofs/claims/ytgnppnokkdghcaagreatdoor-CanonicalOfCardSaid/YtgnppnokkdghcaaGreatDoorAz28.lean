/-
  Part 28 of the texts behind CanonicalOf: walks and laws. Conditions: as each states.
-/
import Derived.Test.YtgnppnokkdghcaaGreatDoorAz21
set_option linter.unusedSimpArgs false
set_option linter.unusedVariables false
set_option maxRecDepth 100000
set_option maxHeartbeats 80000000
open Array renaming ext_getElem?→yr,getElem?_eq_none→qw,size_setIfInBounds→yD
open Go.Proofs.Tryz renaming prog→zb
open Int renaming natCast_mul→Yl
open List renaming append_nil→qO,cons_append→zo,drop_eq_getElem_cons→yj,drop_of_length_le→yo,drop_succ_cons→wQ,drop_zero→yw,eq_of_mem_replicate→xy,flatMap_append→zI,flatMap_cons→zt,flatMap_nil→wW,flatMap_replicate→jc,getElem?_cons_succ→yN,getElem?_cons_zero→Q9,map_cons→zX,map_nil→ye,mem_of_getElem?→zy,mem_replicate→wq,nil_append→zv,replicate→zd,take_of_length_le→qp,take_zero→jA
open Nat renaming add_sub_cancel→xC,eq_zero_or_pos→qk,le_refl→zr,zero_add→qQ
open Option renaming some→yk
namespace Go.Proofs.YtgnppnokkdghcaaGreatDoor
section
open Go.RowKit Go.Maps
attribute [local go_sem] qt
structure NeIn (X X1:Px) (a:Tr) (bk:Bool) (n:Nat) (cs1:Array Value) (pv1:Value) (fs1:List Fr) (p1:List (Tr×Nat)) (t1:Tr) (id1 n1:Nat):Prop where
 ext:X.Ext X1
 ok:zK X1
 same:X1.S=X.S
 sz:cs1.size=5
 at_:EndAt cs1 0 X.p bk pv1 id1 0
 path:PathOf X.S bk p1 fs1
 den:Den X.S id1 t1
 zip:Zip a p1 t1
 pos:1<=n1
 le:n1<=t1.len
 left:bk=false->qi 0 p1++(t1.lay 0).take n1=(a.lay 0).take n
 right:bk=true->(t1.lay 0).drop (t1.len-n1)++tl 0 p1=(a.lay 0).drop (a.len-n)
def NeRel (X:Px) (a:Tr) (bk:Bool) (n b8 b9:Nat) (M:List Nat) (w:World) (lv:Nat) (v2 v10 v11:Value) (wr:World):Prop :=
 ∃ (X1:Px) (cs1:Array Value) (pv1:Value) (fs1:List Fr) (p1:List (Tr×Nat)) (t1:Tr) (id1 n1:Nat),v2=.int .i64 (n1:Nat)∧lv=t1.lv∧NeIn X X1 a bk n cs1 pv1 fs1 p1 t1 id1 n1 ∧
  St w M [blk b9 (.cells cs1 246),zc ze 265 8 pv1 fs1,pA X1,blk b8 (.cells #[.pointer none,.bool false,.slice none 0 0,.int .i64 0,.int .u64 0] 246)] wr
abbrev XA (X:Px) (a:Tr) (bk:Bool) (n:Nat) (M:List Nat) (w:World) (e:Ending) (w':World):Prop :=
 ∃ (X':Px) (pv':Value) (fs':List Fr) (id' ky':Nat) (d:qK),e=.returned (.agg #[.pointer (some ⟨X.p,0,none⟩),.bool bk,pv',.int .i64 id',.int .u64 ky'])∧X.Ext X'∧zK X'∧X'.S=X.S∧PathOf X'.S bk d.1 fs'∧(match d.2 with|some x=>Den X'.S id' x∧ky'=x.key|none=>id'=0∧ky'=0)∧(bk=false->EndL a 0 d ((a.lay 0).take n))∧(bk=true->EndR a 0 d ((a.lay 0).drop (a.len-n)))∧St w M [pA X',zc ze 265 8 pv' fs'] w'
theorem five_eq {cs:Array Value} {p id ky:Nat} {bk:Bool} {pv:Value} (h:EndAt cs 0 p bk pv id ky) (hs:cs.size=5):cs=#[.pointer (some ⟨p,0,none⟩),.bool bk,pv,.int .i64 id,.int .u64 ky]:=by
 have h0:=h.c0;have h1:=h.c1;have h2:=h.c2;have h3:=h.c3;have h4:=h.c4;apply yr;intro i
 match i with
 |0=>rw [h0];rfl
 |1=>rw [h1];rfl
 |2=>rw [h2];rfl
 |3=>rw [h3];rfl
 |4=>rw [h4];rfl
 |i+5=>rw [qw (by omega),qw (by simp)]
theorem VG {X:Px} {a:Tr} {bk:Bool} {id:Nat} (hX:zK X) (ga:a.Gd) (w:World) (h:(pA X).ho w) :
  Calls zb 147 #[.pointer (some ⟨X.p,0,none⟩),.int .i64 id,.int .i64 0,.bool bk] w (XA X a bk 0 (pA X).fp w):=by
 have H:=St.one h;have HX:=zh hX;generalize (pA X).fp=M at *;clear h hX;go_enter Tryz.func147,Tryz.ntmps147;go_wp2_with (first|refine sL ?_|(refine sS ?_;clear H;intros;rename_i H));refine bodyPost_ret (xR rfl H rfl pk rfl) rfl ?_;refine ⟨X,.slice none 0 0,[],0,0,([],none),rfl,.refl _,HX.out,rfl,rfl,⟨rfl,rfl⟩,fun _=>⟨rfl,by simp⟩,fun _=>⟨rfl,by rw [← xP ga];simp⟩,((H.picks (.cons (A:=pA X) pk .nil)).empty (A:=zc ze 265 8 (.slice none 0 0) []) (qq _) (by rw [qW];rfl)).picks (.cons pk (.cons pk .nil))⟩
theorem Qp {S:Sto} (hS:S.Ok) {id:Nat} {t:Tr} (h:Den S id t):t.len<=1152921504606846976:=by
 obtain ⟨i,x,rfl,hx,ht⟩:=xZ h;have hl:=(j1 hS i x hx).1;rw [ht] at hl;cases xh hS hx with
 |letter b hb hr hw h1=>omega
 |pair l r y z _ _ _ _ _ hw hs _=>simp only [yG] at hs;omega
 |pow l k y _ _ _ _ hw hs _=>simp only [yG] at hs;omega
theorem farT_eq {bk:Bool} {t c:Tr} (h:(zR t)[if bk then (zR t).length-1 else 0]?=some c):c=QX bk t:=by
 cases t with
 |leaf b=>simp [zR] at h
 |pair l r=>cases bk <;> simp [zR,QX] at h ⊢ <;> exact h.symm
 |pow s k=>exact xy (zy h)
structure SizeLater (X X1:Px) (fi fl:Nat):Prop where
 of:∀ {X2:Px},X1.Ext X2->zK X2->X2.S=X1.S->Hid (∀ w,(pA X2).ho w->Calls zb 92 #[.pointer (some ⟨X.p,0,none⟩),.int .i64 fi] w fun e w'=>e=.returned (.int .i64 (fl:Nat))∧St w [] [] w')
theorem newEnd_c {X:Px} {a:Tr} {bk:Bool} {id n:Nat} (hX:zK X) (hd:Den X.S id a) (ga:a.Gd) (hal:a.lv<=25339) (hn1:1<=n) (hna:n<=a.len) (w:World) (h:((pA X).sep deA).ho w) :
  Calls zb 147 #[.pointer (some ⟨X.p,0,none⟩),.int .i64 id,.int .i64 (n:Nat),.bool bk] w (XA X a bk n (pA X).fp w):=by
 rw [qz] at h;obtain ⟨k1,k2,hdd⟩:=h;have H:=St.one k1;have HK:Ks w (pA X).fp [deA]:=⟨by simpa using k2,by simpa using fun b hb hm=>hdd b hm hb⟩
 generalize (pA X).fp=M at *;have HX:=zh hX;have GA:=zh (za ga hal);have d0:((n:Int)==0)=false:=(by simp;omega);have HIN0:Hid (NeIn X X a bk n #[.pointer (some ⟨X.p,0,none⟩),.bool bk,.slice none 0 0,.int .i64 id,.int .u64 0] (.slice none 0 0) [] [] a id n):=zh ⟨.refl _,hX,rfl,rfl,⟨zr _,rfl,rfl,rfl,rfl,rfl⟩,rfl,hd,.root,hn1,hna,fun _=>rfl,fun _=>by simp [tl]⟩;have HN:=zh (za hn1 hna);clear k1 k2 hdd hX ga hal hd hn1 hna;go_enter Tryz.func147,Tryz.ntmps147;go_wp2_with (first|refine sL ?_|(refine sS ?_;clear H;intros;rename_i H));rename_i b8 _ b9 _ _ _ _ _;go_loopg [2,10,11] a.lv (fun lv v2 v10 v11 wr=>NeRel X a bk n b8 b9 M w lv v2 v10 v11 wr);case atStart=>exact ⟨X,_,.slice none 0 0,[],[],a,id,n,rfl,rfl,HIN0.out,((H.picks (.cons pk (.cons (A:=blk b8 (.cells #[.pointer none,.bool false,.slice none 0 0,.int .i64 0,.int .u64 0] 246)) pk (.cons (A:=pA X) pk .nil)))).empty (A:=zc ze 265 8 (.slice none 0 0) []) (qq _) (by rw [qW];rfl)).picks (.cons pk (.cons pk (.cons (A:=pA X) pk (.cons (A:=blk b8 (.cells #[.pointer none,.bool false,.slice none 0 0,.int .i64 0,.int .u64 0] 246)) pk .nil))))⟩
 case round =>
  clear H HIN0 d0;obtain ⟨X1,cs1,pv1,fs1,p1,t1,id1,n1,rfl,rfl,hin,H⟩:=hrel;have hdn:Den X1.S id1 t1:=(by rw [hin.same];exact hin.den);have hg1:=(hin.zip.gd GA.out.1).1;have hroom:=hin.zip.room GA.out.1;have hfl:fs1.length<=1048576:=(by have:=hin.path.len;have:=GA.out.2;omega);obtain ⟨i,en,hi,hx,ht⟩:=xZ hdn;obtain ⟨a1,ha1⟩:=hg1.1;obtain ⟨l1,hl1⟩:∃ l1,t1.len=l1:=⟨_,rfl⟩
  have hl1b:l1<=1152921504606846976:=(by rw [← hl1];exact Qp hin.ok.ok hdn);have hn1b:n1<=1152921504606846976:=(by have:=hin.le;omega);have HSZ:Hid (∀ w,(pA X1).ho w->Calls zb 92 #[.pointer (some ⟨X.p,0,none⟩),.int .i64 id1] w fun e w'=>e=.returned (.int .i64 (l1:Nat))∧St w [] [] w'):=zh fun w h=>by
   have:=size_p hin.ok hdn w h;rwa [hin.ext.p,hl1] at this
  have HC0:Hid (cs1[0]?=some (.pointer (some ⟨X.p,0,none⟩))):=zh hin.at_.c0;have HC1:Hid (cs1[1]?=some (.bool bk)):=zh hin.at_.c1;have HC2:Hid (cs1[2]?=some pv1):=zh hin.at_.c2;have HC3:Hid (cs1[3]?=some (.int .i64 id1)):=zh hin.at_.c3;have HC5:Hid (cs1.size=5):=zh hin.sz;have HIN:=zh hin;by_cases hlt:n1<l1
  ·have d1:decide ((n1:Int)<(l1:Int))=true:=(by simp;omega);have d2:decide (n1<l1)=true:=(by simp;omega);have h0:0<(zR t1).length:=by
    have:=Vv hg1 (by
     refine Nat.pos_of_ne_zero fun h0=>?_
     obtain ⟨b,hb⟩:=hg1.leaf h0;rw [hb] at hl1;simp only [Tr.len] at hl1;have:=hin.pos;omega)
    omega
   obtain ⟨e1,e2,e3,c,hst⟩:=end_step (bk:=bk) (p:=p1) hg1 hin.pos (by rw [hl1];exact hlt);have HOP:Hid (∀ w,((pA X1).sep deA).ho w->((pA X1).sep (blk b9 (.cells cs1 246))).ho w->Calls zb 158 #[.pointer (some ⟨b9,0,none⟩)] w (jL X1 (.agg #[.int .i64 id1,.int .i64 en.r.kind,.int .u8 en.r.letter,.int .i64 en.r.left,.int .i64 en.r.right,.int .i64 en.r.times,.int .i64 a1,.int .i64 (xF en.r:Nat)]) (pA X1).fp w)):=zh fun w h1 h2=>open_c hin.ok hdn ha1 hi hx (fun w h=>by rw [hin.ext.p];exact zV h hin.at_.c0) (fun w h=>zV h hin.at_.c3) w h1 h2
   obtain ⟨fi,hfi⟩:∃ fi,farN bk ⟨id1,en.r,a1,1⟩=fi:=⟨_,rfl⟩
   obtain ⟨cf,hcf,hdf⟩:=far_den (bk:=bk) hin.ok.ok (f:=⟨id1,en.r,a1,1⟩) hdn ⟨i,en,hi,hx,rfl⟩ h0;rw [hfi,farT_eq hcf] at hdf;obtain ⟨fl,hfl2⟩:∃ fl,(QX bk t1).len=fl:=⟨_,rfl⟩
   have hflb:fl<=1152921504606846976:=(by rw [← hfl2];exact Qp hin.ok.ok hdf);have hflp:1<=fl:=by
    rw [← hfl2];obtain ⟨j,y,_,hy,hjt⟩:=xZ hdf;have:=(j1 hin.ok.ok j y hy).2;rw [hjt] at this;exact ja this
   have HFAR:Hid (∀ w,Calls zb 159 #[.agg #[.int .i64 id1,.int .i64 en.r.kind,.int .u8 en.r.letter,.int .i64 en.r.left,.int .i64 en.r.right,.int .i64 en.r.times,.int .i64 a1,.int .i64 1],.bool bk] w fun e w'=>e=.returned (.int .i64 fi)∧St w [] [] w'):=zh fun w=>by
    have:=far_c ⟨id1,en.r,a1,1⟩ bk w;rw [hfi] at this;exact this
   have HSF0:SizeLater X X1 fi fl:=⟨fun {X2} y1 y2 y3=>zh fun w h=>by
    have:=size_p (X:=X2) (id:=fi) y2 (by rw [y3];exact hdf) w h;rw [y1.p,hin.ext.p,hfl2] at this;exact this⟩
   have hkr:=(jX hin.ok.ok hx (t:=t1) (by rw [← hi];exact hdn.2.2) h0).2;rw [hfl2] at e3 hst;clear hfi hcf;by_cases hgt:fl<n1
   ·have d3:decide ((fl:Int)<(n1:Int))=true:=(by simp;omega);have d4:decide (fl<n1)=true:=(by simp;omega);rcases hkr with ⟨kl,kr,ku,kv,hen,hte,_,_⟩|⟨kl,ku,kk,hen,hte,_,_⟩
    ·have d5:((en.r.kind:Int)==3)=false:=(by rw [hen];rfl);have hhv:yO bk t1 n1=2:=by
      rw [hte] at hfl2 ⊢;simp only [QX] at hfl2;simp only [yO];rw [if_pos (by cases bk <;> simp at hfl2 ⊢ <;> omega)]
     obtain ⟨n2,hn2⟩:∃ n2,n1-(yO bk t1 n1-1)*fl=n2:=⟨_,rfl⟩
     have i5:(n1:Int)-(fl:Int)=(n2:Nat):=(by rw [hhv] at hn2;omega);have hn2b:n2<=1152921504606846976:=(by omega);clear hen hte hfl2 hgt hdf;obtain ⟨f2,hf2⟩:∃ f2:Fr,f2=⟨id1,en.r,a1,2⟩:=⟨_,rfl⟩
     have hfr2:FrOf X1.S bk (t1,if bk then (zR t1).length-yO bk t1 n1 else yO bk t1 n1-1) f2:=by
      rw [hf2];refine ⟨hdn,ha1,⟨i,en,hi,hx,rfl⟩,?_,?_⟩
      ·simp only;cases bk <;> simp <;> omega
      ·simp only;rw [hhv] at e1 e2 ⊢;cases bk <;> simp <;> omega
     have HF2:Hid ((#[.int .i64 id1,.int .i64 en.r.kind,.int .u8 en.r.letter,.int .i64 en.r.left,.int .i64 en.r.right,.int .i64 en.r.times,.int .i64 a1,.int .i64 2]:Array Value).toList=zU ze [f2]):=zh (by rw [hf2];simp [zU,ze,Fr.cells]);obtain ⟨c',hc',hdc⟩:=hfr2.child hin.ok.ok;have hcc:c'=c:=by
      have h5:=hst.kid;simp only at hc';rw [hc'] at h5;injection h5
     rw [hcc] at hdc hc';obtain ⟨ci,hci⟩:∃ ci,jR bk f2=ci:=⟨_,rfl⟩
     rw [hci] at hdc;have HCH:Hid (∀ w,Calls zb 160 #[.agg #[.int .i64 id1,.int .i64 en.r.kind,.int .u8 en.r.letter,.int .i64 en.r.left,.int .i64 en.r.right,.int .i64 en.r.times,.int .i64 a1,.int .i64 2],.bool bk] w fun e w'=>e=.returned (.int .i64 ci)∧St w [] [] w'):=zh fun w=>by
      have:=QU f2 bk w;rw [hci,hf2] at this;exact this
     have HNX:Hid (∀ (cs3:Array Value) (ad9:Option Addr) (cp9:Nat) (X2:Px),cs3=(cs1.setIfInBounds 2 (.slice ad9 (fs1.length+1) cp9)).setIfInBounds 3 (.int .i64 ci)->X1.Ext X2->zK X2->X2.S=X1.S->NeIn X X2 a bk n cs3 (.slice ad9 (fs1.length+1) cp9) (fs1++[f2]) ((t1,if bk then (zR t1).length-yO bk t1 n1 else yO bk t1 n1-1)::p1) c ci n2):=zh fun cs3 ad9 cp9 X2 hcs3 y1 y2 y3=>by
      have hs:X2.S=X.S:=y3.trans hin.same;have hst':=hst;rw [hn2] at hst';exact ⟨hin.ext.trans y1,y2,hs,by rw [hcs3];simpa using hin.sz,by rw [hcs3];exact (hin.at_.setPath _).setId ci,⟨fs1,f2,rfl,by rw [← hin.same];exact hfr2,hin.path⟩,by rw [← hin.same];exact hdc,hin.zip.down hst'.kid,hst'.pos,hst'.le,fun hb=>(hst'.left hb).symm.trans (hin.left hb),fun hb=>(hst'.right hb).symm.trans (hin.right hb)⟩
     have HCL:Hid (c.lv<t1.lv):=zh (hg1.kid (zy hst.kid)).2;clear hin hst hfr2 hf2 hhv hn2 hdc hc' hcc hci hdn hg1 hroom hi hx ht ha1 hl1 e1 e2 e3 h0 hlt;go_wp2_with (first|refine sL ?_|(refine sS ?_;clear H;intros;rename_i H)|(go_at_call 92;first|(with_reducible refine zm (HSZ.out _ (H.get pk)) ?_;rintro e wc ⟨rfl,hb⟩;replace H:=H.grew hb.below;clear hb)|(with_reducible refine zm (HSF.out _ (H.get pk)) ?_;rintro e wc ⟨rfl,hb⟩;replace H:=H.grew hb.below;clear hb))|(go_at_call 158;with_reducible refine zm (HOP.out _ (H.sepK HK pk pk) (H.sepO pk pk)) ?_;rintro e wc ⟨X2,y1,y2,y3,rfl,hb⟩;have HY:=zh (za y1 (za y2 y3));clear y1 y2 y3;replace H:=zn ((H.pick pk).call hb);clear hb;have HSF:=HSF0.of HY.out.1 HY.out.2.1 HY.out.2.2)|(go_at_call 159;with_reducible refine zm (HFAR.out _) ?_;rintro e wc ⟨rfl,hb⟩;replace H:=H.grew hb.below;clear hb)|((with_reducible refine qV ?_);refine AtSlice.one H rfl rfl rfl rfl rfl rfl rfl rfl rfl ?_;clear H;intro b _ H;simp only [Act.put,puA,puB,puC])|((with_reducible refine qJ ?_);refine AtAppend.go (enc:=ze) H rfl rfl rfl rfl rfl (by decide) (by decide) rfl pk rfl (H.at pk) [f2] rfl HF2.out xM ZU (by simp;omega) ?_;clear H;intro ad9 cp9 _ H;simp only [Act.put,puA,puB,puC])|(go_at_call 160;with_reducible refine zm (HCH.out _) ?_;rintro e wc ⟨rfl,hb⟩;replace H:=H.grew hb.below;clear hb)|((with_reducible refine yl ?_);refine AtStore.cell H rfl rfl rfl rfl rfl (qL (qB rfl)) (cs:=cs1) pk (by first|(have:=HC5.out;omega)|(simp only [yD];have:=HC5.out;omega)) rfl ?_;clear H;intro _ H;simp only [Act.put,puA,puB,puC])|((with_reducible refine yl ?_);refine AtStore.cell H rfl rfl rfl rfl rfl (qL (qB rfl)) (cs:=cs1.setIfInBounds 2 (.slice ad9 (fs1.length+1) cp9)) pk (by first|(have:=HC5.out;omega)|(simp only [yD];have:=HC5.out;omega)) rfl ?_;clear H;intro _ H;simp only [Act.put,puA,puB,puC]));go_roundg c.lv;case measure=>exact HCL.out
     case rel=>exact ⟨X2,_,_,fs1++[f2],_,c,ci,n2,rfl,rfl,HNX.out _ ad9 cp9 X2 rfl HY.out.1 HY.out.2.1 HY.out.2.2,H.picks (.cons pk (.cons pk (.cons pk (.cons pk .nil))))⟩
    ·have d5:((en.r.kind:Int)==3)=true:=(by rw [hen];rfl);obtain ⟨q,hq⟩:∃ q,(n1-1)/fl=q:=⟨_,rfl⟩
     have hhv:yO bk t1 n1=q+1:=by
      rw [hte] at hfl2 ⊢;simp only [QX] at hfl2;simp only [yO,hfl2,hq]
     obtain ⟨nm,hnm⟩:∃ nm,n1-1=nm:=⟨_,rfl⟩
     rw [hnm] at hq;have i1:(n1:Int)-1=(nm:Nat):=(by have:=hin.pos;omega);have i2:(nm:Int).tdiv (fl:Int)=(q:Nat):=(by rw [← hq];rfl);have i2z:((fl:Int)==0)=false:=(by simp;omega);have hqb:q<=1152921504606846976:=(by rw [← hq];have:=Nat.div_le_self nm fl;omega);obtain ⟨qf,hqf⟩:∃ qf,q*fl=qf:=⟨_,rfl⟩
     have i4:(q:Int)*(fl:Int)=(qf:Nat):=(by rw [← hqf];exact (Yl _ _).symm);obtain ⟨n2,hn2⟩:∃ n2,n1-(yO bk t1 n1-1)*fl=n2:=⟨_,rfl⟩
     have hqn:qf<n1:=(by rw [hhv] at e3;simp only [xC] at e3;omega);have i5:(n1:Int)-(qf:Nat)=(n2:Nat):=(by rw [hhv] at hn2;simp only [xC] at hn2;omega);have hn2b:n2<=1152921504606846976:=(by omega);have hnmb:nm<=1152921504606846976:=(by omega);have hqfb:qf<=1152921504606846976:=(by omega);clear hen hte hfl2 hgt hdf hq hqf hnm;obtain ⟨f2,hf2⟩:∃ f2:Fr,f2=⟨id1,en.r,a1,q+1⟩:=⟨_,rfl⟩
     have hfr2:FrOf X1.S bk (t1,if bk then (zR t1).length-yO bk t1 n1 else yO bk t1 n1-1) f2:=by
      rw [hf2];refine ⟨hdn,ha1,⟨i,en,hi,hx,rfl⟩,?_,?_⟩
      ·simp only;cases bk <;> simp <;> omega
      ·simp only;rw [hhv] at e1 e2 ⊢;cases bk <;> simp <;> omega
     have HF2:Hid ((#[.int .i64 id1,.int .i64 en.r.kind,.int .u8 en.r.letter,.int .i64 en.r.left,.int .i64 en.r.right,.int .i64 en.r.times,.int .i64 a1,.int .i64 ((q:Int)+1)]:Array Value).toList=zU ze [f2]):=zh (by rw [hf2];simp [zU,ze,Fr.cells]);obtain ⟨c',hc',hdc⟩:=hfr2.child hin.ok.ok;have hcc:c'=c:=by
      have h5:=hst.kid;simp only at hc';rw [hc'] at h5;injection h5
     rw [hcc] at hdc hc';obtain ⟨ci,hci⟩:∃ ci,jR bk f2=ci:=⟨_,rfl⟩
     rw [hci] at hdc;have HCH:Hid (∀ w,Calls zb 160 #[.agg #[.int .i64 id1,.int .i64 en.r.kind,.int .u8 en.r.letter,.int .i64 en.r.left,.int .i64 en.r.right,.int .i64 en.r.times,.int .i64 a1,.int .i64 ((q:Int)+1)],.bool bk] w fun e w'=>e=.returned (.int .i64 ci)∧St w [] [] w'):=zh fun w=>by
      have:=QU f2 bk w;rw [hci,hf2] at this;exact this
     have HNX:Hid (∀ (cs3:Array Value) (ad9:Option Addr) (cp9:Nat) (X2:Px),cs3=(cs1.setIfInBounds 2 (.slice ad9 (fs1.length+1) cp9)).setIfInBounds 3 (.int .i64 ci)->X1.Ext X2->zK X2->X2.S=X1.S->NeIn X X2 a bk n cs3 (.slice ad9 (fs1.length+1) cp9) (fs1++[f2]) ((t1,if bk then (zR t1).length-yO bk t1 n1 else yO bk t1 n1-1)::p1) c ci n2):=zh fun cs3 ad9 cp9 X2 hcs3 y1 y2 y3=>by
      have hs:X2.S=X.S:=y3.trans hin.same;have hst':=hst;rw [hn2] at hst';exact ⟨hin.ext.trans y1,y2,hs,by rw [hcs3];simpa using hin.sz,by rw [hcs3];exact (hin.at_.setPath _).setId ci,⟨fs1,f2,rfl,by rw [← hin.same];exact hfr2,hin.path⟩,by rw [← hin.same];exact hdc,hin.zip.down hst'.kid,hst'.pos,hst'.le,fun hb=>(hst'.left hb).symm.trans (hin.left hb),fun hb=>(hst'.right hb).symm.trans (hin.right hb)⟩
     have HCL:Hid (c.lv<t1.lv):=zh (hg1.kid (zy hst.kid)).2;clear hin hst hfr2 hf2 hhv hn2 hdc hc' hcc hci hdn hg1 hroom hi hx ht ha1 hl1 e1 e2 e3 h0 hlt;go_wp2_with (first|refine sL ?_|(refine sS ?_;clear H;intros;rename_i H)|(go_at_call 92;first|(with_reducible refine zm (HSZ.out _ (H.get pk)) ?_;rintro e wc ⟨rfl,hb⟩;replace H:=H.grew hb.below;clear hb)|(with_reducible refine zm (HSF.out _ (H.get pk)) ?_;rintro e wc ⟨rfl,hb⟩;replace H:=H.grew hb.below;clear hb))|(go_at_call 158;with_reducible refine zm (HOP.out _ (H.sepK HK pk pk) (H.sepO pk pk)) ?_;rintro e wc ⟨X2,y1,y2,y3,rfl,hb⟩;have HY:=zh (za y1 (za y2 y3));clear y1 y2 y3;replace H:=zn ((H.pick pk).call hb);clear hb;have HSF:=HSF0.of HY.out.1 HY.out.2.1 HY.out.2.2)|(go_at_call 159;with_reducible refine zm (HFAR.out _) ?_;rintro e wc ⟨rfl,hb⟩;replace H:=H.grew hb.below;clear hb)|((with_reducible refine qV ?_);refine AtSlice.one H rfl rfl rfl rfl rfl rfl rfl rfl rfl ?_;clear H;intro b _ H;simp only [Act.put,puA,puB,puC])|((with_reducible refine qJ ?_);refine AtAppend.go (enc:=ze) H rfl rfl rfl rfl rfl (by decide) (by decide) rfl pk rfl (H.at pk) [f2] rfl HF2.out xM ZU (by simp;omega) ?_;clear H;intro ad9 cp9 _ H;simp only [Act.put,puA,puB,puC])|(go_at_call 160;with_reducible refine zm (HCH.out _) ?_;rintro e wc ⟨rfl,hb⟩;replace H:=H.grew hb.below;clear hb)|((with_reducible refine yl ?_);refine AtStore.cell H rfl rfl rfl rfl rfl (qL (qB rfl)) (cs:=cs1) pk (by first|(have:=HC5.out;omega)|(simp only [yD];have:=HC5.out;omega)) rfl ?_;clear H;intro _ H;simp only [Act.put,puA,puB,puC])|((with_reducible refine yl ?_);refine AtStore.cell H rfl rfl rfl rfl rfl (qL (qB rfl)) (cs:=cs1.setIfInBounds 2 (.slice ad9 (fs1.length+1) cp9)) pk (by first|(have:=HC5.out;omega)|(simp only [yD];have:=HC5.out;omega)) rfl ?_;clear H;intro _ H;simp only [Act.put,puA,puB,puC]));go_roundg c.lv;case measure=>exact HCL.out
     case rel=>exact ⟨X2,_,_,fs1++[f2],_,c,ci,n2,rfl,rfl,HNX.out _ ad9 cp9 X2 rfl HY.out.1 HY.out.2.1 HY.out.2.2,H.picks (.cons pk (.cons pk (.cons pk (.cons pk .nil))))⟩
   ·have d3:decide ((fl:Int)<(n1:Int))=false:=(by simp;omega);have d4:decide (fl<n1)=false:=(by simp;omega);have hhv:yO bk t1 n1=1:=by
     rcases hkr with ⟨kl,kr,ku,kv,hen,hte,_,_⟩|⟨kl,ku,kk,hen,hte,_,_⟩
     ·rw [hte] at hfl2 ⊢;simp only [QX] at hfl2;simp only [yO];rw [if_neg (by cases bk <;> simp at hfl2 ⊢ <;> omega)]
     ·rw [hte] at hfl2 ⊢;simp only [QX] at hfl2;simp only [yO,hfl2];rw [Nat.div_eq_of_lt (by have:=hin.pos;omega)]
    have hn2:n1-(yO bk t1 n1-1)*fl=n1:=(by rw [hhv];simp);clear hkr hfl2 hgt hdf;obtain ⟨f2,hf2⟩:∃ f2:Fr,f2=⟨id1,en.r,a1,1⟩:=⟨_,rfl⟩
    have hfr2:FrOf X1.S bk (t1,if bk then (zR t1).length-yO bk t1 n1 else yO bk t1 n1-1) f2:=by
     rw [hf2];refine ⟨hdn,ha1,⟨i,en,hi,hx,rfl⟩,?_,?_⟩
     ·simp only;cases bk <;> simp <;> omega
     ·simp only;rw [hhv] at e1 e2 ⊢;cases bk <;> simp <;> omega
    have HF2:Hid ((#[.int .i64 id1,.int .i64 en.r.kind,.int .u8 en.r.letter,.int .i64 en.r.left,.int .i64 en.r.right,.int .i64 en.r.times,.int .i64 a1,.int .i64 1]:Array Value).toList=zU ze [f2]):=zh (by rw [hf2];simp [zU,ze,Fr.cells]);obtain ⟨c',hc',hdc⟩:=hfr2.child hin.ok.ok;have hcc:c'=c:=by
     have h5:=hst.kid;simp only at hc';rw [hc'] at h5;injection h5
    rw [hcc] at hdc hc';obtain ⟨ci,hci⟩:∃ ci,jR bk f2=ci:=⟨_,rfl⟩
    rw [hci] at hdc;have HCH:Hid (∀ w,Calls zb 160 #[.agg #[.int .i64 id1,.int .i64 en.r.kind,.int .u8 en.r.letter,.int .i64 en.r.left,.int .i64 en.r.right,.int .i64 en.r.times,.int .i64 a1,.int .i64 1],.bool bk] w fun e w'=>e=.returned (.int .i64 ci)∧St w [] [] w'):=zh fun w=>by
     have:=QU f2 bk w;rw [hci,hf2] at this;exact this
    have HNX:Hid (∀ (cs3:Array Value) (ad9:Option Addr) (cp9:Nat) (X2:Px),cs3=(cs1.setIfInBounds 2 (.slice ad9 (fs1.length+1) cp9)).setIfInBounds 3 (.int .i64 ci)->X1.Ext X2->zK X2->X2.S=X1.S->NeIn X X2 a bk n cs3 (.slice ad9 (fs1.length+1) cp9) (fs1++[f2]) ((t1,if bk then (zR t1).length-yO bk t1 n1 else yO bk t1 n1-1)::p1) c ci n1):=zh fun cs3 ad9 cp9 X2 hcs3 y1 y2 y3=>by
     have hs:X2.S=X.S:=y3.trans hin.same;have hst':=hst;rw [hn2] at hst';exact ⟨hin.ext.trans y1,y2,hs,by rw [hcs3];simpa using hin.sz,by rw [hcs3];exact (hin.at_.setPath _).setId ci,⟨fs1,f2,rfl,by rw [← hin.same];exact hfr2,hin.path⟩,by rw [← hin.same];exact hdc,hin.zip.down hst'.kid,hst'.pos,hst'.le,fun hb=>(hst'.left hb).symm.trans (hin.left hb),fun hb=>(hst'.right hb).symm.trans (hin.right hb)⟩
    have HCL:Hid (c.lv<t1.lv):=zh (hg1.kid (zy hst.kid)).2;clear hin hst hfr2 hf2 hhv hn2 hdc hc' hcc hci hdn hg1 hroom hi hx ht ha1 hl1 e1 e2 e3 h0 hlt;go_wp2_with (first|refine sL ?_|(refine sS ?_;clear H;intros;rename_i H)|(go_at_call 92;first|(with_reducible refine zm (HSZ.out _ (H.get pk)) ?_;rintro e wc ⟨rfl,hb⟩;replace H:=H.grew hb.below;clear hb)|(with_reducible refine zm (HSF.out _ (H.get pk)) ?_;rintro e wc ⟨rfl,hb⟩;replace H:=H.grew hb.below;clear hb))|(go_at_call 158;with_reducible refine zm (HOP.out _ (H.sepK HK pk pk) (H.sepO pk pk)) ?_;rintro e wc ⟨X2,y1,y2,y3,rfl,hb⟩;have HY:=zh (za y1 (za y2 y3));clear y1 y2 y3;replace H:=zn ((H.pick pk).call hb);clear hb;have HSF:=HSF0.of HY.out.1 HY.out.2.1 HY.out.2.2)|(go_at_call 159;with_reducible refine zm (HFAR.out _) ?_;rintro e wc ⟨rfl,hb⟩;replace H:=H.grew hb.below;clear hb)|((with_reducible refine qV ?_);refine AtSlice.one H rfl rfl rfl rfl rfl rfl rfl rfl rfl ?_;clear H;intro b _ H;simp only [Act.put,puA,puB,puC])|((with_reducible refine qJ ?_);refine AtAppend.go (enc:=ze) H rfl rfl rfl rfl rfl (by decide) (by decide) rfl pk rfl (H.at pk) [f2] rfl HF2.out xM ZU (by simp;omega) ?_;clear H;intro ad9 cp9 _ H;simp only [Act.put,puA,puB,puC])|(go_at_call 160;with_reducible refine zm (HCH.out _) ?_;rintro e wc ⟨rfl,hb⟩;replace H:=H.grew hb.below;clear hb)|((with_reducible refine yl ?_);refine AtStore.cell H rfl rfl rfl rfl rfl (qL (qB rfl)) (cs:=cs1) pk (by first|(have:=HC5.out;omega)|(simp only [yD];have:=HC5.out;omega)) rfl ?_;clear H;intro _ H;simp only [Act.put,puA,puB,puC])|((with_reducible refine yl ?_);refine AtStore.cell H rfl rfl rfl rfl rfl (qL (qB rfl)) (cs:=cs1.setIfInBounds 2 (.slice ad9 (fs1.length+1) cp9)) pk (by first|(have:=HC5.out;omega)|(simp only [yD];have:=HC5.out;omega)) rfl ?_;clear H;intro _ H;simp only [Act.put,puA,puB,puC]));go_roundg c.lv;case measure=>exact HCL.out
    case rel=>exact ⟨X2,_,_,fs1++[f2],_,c,ci,n1,rfl,rfl,HNX.out _ ad9 cp9 X2 rfl HY.out.1 HY.out.2.1 HY.out.2.2,H.picks (.cons pk (.cons pk (.cons pk (.cons pk .nil))))⟩
  ·have hnl:n1=l1:=(by have:=hin.le;omega);have d1:decide ((n1:Int)<(l1:Int))=false:=(by simp;omega);have d2:decide (n1<l1)=false:=(by simp;omega);have HDN:Hid (∀ w,(((pA X1).sep ((blk b9 (.cells cs1 246)).sep (zc ze 265 8 pv1 fs1))).sep deA).ho w->Calls zb 161 #[.pointer (some ⟨b9,0,none⟩),.int .i64 0] w fun e w'=>∃ (X':Px) (cs':Array Value) (pv':Value) (fs':List Fr) (id':Nat),e=.returned (.tuple #[])∧X1.Ext X'∧zK X'∧X'.S=X1.S∧EndAt cs' 0 X.p bk pv' id' (yF bk 0 p1 t1).2.key∧cs'.size=cs1.size∧PathOf X'.S bk (yF bk 0 p1 t1).1 fs'∧Den X'.S id' (yF bk 0 p1 t1).2∧St w ((pA X1).sep ((blk b9 (.cells cs1 246)).sep (zc ze 265 8 pv1 fs1))).fp [pA X',blk b9 (.cells cs' 246),zc ze 265 8 pv' fs'] w'):=zh fun w h=>by
    have:=down_c (m:=0) hin.ok (by rw [hin.ext.p];exact hin.at_) hdn hg1 (by rw [hin.same];exact hin.path) (lim:=1048576) (by omega) (by have:=GA.out.2;have:=hin.path.len;omega) (by omega) w h;refine this.mono ?_;rintro e w' ⟨X',cs',pv',fs',id',y0,y1,y2,y3,y4,y5,y6,y7,hb⟩;exact ⟨X',cs',pv',fs',id',y0,y1,y2,y3,by rw [← hin.ext.p];exact y4,y5.size,y6,y7,hb⟩
   have HFIN:Hid ((bk=false->EndL a 0 ((yF bk 0 p1 t1).1,some (yF bk 0 p1 t1).2) ((a.lay 0).take n))∧(bk=true->EndR a 0 ((yF bk 0 p1 t1).1,some (yF bk 0 p1 t1).2) ((a.lay 0).drop (a.len-n)))):=zh (by
    have hab:vp 0 p1:=fun f hf=>by have:=((hin.zip.gd GA.out.1).2 f hf).1;omega
    have hlen:=xP hg1;refine ⟨fun hb=>?_,fun hb=>?_⟩
    ·have h1:=hin.left hb;rw [qp (by omega)] at h1;subst hb;rw [← h1];exact downL t1 p1 hin.zip hg1 hab
    ·have h1:=hin.right hb;rw [show t1.len-n1=0 by omega,yw] at h1;subst hb;rw [← h1];exact downR t1 p1 hin.zip hg1 hab)
   obtain ⟨ky3,hky3⟩:∃ k,(yF bk 0 p1 t1).2.key=k:=⟨_,rfl⟩
   rw [hky3] at HDN;have HKY3:=zh hky3;clear hky3;have HEX:Hid (X.Ext X1∧X1.S=X.S):=zh ⟨hin.ext,hin.same⟩;clear hin hdn hg1 hroom hi hx ht ha1 hl1 hlt hnl;go_wp2_with (first|refine sL ?_|(refine sS ?_;clear H;intros;rename_i H)|(go_at_call 92;first|(with_reducible refine zm (HSZ.out _ (H.get pk)) ?_;rintro e wc ⟨rfl,hb⟩;replace H:=H.grew hb.below;clear hb))|(go_at_call 161;with_reducible refine zm (HDN.out _ ((St.join3 (H.pick3 (A:=pA X1) (B:=blk b9 (.cells cs1 246)) (C:=zc ze 265 8 pv1 fs1) pk pk pk)).sepK HK pk pk)) ?_;rintro e wc ⟨X2,cs3,pv3,fs3,id3,rfl,y1,y2,y3,y4,y5,y6,y7,hb⟩;have e9:=five_eq y4 (y5.trans HC5.out);subst e9;have HY:=zh (za y1 (za y2 (za y3 (za y6 y7))));clear y1 y2 y3 y4 y5 y6 y7;replace H:=zn ((St.join3 (H.pick3 (A:=pA X1) (B:=blk b9 (.cells cs1 246)) (C:=zc ze 265 8 pv1 fs1) pk pk pk)).call hb);clear hb;obtain ⟨ad3,c3,e3,_⟩:=zE (H.get (A:=zc ze 265 8 pv3 fs3) pk);subst e3));refine bodyPost_ret (xR rfl H rfl pk rfl) rfl ?_;have hy:=HY.out;exact ⟨X2,_,fs3,id3,ky3,((yF bk 0 p1 t1).1,some (yF bk 0 p1 t1).2),rfl,HEX.out.1.trans hy.1,hy.2.1,hy.2.2.1.trans HEX.out.2,hy.2.2.2.1,⟨hy.2.2.2.2,HKY3.out.symm⟩,HFIN.out.1,HFIN.out.2,H.picks (.cons pk (.cons pk .nil))⟩
end
section
open Go.RowKit Go.Maps
attribute [local go_sem] qt
def IdIs (S:Sto) (id:Nat) (s:List Tr):Prop:=(s=[]∧id=0)∨∃ T,Den S id T∧Canon T∧T.lay 0=s
theorem IdIs.le {S S':Sto} {id:Nat} {s:List Tr} (h:IdIs S id s) (hS:S.Ok) (hl:S.Le S'):IdIs S' id s:=by
 rcases h with h|⟨T,h1,h2⟩
 ·exact .inl h
 ·exact .inr ⟨T,h1.le hS hl,h2⟩
theorem kG {T:Tr} (h:Canon T):1<=(T.lay 0).length:=wS h.gd.2
theorem W4 {T:Tr} (h:Canon T) {m:Nat} (hm:T.lv<=m):xf (T.lay 0) m=[T]:=by rw [h.seq m,qG hm]
theorem Qo {T U:Tr} (h:Canon T) (k:Canon U) (e:T.lay 0=U.lay 0):T=U:=by
 have h1:=W4 h (Nat.le_max_left T.lv U.lv);have h2:=W4 k (Nat.le_max_right T.lv U.lv);rw [e,h2] at h1;injection h1 with h1
 exact h1.symm
theorem ZE {T:Tr} (h:Canon T) (hl:(T.lay 0).length<=1152921504606846976):T.lv<=25339:=by
 have h1:=kG h;obtain ⟨U,u1,u2,u3⟩:=Z5 h.leaves (fun e=>by rw [e] at h1;simp at h1) hl;have:=Qo h u1 u2.symm;subst this;obtain ⟨a,ha,hb⟩:=u3;rw [wv ha];exact hb
theorem IdIs.len {S:Sto} (hS:S.Ok) {id:Nat} {s:List Tr} (h:IdIs S id s):s.length<=1152921504606846976:=by
 rcases h with ⟨rfl,_⟩|⟨T,h1,h2,rfl⟩
 ·simp
 ·rw [xP h2.gd];exact Qp hS h1
theorem IdIs.leaves {S:Sto} {id:Nat} {s:List Tr} (h:IdIs S id s):xi s:=by
 rcases h with ⟨rfl,_⟩|⟨T,h1,h2,rfl⟩
 ·intro t ht;simp at ht
 ·exact h2.leaves
theorem IdIs.uniq {S:Sto} (hS:S.Ok) {a b:Nat} {s:List Tr} (h:IdIs S a s) (k:IdIs S b s):a=b:=by
 rcases h with ⟨rfl,rfl⟩|⟨T,h1,h2,rfl⟩
 ·rcases k with ⟨_,rfl⟩|⟨U,_,k2,k3⟩
  ·rfl
  ·have:=kG k2;rw [k3] at this;simp at this
 ·rcases k with ⟨k1,_⟩|⟨U,k1,k2,k3⟩
  ·have:=kG h2;rw [k1] at this;simp at this
  ·have:=Qo h2 k2 k3.symm;subst this;exact Den.id_inj hS h1 k1
theorem Xh:∀ {s:List Tr},xi s->xe s=s.length
 |[],_=>rfl
 |t::s,h=>by
  obtain ⟨b,rfl⟩:=h t (by simp);rw [yB,Xh (fun u hu=>h u (by simp [hu]))];simp [Tr.len];omega
theorem W5:∃ D,Canon D∧(D.lay 0).length=1∧D.lv<=25339:=by
 obtain ⟨D,h1,h2,_⟩:=Z5 (s:=[.leaf 0]) (fun t ht=>by simp at ht;exact ⟨0,ht⟩) (by simp) (by simp);exact ⟨D,h1,by rw [h2];rfl,ZE h1 (by rw [h2];simp)⟩
theorem side_left {S:Sto} (hS:S.Ok) {id i:Nat} {s:List Tr} (h:IdIs S id s) (hi:i<=s.length):∃ T,Canon T∧T.lv<=25339∧i<=(T.lay 0).length∧(T.lay 0).take i=s.take i∧(1<=i->Den S id T)∧(i=(T.lay 0).length->i=s.length):=by
 have hl:=h.len hS;rcases h with ⟨rfl,rfl⟩|⟨T,h1,h2,rfl⟩
 ·obtain ⟨D,d1,d2,d3⟩:=W5;have h0:i=0:=(by simpa using hi);subst h0;exact ⟨D,d1,d3,by omega,by simp,fun h=>by omega,fun h=>by omega⟩
 ·exact ⟨T,h2,ZE h2 hl,hi,rfl,fun _=>h1,fun h=>h⟩
theorem side_right {S:Sto} (hS:S.Ok) {id j:Nat} {s:List Tr} (h:IdIs S id s) (hj:j<=s.length):∃ T j',Canon T∧T.lv<=25339∧j'<=(T.lay 0).length∧(T.lay 0).length-j'=s.length-j∧(T.lay 0).drop j'=s.drop j∧(1<=s.length-j->Den S id T)∧(s.length-j=(T.lay 0).length->j=0):=by
 have hl:=h.len hS;rcases h with ⟨rfl,rfl⟩|⟨T,h1,h2,rfl⟩
 ·obtain ⟨D,d1,d2,d3⟩:=W5;have h0:j=0:=(by simpa using hj);subst h0;exact ⟨D,1,d1,d3,by omega,by rw [d2];simp,by rw [yo (by omega)];simp,fun h=>by simp at h,fun _=>rfl⟩
 ·have:=kG h2;exact ⟨T,j,h2,ZE h2 hl,hj,rfl,rfl,fun _=>h1,fun h=>by omega⟩
theorem kY {X:Px} {id:Nat} {s:List Tr} (hX:zK X) (hd:IdIs X.S id s) (w:World) (h:(pA X).ho w):Calls zb 92 #[.pointer (some ⟨X.p,0,none⟩),.int .i64 id] w fun e w'=>e=.returned (.int .i64 (s.length:Nat))∧St w [] [] w':=by
 rcases hd with ⟨rfl,rfl⟩|⟨T,h1,h2,rfl⟩
 ·have HK:=Ks.one h;have H:=St.nil w [];have HW:Hid (∀ w,(pA X).ho w->Calls zb 40 #[.pointer (some ⟨X.s,0,none⟩),.int .i64 0] w fun e w'=>e=.returned (.tuple #[.agg #[.int .i64 0,.int .i64 En.unit.w.lines,.int .i64 En.unit.w.head,.int .i64 En.unit.w.tail,.int .u64 En.unit.w.val,.int .u64 En.unit.w.scale],.nilIface])∧St w [] [] w'):=zh fun w h=>by
   exact km (i:=0) rfl w (jh h)
  have HS:Hid (∀ w,(pA X).ho w->Calls zb 53 #[.pointer (some ⟨X.p,0,none⟩)] w fun e w'=>e=.returned (.pointer (some ⟨X.s,0,none⟩))∧w'=w):=zh fun w h=>jH w h
  clear hX h;go_enter Tryz.func92,Tryz.ntmps92;go_wp2_with (first|refine sL ?_|(refine sS ?_;clear H;intros;rename_i H)|(go_at_call 53;refine same (HS.out _ (H.known HK pk)) ?_)|(go_at_call 40;with_reducible refine zm (HW.out _ (H.known HK pk)) ?_;rintro e wc ⟨rfl,hb⟩;replace H:=H.grew hb.below;clear hb));go_ret;exact ⟨rfl,H.nix⟩
 ·rw [xP h2.gd];exact size_p hX h1 w h
theorem Ye {X:Px} {id:Nat} {s:List Tr} (hX:zK X) (hd:IdIs X.S id s):∃ l,l<=25339∧∀ (X1:Px) (w:World),X.Ext X1->zK X1->X1.S=X.S->PH X1 w->Calls zb 91 #[.pointer (some ⟨X.p,0,none⟩),.int .i64 id] w (jL X1 (.tuple #[.int .i64 (l:Nat),.nilIface]) (pA X1).fp w):=by
 have hl:=hd.len hX.ok;rcases hd with ⟨rfl,rfl⟩|⟨T,h1,h2,rfl⟩
 ·refine ⟨0,by omega,fun X1 w q1 q2 q3 h=>?_⟩;have h:((pA X1).sep deA).ho w:=h;rw [qz] at h;have:=top_zero (X:=X1) w h.1;rw [q1.p] at this;refine this.mono ?_;rintro e w' ⟨rfl,rfl⟩;exact ⟨X1,.refl _,q2,rfl,rfl,St.one h.1⟩
 ·obtain ⟨a,ha⟩:=h2.gd.1;have hb:a<=25339:=(by rw [← wv ha];exact ZE h2 hl);refine ⟨a,hb,fun X1 w q1 q2 q3 h=>?_⟩;have:=top_p (X:=X1) q2 (by rw [q3];exact h1) w h;rw [q1.p,ha] at this;exact this
theorem Ze {X:Px} {T:Tr} {bk:Bool} {id n:Nat} (hX:zK X) (hd:1<=n->Den X.S id T) (hg:T.Gd) (hl:T.lv<=25339) (hn:n<=(T.lay 0).length) (w:World) (h:((pA X).sep deA).ho w) :
  Calls zb 147 #[.pointer (some ⟨X.p,0,none⟩),.int .i64 id,.int .i64 (n:Nat),.bool bk] w (XA X T bk n (pA X).fp w):=by
 rcases qk n with rfl|h0
 ·rw [qz] at h;exact VG hX hg w h.1
 ·rw [xP hg] at hn;exact newEnd_c hX (hd h0) hg hl h0 hn w h
end
section
open Go.RowKit Go.Maps
def IdL (S:Sto):List Nat->List (List Tr)->Prop
 |[],[]=>True
 |a::l,t::u=>IdIs S a t∧IdL S l u
 |_,_=>False
theorem IdL.len {S:Sto}:∀ {l:List Nat} {u:List (List Tr)},IdL S l u->l.length=u.length
 |[],[],_=>rfl
 |a::l,t::u,h=>by simp [IdL.len h.2]
 |[],_::_,h=>h.elim
 |_::_,[],h=>h.elim
theorem IdL.get {S:Sto}:∀ {l:List Nat} {u:List (List Tr)} {i:Nat} {a:Nat},IdL S l u->l[i]?=some a->∃ t,u[i]?=some t∧IdIs S a t
 |[],[],i,a,_,h=>by simp at h
 |b::l,t::u,0,a,h,e=>by
  simp only [Q9,yk.injEq] at e;subst e;exact ⟨t,rfl,h.1⟩
 |b::l,t::u,i+1,a,h,e=>by
  simp only [yN] at e ⊢;exact IdL.get h.2 e
 |[],_::_,_,_,h,_=>h.elim
 |_::_,[],_,_,h,_=>h.elim
theorem IdL.of {S:Sto}:∀ {l:List Nat} {u:List (List Tr)} {i:Nat} {t:List Tr},IdL S l u->u[i]?=some t->∃ a,l[i]?=some a∧IdIs S a t
 |[],[],i,a,_,h=>by simp at h
 |b::l,t::u,0,a,h,e=>by
  simp only [Q9,yk.injEq] at e;subst e;exact ⟨b,rfl,h.1⟩
 |b::l,t::u,i+1,a,h,e=>by
  simp only [yN] at e ⊢;exact IdL.of h.2 e
 |[],_::_,_,_,h,_=>h.elim
 |_::_,[],_,_,h,_=>h.elim
theorem IdL.le {S S':Sto} (hS:S.Ok) (hl:S.Le S'):∀ {l:List Nat} {u:List (List Tr)},IdL S l u->IdL S' l u
 |[],[],_=>trivial
 |a::l,t::u,h=>⟨h.1.le hS hl,IdL.le hS hl h.2⟩
 |[],_::_,h=>h.elim
 |_::_,[],h=>h.elim
theorem IdL.append {S:Sto}:∀ {l l':List Nat} {u u':List (List Tr)},IdL S l u->IdL S l' u'->IdL S (l++l') (u++u')
 |[],_,[],_,_,h=>h
 |a::l,_,t::u,_,h,k=>⟨h.1,IdL.append h.2 k⟩
 |[],_,_::_,_,h,_=>h.elim
 |_::_,_,[],_,h,_=>h.elim
theorem IdL.snoc {S:Sto} {l:List Nat} {u:List (List Tr)} {a:Nat} {t:List Tr} (h:IdL S l u) (ha:IdIs S a t):IdL S (l++[a]) (u++[t]):=h.append ⟨ha,trivial⟩
end
section
theorem step_cut {m:Nat} {a:Tr} (h:Canon a) {A C B:List Tr} (e:a.lay (m+1)=A++C++B) (hC:C.flatMap (Tr.lay m)≠[]):yc (m+1) (C.flatMap (Tr.lay m))=C:=by
 have e1:a.lay (m+1)=A++(C++B):=(by rw [e];simp);have hd:∀ y,(C.flatMap (Tr.lay m)).head?=some y->((C++B).flatMap (Tr.lay m)).head?=some y:=fun y hy=>by
  rw [zI];cases hq:C.flatMap (Tr.lay m) with
  |nil=>exact absurd hq hC
  |cons z l=>rw [hq] at hy;simpa using hy
 by_cases he:m%2=0
 ·obtain ⟨_,c2,c3⟩:=kg he h e1;obtain ⟨_,_,d3⟩:=kg he h e;have h1:=d3 [] (fun x y _ hy=>by simp at hy);have h2:=c3 (C.flatMap (Tr.lay m)) (fun x y hx hy=>c2 x y hx (hd y hy));rw [zI,qO,h2] at h1;have h3:runs ([]:List Tr)=[]:=rfl;rw [h3,qO] at h1;rw [xE he];exact List.append_cancel_left h1
 ·have ho:m%2=1:=(by omega);obtain ⟨_,c2,c3⟩:=ji ho h e1;obtain ⟨_,_,d3⟩:=ji ho h e;have h1:=d3 [] (fun x y _ _ hy=>by simp at hy);have h2:=c3 (C.flatMap (Tr.lay m)) (fun x y hx hl hy=>c2 x y hx hl (hd y hy));rw [zI,qO,h2] at h1;have h3:zH (fits (m+1)) ([]:List Tr)=[]:=(by simp [zH]);rw [h3,qO] at h1;rw [yH ho];exact List.append_cancel_left h1
theorem Canon.kid {a c:Tr} (h:Canon a) {j:Nat} (hj:(zR a)[j]?=some c):Canon c:=by
 have hc:=h.gd.kid (zy hj);have hk:zR a=(zR a).take j++c::(zR a).drop (j+1):=by
  have hlt:=yE hj;rw [zg hlt] at hj;injection hj with hj
  conv=>lhs;rw [← List.take_append_drop j (zR a),yj hlt,hj]
 have hlay:∀ m,m<a.lv->a.lay m=((zR a).take j).flatMap (Tr.lay m)++c.lay m++((zR a).drop (j+1)).flatMap (Tr.lay m):=fun m hm=>by
  rw [x7 hm];conv=>lhs;rw [hk]
  rw [zI,zt];simp
 refine ⟨fun t ht=>h.leaves t (by rw [hlay 0 (by omega)];simp [ht]),fun m=>?_⟩;induction m with
 |zero=>rfl
 |succ m ih =>
  show yc (m+1) (xf (c.lay 0) m)=c.lay (m+1)
  rw [ih];by_cases hm:c.lv<=m
  ·rw [qG hm,qG (Nat.le_succ_of_le hm),WT]
  ·have h1:=step_cut h (m:=m) (hlay (m+1) (by omega));rw [Zd (Nat.le_succ m) c] at h1;refine h1 fun e=>?_
   have:=wS (m:=m) hc.1.2;rw [e] at this;simp at this
theorem VL {s:Tr} {k:Nat} (h:(Tr.pow s k).Gd):(Tr.pow s k).lay 0=(zd k (s.lay 0)).flatten:=by
 have hk:2<=k:=h.2.2;rw [x7 (by have:=(h.kid (c:=s) (wq.2 ⟨by omega,rfl⟩)).2;omega)];simp [zR,jc]
end
end Go.Proofs.YtgnppnokkdghcaaGreatDoor
