/-
  Part 4 of the texts behind the statements of this seat: walks and laws Lj, Lk, Ll, Lm. Conditions: as each states.
-/
import Derived.Test.YtminpdngkjlehaaDoorCq3
set_option linter.unusedSimpArgs false
set_option linter.unusedVariables false
set_option maxRecDepth 100000
set_option maxHeartbeats 80000000
open Array renaming getElem?_toList→Zn
open Bool renaming eq_iff_iff→q5,or_eq_true→qK
open Go.Proofs.Tryd renaming func33→Xb,ntmps33→Y8,prog→z6
open List renaming append_assoc→y7,append_nil→xH,cons_append→z7,drop_eq_getElem_cons→wR,drop_of_length_le→xg,drop_succ_cons→wO,drop_zero→y8,ext_getElem?→yF,getElem?_append_left→zv,getElem?_append_right→qu,getElem?_eq_none→zu,length_cons→yZ,length_replicate→jE,map_cons→qU,map_nil→k6,mem_append→zt,mem_cons_self→zS,mem_of_getElem?→zc,mem_singleton→zV,nil_append→z8,replicate→zI,replicate_succ→QQ,set_cons_zero→zj,take_of_length_le→zM,take_zero→jG
open Nat renaming eq_of_testBit_eq→yV,eq_zero_or_pos→qR,le_mul_of_pos_right→Zp,le_refl→zp,lt_of_lt_of_le→qO,lt_or_ge→zD,mul_succ→YZ,or_lt_two_pow→yH,sub_self→Z6,succ_mul→Z7,testBit_or→qH,zero_add→qA,zero_le→zH
open Option renaming map_some→xj
namespace Go.Proofs.YtminpdngkjlehaaDoor
section
open Go.RowKit Go.Maps
attribute [local go_sem] qM
def WrC (P:zT) (r:Rx):Prop:=∀ {x:R8} {c:Chart} (bw:Nat) (sv fv:Value) (w:World),RxIn P x r->ChOk c->c.sets.length+r.pos<=64->(wA bw sv fv c).ho w->Ks w (wA bw sv fv c).fp [deA,zw P] ->
 Calls z6 33 #[.pointer (some ⟨bw,0,none⟩),.agg #[.int .i64 x.h.k,.int .u64 (x.h.s0:Nat),.int .u64 (x.h.s1:Nat),.int .u64 (x.h.s2:Nat),.int .u64 (x.h.s3:Nat),.int .i64 x.h.lo,.int .i64 x.h.hi,x.pv]] w (wE w bw sv fv c (r.re.write c))
theorem YT {c:Chart} {r:Re} (hr:r.Ok) (hc:ChOk c) (h64:(r.write c).2.sets.length<=64):(r.write c).1.Fit (r.write c).2.sets.length∧ChOk (r.write c).2:=by
 obtain ⟨⟨a1,a2,a3,a4⟩,h⟩:=VX hr hc h64;exact ⟨⟨a1,a2,a3,a4⟩,h⟩
theorem Pt.Fit.mono {p:Pt} {m n:Nat} (h:p.Fit m) (hmn:m<=n):p.Fit n:=⟨h.fb,h.lb,fun i hi=>qO (h.fp i hi) hmn,fun i hi=>qO (h.lp i hi) hmn⟩
theorem ChOk.link {c:Chart} {a b:Nat} (h:ChOk c) (hb:b<18446744073709551616):ChOk (c.link a b):=⟨by unfold Chart.link;rw [Xt];exact h.len,linkF_lt hb h.bd⟩
def L0Rel (w:World) (mm:Nat) (v1:Value) (wr:World):Prop:=mm=0∧v1=.int .u64 0∧St w [] [] wr
theorem link_0 (bw to:Nat) (w:World) :
  Calls z6 59 #[.pointer (some ⟨bw,0,none⟩),.int .u64 0,.int .u64 (to:Nat)] w fun e w'=>e=.returned (.tuple #[])∧St w [] [] w':=by
 have H:=St.nil w [];have HK:Ks w [] []:=Ks.nil w [];go_enter Tryd.func59,Tryd.ntmps59;go_wp2_with (first|refine sL ?_|(refine sS ?_;clear H;intros;rename_i H));go_loopg [1] 0 (fun mm v1 wr=>L0Rel w mm v1 wr);case atStart=>exact ⟨rfl,rfl,H⟩
 case round =>
  clear H;obtain ⟨rfl,rfl,H⟩:=hrel;go_wp2_with (first|refine sL ?_|(refine sS ?_;clear H;intros;rename_i H));refine bodyPost_end (results_none rfl _ _ _) rfl ?_;exact ⟨rfl,H⟩
theorem seq_z {bw:Nat} {a b:Pt} (hal:a.lst=0) (ha:a.fst<18446744073709551616) (hb:b.fst<18446744073709551616) (hbl:b.lst<18446744073709551616) (w:World) :
  Calls z6 47 #[.pointer (some ⟨bw,0,none⟩),.agg #[.bool a.nul,.int .u64 (a.fst:Nat),.int .u64 (a.lst:Nat)],.agg #[.bool b.nul,.int .u64 (b.fst:Nat),.int .u64 (b.lst:Nat)]] w fun e w'=>e=.returned (.agg #[.bool (qJ a b).nul,.int .u64 ((qJ a b).fst:Nat),.int .u64 ((qJ a b).lst:Nat)])∧St w [] [] w':=by
 have H:=St.nil w [];have HK:Ks w [] []:=Ks.nil w [];have hor1:=u64_or_nat a.fst b.fst ha hb;have hor2:=u64_or_nat b.lst 0 hbl (by omega);obtain ⟨an,af,al⟩:=a;obtain ⟨bn,bf,bl⟩:=b;simp only at hal hor1 hor2 ⊢;subst hal;have HLK:=zh (link_0 bw bf);unfold qJ;simp only;rw [Nat.or_zero] at hor2 ⊢;obtain ⟨o1,ho1⟩:∃ z,af ||| bf=z:=⟨_,rfl⟩
 rw [ho1] at hor1 ⊢;clear ho1 ha hb hbl;have hor3:bits .or .u64 (bl:Int) 0=(bl:Nat):=hor2;clear hor2;cases an <;> cases bn
 all_goals
  go_enter Tryd.func47,Tryd.ntmps47;go_wp2_with (first|refine sL ?_|(refine sS ?_;clear H;intros;rename_i H)|(go_at_call 59;with_reducible refine zm (HLK.out _) ?_;rintro e wc ⟨rfl,hb⟩;replace H:=H.grew hb.below;clear hb));refine bodyPost_ret (qy rfl H rfl pk rfl) rfl ?_;exact ⟨by simp,H.nix⟩
theorem YM {c:Chart} {bw:Nat} {sv fv:Value} {a b:Pt} (ha:a.Fit c.sets.length) (hb:b.Fit c.sets.length) (hc:ChOk c) (w:World) (h:(wA bw sv fv c).ho w) (h0:1 ∉ (wA bw sv fv c).fp) (hde:deA.ho w) :
  Calls z6 47 #[.pointer (some ⟨bw,0,none⟩),.agg #[.bool a.nul,.int .u64 (a.fst:Nat),.int .u64 (a.lst:Nat)],.agg #[.bool b.nul,.int .u64 (b.fst:Nat),.int .u64 (b.lst:Nat)]] w fun e w'=>e=.returned (.agg #[.bool (qJ a b).nul,.int .u64 ((qJ a b).fst:Nat),.int .u64 ((qJ a b).lst:Nat)])∧St w (wA bw sv fv c).fp [wA bw sv fv (c.link a.lst b.fst)] w':=by
 rcases qR c.sets.length with hz|hn
 ·have hal:a.lst=0:=yV fun i=>by
   rw [Nat.zero_testBit];cases e:a.lst.testBit i
   ·rfl
   ·have:=ha.lp i e;omega
  refine zm (seq_z hal ha.fb hb.fb hb.lb w) ?_;rintro e w' ⟨rfl,h1⟩;refine ⟨rfl,?_⟩;have hcl:c.link a.lst b.fst=c:=by
   rw [hal];unfold Chart.link;rw [Q8]
  rw [hcl];exact (St.one h).grew h1.below
 have H:=(St.one h).open_w;have HK:Ks w (wA bw sv fv c).fp [deA]:=Ks.cons hde (by rw [wt];intro z hz;simp only [zV] at hz;subst hz;exact h0) (Ks.nil w _);obtain ⟨gf,cf,rfl,_⟩:=qF (H.get (A:=zi qY 32 1 fv c.fol) pk) (by rw [hc.len];exact hn);have H2:=(H.pick2 (A:=blk bw (.cells #[sv,.slice (some ⟨gf,0,none⟩) c.fol.length cf] 79)) (B:=zi qY 32 1 (.slice (some ⟨gf,0,none⟩) c.fol.length cf) c.fol) pk pk).join;have hk2:=H2.ksub HK zS;refine zm (seq_s (by rw [hc.len];exact ha) (by rw [hc.len];exact hb) rfl hc.bd w (H2.ho _ zS) (fun h9=>hk2.apart deA (by simp) 1 (by rw [wt];simp) h9) hde) ?_;rintro e w' ⟨rfl,h1⟩;refine ⟨rfl,?_⟩;have h2:=H2.call h1;simp only [z7,z8] at h2;have h3:=h2.sep;have hl:(c.link a.lst b.fst).fol=xM c.fol a.lst b.fst:=rfl;have hs:(c.link a.lst b.fst).sets=c.sets:=rfl;refine St.shut_w (R:=[]) ?_;rw [hl,hs];exact h3.picks (.cons pk (.cons pk (.cons pk .nil)))
def SqRel (w:World) (N:List Nat) (bw b3 b4 b6:Nat) (c:Chart) (hh:Hd) (pvx:Value) (l:List Rx) (n:Nat) (mm:Nat) (v52:Value) (wr:World):Prop :=
 ∃ (i:Nat) (sv fv:Value) (A:Pt) (c1:Chart),mm=n-i∧i<=n∧v52=.int .i64 i∧(A,c1)=Re.writeSeq (Rx.reL (l.take i)) ⟨true,0,0⟩ c∧ChOk c1∧A.Fit c1.sets.length∧c1.sets.length=c.sets.length+Rx.posL (l.take i)∧St w N [wA bw sv fv c1,blk b3 (.cells #[.int .i64 3,.int .u64 (hh.s0:Nat),.int .u64 (hh.s1:Nat),.int .u64 (hh.s2:Nat),.int .u64 (hh.s3:Nat),.int .i64 hh.lo,.int .i64 hh.hi,pvx] 37),blk b4 (.cells #[.bool false,.int .u64 0,.int .u64 0] 81),blk b6 (.cells #[.bool A.nul,.int .u64 (A.fst:Nat),.int .u64 (A.lst:Nat)] 81)] wr
attribute [local irreducible] wA
attribute [local go_sem] StStep Jj Zi in
theorem VZ {P:zT} {hh:Hd} {l:List Rx} (hk:hh.k=3) (hv:(Rx.mk hh l).valid=true) (hrec:∀ p∈l,WrC P p):WrC P (.mk hh l):=by
 intro x c bw sv fv w hx hc hlen h k9;have hv':=Rx.valid_iff.1 hv;have H:=St.one h;have HKs:=k9;obtain ⟨rows,hhd,hfit,hrow,hrl,hrx⟩:=hx.inv;simp only [Rx.hd,Rx.ps] at hhd hrl hrx hv';subst hhd;have hre:(Rx.mk x.h l).re=.seq (Rx.reL l):=(by rw [Rx.re,if_neg (by omega),if_pos hk]);have hpos:(Rx.mk x.h l).pos=Rx.posL l:=(by rw [Rx.pos];simp [Hd.cop,hk]);rw [hpos] at hlen;rw [hre];unfold wE;obtain ⟨N,hN⟩:∃ N,(wA bw sv fv c).fp=N:=⟨_,rfl⟩
 rw [hN] at H HKs ⊢;have HK:=HKs;obtain ⟨ad,cp,epv,hml⟩:=hrow.shape;obtain ⟨hx',pv⟩:=x;simp only at epv hk hrow hc ⊢;subst epv;obtain ⟨n,hn⟩:∃ z,rows.length=z:=⟨_,rfl⟩
 rw [hn] at hrow hrl hml ⊢;simp only [maxLen] at hml;have HRW:=zh (za hrow (za hrl.symm (za hrx hn)));have HREC:=zh hrec;have HVL:=zh hv'.2;have HC:=zh (za hc hlen);clear h k9 HKs hx hv hv' hfit hrow hrl hrx hn hrec hc hlen hre hpos hN;rw [hk];clear hk;go_enter Xb,Y8;go_wp2_with (first|refine sL ?_|(refine sS ?_;clear H;intros;rename_i H));rename_i b3 _ b4 _ _ _ b6 _ _ _ _;go_loopg [52] n (fun mm v52 wr=>SqRel w N bw b3 b4 b6 c hx' (.slice ad n cp) l n mm v52 wr);case atStart=>exact ⟨0,sv,fv,⟨true,0,0⟩,c,rfl,zH _,rfl,rfl,HC.out.1,⟨by decide,by decide,fun i hi=>by simp at hi,fun i hi=>by simp at hi⟩,rfl,H.picks (.cons pk (.cons pk (.cons pk (.cons pk .nil))))⟩
 case round =>
  clear H;obtain ⟨i,sv1,fv1,A,c1,rfl,hi,rfl,hA,hc1,hfA,hlc,H⟩:=hrel;have HA:=zh (za hA (za hc1 (za hfA hlc)));clear hA hc1 hfA hlc;by_cases hlt:i<n
  ·have f1:decide ((i:Int)<(n:Int))=true:=(by simp;omega);have f1n:decide (i<n)=true:=(by simp;omega);obtain ⟨p,hp⟩:∃ p,l[i]?=some p:=⟨_,zg (by rw [HRW.out.2.1];exact hlt)⟩
   obtain ⟨y,hy⟩:∃ y,rows[i]?=some y:=⟨_,zg (by rw [HRW.out.2.2.2];exact hlt)⟩
   have hrx:=HRW.out.2.2.1 i y p hy hp;obtain ⟨gp,op,rfl,hrg⟩:∃ g o,ad=some ⟨g,o,none⟩∧∀ w,(zw P).ho w->w.rangeAt g (o+i*8) (xE y):=by
    have hr:=HRW.out.1;obtain ⟨ad',c',e1,_,h3⟩:=id hr;obtain ⟨b,o,rfl,_⟩:=h3 (by have:=zP hy;omega);injection e1 with e1 _ _
    subst e1;exact ⟨b,o,rfl,fun w h=>hr.rng (xB h) wJ hy⟩
   obtain ⟨ady,ny,cy,ey⟩:∃ a n c,y.pv=.slice a n c:=by
    obtain ⟨r9,_,_,h3,_⟩:=hrx.inv;obtain ⟨a9,c9,e9,_⟩:=h3.shape;exact ⟨a9,_,c9,e9⟩
   have hpm:=zc hp;have hpv:=HVL.out p hpm;have hpos:c1.sets.length+p.pos<=64:=by
    have h1:=vP hp;have h2:=KZ (l:=l) (i:=i+1);have h3:=HC.out.2;have h4:=HA.out.2.2.2;omega
   have hre9:=Rx.re_len hpv c1;obtain ⟨hft,hch⟩:=YT (Rx.re_ok hpv) HA.out.2.1 (by rw [hre9];exact hpos);have hwr:=fun (sv fv:Value) (w:World) (h:(wA bw sv fv c1).ho w) (k:Ks w (wA bw sv fv c1).fp [deA,zw P])=>HREC.out p hpm (c:=c1) bw sv fv w hrx HA.out.2.1 hpos h k
   have hsnoc:=Jg (Rx.reL (l.take i)) p.re ⟨true,0,0⟩ c;rw [← Jb hp,← HA.out.1] at hsnoc;have hpl:=vP hp;obtain ⟨⟨⟨pn,pf,pl⟩,c2⟩,hres⟩:∃ z,p.re.write c1=z:=⟨_,rfl⟩
   unfold wE at hwr;rw [hres] at hwr hft hch hsnoc hre9;simp only at hwr hft hch hsnoc hre9;obtain ⟨⟨yk,y0,y1,y2,y3,ylo,yhi⟩,pvy⟩:=y;simp only at ey;subst ey;simp only at hwr hrg;have HWR:=zh hwr;have HRG:Hid (∀ w,(zw P).ho w->w.rangeAt gp (op+i*8) [.int .i64 yk,.int .u64 (y0:Nat),.int .u64 (y1:Nat),.int .u64 (y2:Nat),.int .u64 (y3:Nat),.int .i64 ylo,.int .i64 yhi,.slice ady ny cy]):=zh hrg;have HSQ:Hid (∀ (sv fv:Value) (w:World),(wA bw sv fv c2).ho w->Ks w (wA bw sv fv c2).fp [deA,zw P]->Calls z6 47 #[.pointer (some ⟨bw,0,none⟩),.agg #[.bool A.nul,.int .u64 (A.fst:Nat),.int .u64 (A.lst:Nat)],.agg #[.bool pn,.int .u64 (pf:Nat),.int .u64 (pl:Nat)]] w fun e w'=>e=.returned (.agg #[.bool (qJ A ⟨pn,pf,pl⟩).nul,.int .u64 ((qJ A ⟨pn,pf,pl⟩).fst:Nat),.int .u64 ((qJ A ⟨pn,pf,pl⟩).lst:Nat)])∧St w (wA bw sv fv c2).fp [wA bw sv fv (c2.link A.lst pf)] w'):=zh fun sv fv w h k =>
    YM (b:=⟨pn,pf,pl⟩) (HA.out.2.2.1.mono (by rw [hre9];omega)) hft hch w h (fun h9=>k.apart deA (by simp) 1 (by rw [wt];simp) h9) (k.ho deA (by simp))
   obtain ⟨⟨sn,sf,sl⟩,hsq⟩:∃ z,qJ A ⟨pn,pf,pl⟩=z:=⟨_,rfl⟩
   rw [hsq] at HSQ hsnoc;simp only at HSQ hsnoc;have HNX:Hid ((⟨sn,sf,sl⟩,c2.link A.lst pf)=Re.writeSeq (Rx.reL (l.take (i+1))) ⟨true,0,0⟩ c∧ChOk (c2.link A.lst pf)∧(Pt.mk sn sf sl).Fit (c2.link A.lst pf).sets.length∧(c2.link A.lst pf).sets.length=c.sets.length+Rx.posL (l.take (i+1))):=zh ⟨hsnoc.symm,hch.link hft.fb,by
    rw [← hsq];exact (HA.out.2.2.1.mono (by show c1.sets.length<=c2.sets.length;rw [hre9];omega)).seq hft,by
    show c2.sets.length=_
    rw [hre9,hpl,HA.out.2.2.2];omega⟩
   obtain ⟨an,af,al⟩:=A;clear hwr hrg hp hy hrx hpm hpv hpos hre9 hft hch hsnoc hpl hres hsq;simp only at HSQ HNX;go_wp2_with (first|refine sL ?_|(refine sS ?_;clear H;intros;rename_i H)|((with_reducible refine qN ?_);refine AtLoad.rngT rfl rfl rfl (HRG.out _ (H.known (A:=zw P) HK pk)) rfl ?_;simp only [Act.put,puA,puB,puC]));rename_i b8 _ _;replace H:=H.picks (.cons (A:=wA bw sv1 fv1 c1) pk (.cons (A:=blk b3 (.cells #[.int .i64 3,.int .u64 (hx'.s0:Nat),.int .u64 (hx'.s1:Nat),.int .u64 (hx'.s2:Nat),.int .u64 (hx'.s3:Nat),.int .i64 hx'.lo,.int .i64 hx'.hi,.slice (some ⟨gp,op,none⟩) n cp] 37)) pk (.cons (A:=blk b4 (.cells #[.bool false,.int .u64 0,.int .u64 0] 81)) pk (.cons (A:=blk b6 (.cells #[.bool an,.int .u64 (af:Nat),.int .u64 (al:Nat)] 81)) pk (.cons (A:=blk b8 (.cells #[.int .i64 yk,.int .u64 (y0:Nat),.int .u64 (y1:Nat),.int .u64 (y2:Nat),.int .u64 (y3:Nat),.int .i64 ylo,.int .i64 yhi,.slice ady ny cy] 37)) pk .nil)))));refine wl 6 [⟨[],fun v _=>v=.pointer (some ⟨bw,0,none⟩)⟩,⟨[],fun v _=>v=.agg #[.bool an,.int .u64 (af:Nat),.int .u64 (al:Nat)]⟩,⟨[],fun v _=>v=.pointer (some ⟨bw,0,none⟩)⟩,⟨[],fun v _=>v=.agg #[.int .i64 yk,.int .u64 (y0:Nat),.int .u64 (y1:Nat),.int .u64 (y2:Nat),.int .u64 (y3:Nat),.int .i64 ylo,.int .i64 yhi,.slice ady ny cy]⟩,⟨[2,3],fun v _=>v=.agg #[.bool pn,.int .u64 (pf:Nat),.int .u64 (pl:Nat)]⟩,⟨[0,1,4],fun v _=>v=.agg #[.bool sn,.int .u64 (sf:Nat),.int .u64 (sl:Nat)]⟩] [4,5] [[0,1],[0,1],[0],[0],[0],[1]] [fun _ wx=>St w N [wA bw sv1 fv1 c1,blk b3 (.cells #[.int .i64 3,.int .u64 (hx'.s0:Nat),.int .u64 (hx'.s1:Nat),.int .u64 (hx'.s2:Nat),.int .u64 (hx'.s3:Nat),.int .i64 hx'.lo,.int .i64 hx'.hi,.slice (some ⟨gp,op,none⟩) n cp] 37),blk b4 (.cells #[.bool false,.int .u64 0,.int .u64 0] 81),blk b6 (.cells #[.bool an,.int .u64 (af:Nat),.int .u64 (al:Nat)] 81),blk b8 (.cells #[.int .i64 yk,.int .u64 (y0:Nat),.int .u64 (y1:Nat),.int .u64 (y2:Nat),.int .u64 (y3:Nat),.int .i64 ylo,.int .i64 yhi,.slice ady ny cy] 37)] wx,fun _ wx=>∃ (sv2 fv2:Value),St w N [wA bw sv2 fv2 c2,blk b3 (.cells #[.int .i64 3,.int .u64 (hx'.s0:Nat),.int .u64 (hx'.s1:Nat),.int .u64 (hx'.s2:Nat),.int .u64 (hx'.s3:Nat),.int .i64 hx'.lo,.int .i64 hx'.hi,.slice (some ⟨gp,op,none⟩) n cp] 37),blk b4 (.cells #[.bool false,.int .u64 0,.int .u64 0] 81),blk b6 (.cells #[.bool an,.int .u64 (af:Nat),.int .u64 (al:Nat)] 81),blk b8 (.cells #[.int .i64 yk,.int .u64 (y0:Nat),.int .u64 (y1:Nat),.int .u64 (y2:Nat),.int .u64 (y3:Nat),.int .i64 ylo,.int .i64 yhi,.slice ady ny cy] 37)] wx,fun _ wx=>∃ (sv2 fv2:Value),St w N [wA bw sv2 fv2 (c2.link al pf),blk b3 (.cells #[.int .i64 3,.int .u64 (hx'.s0:Nat),.int .u64 (hx'.s1:Nat),.int .u64 (hx'.s2:Nat),.int .u64 (hx'.s3:Nat),.int .i64 hx'.lo,.int .i64 hx'.hi,.slice (some ⟨gp,op,none⟩) n cp] 37),blk b4 (.cells #[.bool false,.int .u64 0,.int .u64 0] 81),blk b6 (.cells #[.bool an,.int .u64 (af:Nat),.int .u64 (al:Nat)] 81),blk b8 (.cells #[.int .i64 yk,.int .u64 (y0:Nat),.int .u64 (y1:Nat),.int .u64 (y2:Nat),.int .u64 (y3:Nat),.int .i64 ylo,.int .i64 yhi,.slice ady ny cy] 37)] wx]
    [[],[],[],[],[(2,58),(3,59)],[(0,56),(1,57),(4,60)]] [(0,56),(1,57),(2,58),(3,59),(4,60),(5,61)] (by kernel_rfl) (by kernel_rfl) H.drew ⟨⟨qo,qo,trivial⟩,⟨ql,ql,trivial⟩,⟨qo,trivial⟩,⟨ql,trivial⟩,⟨?_,trivial⟩,⟨?_,trivial⟩,trivial⟩ ?_
   ·intro vals wx hd HC;simp only [GF] at hd;have H:=HC;simp only [CA] at H;simp only [PS,hd];clear HC;go_simp;with_reducible refine zm (HWR.out _ _ _ (H.get pk) (H.ksub HK (by simp))) ?_
    rintro e wc ⟨rfl,sv2,fv2,hb⟩;have H2:=(H.pick pk).call hb;simp only [z7,z8] at H2;first|exact ⟨_,rfl,rfl,sv2,fv2,H2.picks (.cons pk (.cons pk (.cons pk (.cons pk (.cons pk .nil)))))⟩|exact ⟨_,rfl,sv2,fv2,H2.picks (.cons pk (.cons pk (.cons pk (.cons pk (.cons pk .nil)))))⟩
   ·intro vals wx hd HC;simp only [GF] at hd;have H:=HC;simp only [CA] at H;obtain ⟨sv2,fv2,H⟩:=H;simp only [PS,hd];clear HC;go_simp;with_reducible refine zm (HSQ.out _ _ _ (H.get pk) (H.ksub HK (by simp))) ?_
    rintro e wc ⟨rfl,hb⟩;have H2:=(H.pick pk).call hb;simp only [z7,z8] at H2;first|exact ⟨_,rfl,rfl,sv2,fv2,H2.picks (.cons pk (.cons pk (.cons pk (.cons pk (.cons pk .nil)))))⟩|exact ⟨_,rfl,sv2,fv2,H2.picks (.cons pk (.cons pk (.cons pk (.cons pk (.cons pk .nil)))))⟩
   intro vals wx hd HC;simp only [CA] at HC;obtain ⟨sv2,fv2,H⟩:=HC;simp only [GF] at hd;simp only [PS,hd];clear hd;go_wp2_with (first|refine sL ?_|(refine sS ?_;clear H;intros;rename_i H));go_roundg (n-(i+1));case measure=>omega
   case rel=>exact ⟨i+1,sv2,fv2,⟨sn,sf,sl⟩,c2.link al pf,rfl,by omega,by go_num,HNX.out.1,HNX.out.2.1,HNX.out.2.2.1,HNX.out.2.2.2,H.picks (.cons pk (.cons pk (.cons pk (.cons pk .nil))))⟩
  ·have f1:decide ((i:Int)<(n:Int))=false:=(by simp;omega);have f1n:decide (i<n)=false:=(by simp;omega);obtain rfl:n=i:=by omega
   have hfin:(A,c1)=Re.writeSeq (Rx.reL l) ⟨true,0,0⟩ c:=by
    have:=HA.out.1;rw [zM (by rw [HRW.out.2.1];exact zp _)] at this;exact this
   have HFIN:=zh hfin;clear hfin;go_wp2_with (first|refine sL ?_|(refine sS ?_;clear H;intros;rename_i H));refine bodyPost_ret (qy rfl H rfl pk rfl) rfl ?_;rw [Re.write,← HFIN.out];exact ⟨rfl,sv1,fv1,H.picks (.cons pk .nil)⟩
end
section
open Go.RowKit Go.Maps
attribute [local go_sem] qM
def AlRel (w:World) (N:List Nat) (bw b3 b4 b6:Nat) (c:Chart) (hh:Hd) (pvx:Value) (l:List Rx) (n:Nat) (mm:Nat) (v69:Value) (wr:World):Prop :=
 ∃ (i:Nat) (sv fv:Value) (A:Pt) (c1:Chart),mm=n-i∧i<=n∧v69=.int .i64 i∧(A,c1)=Re.writeAlt (Rx.reL (l.take i)) ⟨false,0,0⟩ c∧ChOk c1∧A.Fit c1.sets.length∧c1.sets.length=c.sets.length+Rx.posL (l.take i)∧St w N [wA bw sv fv c1,blk b3 (.cells #[.int .i64 4,.int .u64 (hh.s0:Nat),.int .u64 (hh.s1:Nat),.int .u64 (hh.s2:Nat),.int .u64 (hh.s3:Nat),.int .i64 hh.lo,.int .i64 hh.hi,pvx] 37),blk b4 (.cells #[.bool false,.int .u64 0,.int .u64 0] 81),blk b6 (.cells #[.bool A.nul,.int .u64 (A.fst:Nat),.int .u64 (A.lst:Nat)] 81)] wr
attribute [local irreducible] wA
theorem VV {P:zT} {hh:Hd} {l:List Rx} (hk:hh.k=4) (hv:(Rx.mk hh l).valid=true) (hrec:∀ p∈l,WrC P p):WrC P (.mk hh l):=by
 intro x c bw sv fv w hx hc hlen h k9;have hv':=Rx.valid_iff.1 hv;have H:=St.one h;have HKs:=k9;obtain ⟨rows,hhd,hfit,hrow,hrl,hrx⟩:=hx.inv;simp only [Rx.hd,Rx.ps] at hhd hrl hrx hv';subst hhd;have hre:(Rx.mk x.h l).re=.alt (Rx.reL l):=(by rw [Rx.re,if_neg (by omega),if_neg (by omega),if_pos hk]);have hpos:(Rx.mk x.h l).pos=Rx.posL l:=(by rw [Rx.pos];simp [Hd.cop,hk]);rw [hpos] at hlen;rw [hre];unfold wE;obtain ⟨N,hN⟩:∃ N,(wA bw sv fv c).fp=N:=⟨_,rfl⟩
 rw [hN] at H HKs ⊢;have HK:=HKs;obtain ⟨ad,cp,epv,hml⟩:=hrow.shape;obtain ⟨hx',pv⟩:=x;simp only at epv hk hrow hc ⊢;subst epv;obtain ⟨n,hn⟩:∃ z,rows.length=z:=⟨_,rfl⟩
 rw [hn] at hrow hrl hml ⊢;simp only [maxLen] at hml;have HRW:=zh (za hrow (za hrl.symm (za hrx hn)));have HREC:=zh hrec;have HVL:=zh hv'.2;have HC:=zh (za hc hlen);clear h k9 HKs hx hv hv' hfit hrow hrl hrx hn hrec hc hlen hre hpos hN;rw [hk];clear hk;go_enter Xb,Y8;go_wp2_with (first|refine sL ?_|(refine sS ?_;clear H;intros;rename_i H));rename_i b3 _ b4 _ _ _ b6 _ _ _;go_loopg [69] n (fun mm v69 wr=>AlRel w N bw b3 b4 b6 c hx' (.slice ad n cp) l n mm v69 wr);case atStart=>exact ⟨0,sv,fv,⟨false,0,0⟩,c,rfl,zH _,rfl,rfl,HC.out.1,⟨by decide,by decide,fun i hi=>by simp at hi,fun i hi=>by simp at hi⟩,rfl,H.picks (.cons pk (.cons pk (.cons pk (.cons pk .nil))))⟩
 case round =>
  clear H;obtain ⟨i,sv1,fv1,A,c1,rfl,hi,rfl,hA,hc1,hfA,hlc,H⟩:=hrel;have HA:=zh (za hA (za hc1 (za hfA hlc)));clear hA hc1 hfA hlc;by_cases hlt:i<n
  ·have f1:decide ((i:Int)<(n:Int))=true:=(by simp;omega);have f1n:decide (i<n)=true:=(by simp;omega);obtain ⟨p,hp⟩:∃ p,l[i]?=some p:=⟨_,zg (by rw [HRW.out.2.1];exact hlt)⟩
   obtain ⟨y,hy⟩:∃ y,rows[i]?=some y:=⟨_,zg (by rw [HRW.out.2.2.2];exact hlt)⟩
   have hrx:=HRW.out.2.2.1 i y p hy hp;obtain ⟨gp,op,rfl,hrg⟩:∃ g o,ad=some ⟨g,o,none⟩∧∀ w,(zw P).ho w->w.rangeAt g (o+i*8) (xE y):=by
    have hr:=HRW.out.1;obtain ⟨ad',c',e1,_,h3⟩:=id hr;obtain ⟨b,o,rfl,_⟩:=h3 (by have:=zP hy;omega);injection e1 with e1 _ _
    subst e1;exact ⟨b,o,rfl,fun w h=>hr.rng (xB h) wJ hy⟩
   obtain ⟨ady,ny,cy,ey⟩:∃ a n c,y.pv=.slice a n c:=by
    obtain ⟨r9,_,_,h3,_⟩:=hrx.inv;obtain ⟨a9,c9,e9,_⟩:=h3.shape;exact ⟨a9,_,c9,e9⟩
   have hpm:=zc hp;have hpv:=HVL.out p hpm;have hpos:c1.sets.length+p.pos<=64:=by
    have h1:=vP hp;have h2:=KZ (l:=l) (i:=i+1);have h3:=HC.out.2;have h4:=HA.out.2.2.2;omega
   have hre9:=Rx.re_len hpv c1;obtain ⟨hft,hch⟩:=YT (Rx.re_ok hpv) HA.out.2.1 (by rw [hre9];exact hpos);have hwr:=fun (sv fv:Value) (w:World) (h:(wA bw sv fv c1).ho w) (k:Ks w (wA bw sv fv c1).fp [deA,zw P])=>HREC.out p hpm (c:=c1) bw sv fv w hrx HA.out.2.1 hpos h k
   have hsnoc:=Wq (Rx.reL (l.take i)) p.re ⟨false,0,0⟩ c;rw [← Jb hp,← HA.out.1] at hsnoc;have hpl:=vP hp;obtain ⟨⟨⟨pn,pf,pl⟩,c2⟩,hres⟩:∃ z,p.re.write c1=z:=⟨_,rfl⟩
   unfold wE at hwr;rw [hres] at hwr hft hch hsnoc hre9;simp only at hwr hft hch hsnoc hre9;obtain ⟨⟨yk,y0,y1,y2,y3,ylo,yhi⟩,pvy⟩:=y;simp only at ey;subst ey;simp only at hwr hrg;have HWR:=zh hwr;have HRG:Hid (∀ w,(zw P).ho w->w.rangeAt gp (op+i*8) [.int .i64 yk,.int .u64 (y0:Nat),.int .u64 (y1:Nat),.int .u64 (y2:Nat),.int .u64 (y3:Nat),.int .i64 ylo,.int .i64 yhi,.slice ady ny cy]):=zh hrg;have hor1:=u64_or_nat A.fst pf HA.out.2.2.1.fb hft.fb;have hor2:=u64_or_nat A.lst pl HA.out.2.2.1.lb hft.lb;have hfa:A.Fit c2.sets.length:=HA.out.2.2.1.mono (by rw [hre9];omega);have hffit:(wS A ⟨pn,pf,pl⟩).Fit c2.sets.length:=⟨yH (n:=64) hfa.fb hft.fb,yH (n:=64) hfa.lb hft.lb,fun i hi=>by
    have:(A.fst ||| pf).testBit i=true:=hi;rw [qH,qK] at this;exact this.elim (hfa.fp i) (hft.fp i),fun i hi=>by
    have:(A.lst ||| pl).testBit i=true:=hi;rw [qH,qK] at this;exact this.elim (hfa.lp i) (hft.lp i)⟩
   have HNX:Hid ((wS A ⟨pn,pf,pl⟩,c2)=Re.writeAlt (Rx.reL (l.take (i+1))) ⟨false,0,0⟩ c∧ChOk c2∧(wS A ⟨pn,pf,pl⟩).Fit c2.sets.length∧c2.sets.length=c.sets.length+Rx.posL (l.take (i+1))):=zh ⟨hsnoc.symm,hch,hffit,by
    rw [hre9,hpl,HA.out.2.2.2];omega⟩
   obtain ⟨an,af,al⟩:=A;simp only at hor1 hor2 HNX;unfold wS at HNX;simp only at HNX;obtain ⟨o1,ho1⟩:∃ z,af ||| pf=z:=⟨_,rfl⟩
   obtain ⟨o2,ho2⟩:∃ z,al ||| pl=z:=⟨_,rfl⟩
   rw [ho1] at hor1 HNX;rw [ho2] at hor2 HNX;clear hwr hrg hp hy hrx hpm hpv hpos hre9 hft hch hsnoc hpl hres hfa hffit ho1 ho2;cases an <;> cases pn
   all_goals
    go_wp2_with (first|refine sL ?_|(refine sS ?_;clear H;intros;rename_i H)|((with_reducible refine qN ?_);refine AtLoad.rngT rfl rfl rfl (HRG.out _ (H.known (A:=zw P) HK pk)) rfl ?_;simp only [Act.put,puA,puB,puC]));refine zm (HWR.out _ _ _ (H.get pk) (H.ksub HK (by simp))) ?_;rintro e wc ⟨rfl,sv2,fv2,hb⟩;replace H:=(H.pick pk).call hb;simp only [z7,z8] at H;clear hb;go_wp2_with (first|refine sL ?_|(refine sS ?_;clear H;intros;rename_i H));go_roundg (n-(i+1));case measure=>omega
    case rel=>exact ⟨i+1,sv2,fv2,_,c2,rfl,by omega,by go_num,HNX.out.1,HNX.out.2.1,HNX.out.2.2.1,HNX.out.2.2.2,H.picks (.cons pk (.cons pk (.cons pk (.cons pk .nil))))⟩
  ·have f1:decide ((i:Int)<(n:Int))=false:=(by simp;omega);have f1n:decide (i<n)=false:=(by simp;omega);obtain rfl:n=i:=by omega
   have hfin:(A,c1)=Re.writeAlt (Rx.reL l) ⟨false,0,0⟩ c:=by
    have:=HA.out.1;rw [zM (by rw [HRW.out.2.1];exact zp _)] at this;exact this
   have HFIN:=zh hfin;clear hfin;go_wp2_with (first|refine sL ?_|(refine sS ?_;clear H;intros;rename_i H));refine bodyPost_ret (qy rfl H rfl pk rfl) rfl ?_;rw [Re.write,← HFIN.out];exact ⟨rfl,sv1,fv1,H.picks (.cons pk .nil)⟩
end
section
open Go.RowKit Go.Maps
attribute [local go_sem] qM
theorem VC {α:Type} {enc:α->List Value} {k:Nat} (hk:∀ x,(enc x).length=k) (hk0:0<k) {x0:α} {cz:Array Value} (hz:cz.toList=enc x0) (n:Nat):(madeCells cz (n*k)).toList=zX enc (zI n x0):=by
 have hs:cz.size=k:=(by rw [← hk x0,← hz];rfl);have hr:∀ (n i:Nat),i<n*k->(zX enc (zI n x0))[i]?=(enc x0)[i%k]?:=by
  intro n;induction n with
  |zero=>intro i hi;omega
  |succ n ih =>
   intro i hi;have e:zX enc (zI (n+1) x0)=enc x0++zX enc (zI n x0):=rfl;rw [e];rcases zD i k with h|h
   ·rw [zv (by rw [hk];exact h),Nat.mod_eq_of_lt h]
   ·have hi2:i-k<n*k:=(by rw [Z7] at hi;omega);rw [qu (by rw [hk];exact h),hk,ih _ hi2,Nat.mod_eq_sub_mod h]
 apply yF;intro i;rcases zD i (n*k) with h|h
 ·rw [hr n i h,← hz];have hm:i%k<cz.size:=(by rw [hs];exact Nat.mod_lt _ hk0);unfold madeCells;rw [Zn,Array.getElem?_map,Array.getElem?_range,if_pos h];simp only [xj,hs];rw [getElem!_pos cz (i%k) hm,Zn,Array.getElem?_eq_getElem hm]
 ·have h1:(zX enc (zI n x0))[i]?=none:=zu (by rw [qz enc k hk,jE];exact h);have h2:(madeCells cz (n*k)).toList[i]?=none:=zu (by
   show (madeCells cz (n*k)).size<=i
   rw [size_madeCells];exact h)
  rw [h1,h2]
section
variable {ops:Array Oper} {Q:Exit->Act->World->Prop} {rest:List Oper} {a:Act} {w w0:World} {M:List Nat} {L:List As} {o1:Oper}
theorem AtMkN.row {t e:TypeId} {x y:Operand} {α:Type} {enc:α->List Value} (H:St w0 M L w) (hw:Region.wanted o1 (yielded ops a.tmps)=true) (ho:o1.op=.makeSlice t x y) (n:Nat) (hx:a.eval x=.int .i64 (n:Int)) (hy:a.eval y=.int .i64 (n:Int)) (hte:wY t=some e) {bytes:Nat} {z:Value} {k:Nat} (hi:vm e=some (z,k,bytes)) (x0:α) (hx0:z.cells.toList=enc x0) (hk:∀ x,(enc x).length=k) (hk0:0<k) (hn:n*bytes<=281474976710656) (h63:n*k<=16777216)
  (h:∀ b w',St w0 M (zi enc e k (.slice (some ⟨b,0,none⟩) n n) (zI n x0)::L) w'->wpList z6 ops Q rest (a.put o1.dst (.slice (some ⟨b,0,none⟩) n n)) w'):AtMk1 z6 ops Q o1 t x y rest a w :=
 wpList_step fun _ hK=>by
  rw [if_pos hw];obtain ⟨i,h2,h3,h4,h5⟩:=kr hi;have hb3:(bytes:Int)*(n:Int)<=281474976710656:=by
   have h9:((n*bytes:Nat):Int)<=281474976710656:=(by omega);rw [Nat.mul_comm] at h9;rwa [Int.natCast_mul] at h9
  have hr:=run_makeSlice (P:=z6) (w:=w) t e i z (wB hte) h2 h3 .i64 .i64 n n (by omega) (by omega) (by rw [h4];simp;omega) (by rw [h5];exact hb3) (by
   have:n<=n*k:=Zp n hk0;omega)
  rw [h4] at hr;simp only [Int.toNat_natCast] at hr;unfold Oper.wp execOp;simp only [ho,hx,hy,Sem.run_bind,hr,Result.andThen_ok,Sem.run_pure];refine hK _ _ (h _ _ ((H.alloc (.cells (madeCells z.cells (n*k)) e)).conv (by rw [q9,qi];rfl) fun hb=>?_));rw [yB] at hb;have:=jy (enc:=enc) (k:=k) (xs:=zI n x0) hb (by
   have:n<=n*k:=Zp n hk0;simp [maxLen];omega) (VC hk hk0 hx0 n) hk
  simpa using this
end
def Zx (p:Pt):List Value:=[.bool p.nul,.int .u64 (p.fst:Nat),.int .u64 (p.lst:Nat)]
theorem jA (p:Pt):(Zx p).length=3:=rfl
theorem jk {f:Chart->Pt×Chart}:∀ (n:Nat) (c:Chart),(qd f n c).1.length=n
 |0,_=>rfl
 |n+1,c=>by
  show (_::(qd f n (f c).2).1).length=_
  rw [yZ,jk]
theorem Xr {lo:Nat} {loop:Bool} {ps:List Pt} {k:Nat} {p:Pt} {c:Chart} (hp:ps[k]?=some p):yN lo loop k (ps.drop k) c=(let r:=yN lo loop (k+1) (ps.drop (k+1)) c
  let c2:=if loop&&decide (k+1=ps.length) then r.2.link p.lst p.fst else r.2
  (⟨(qJ p r.1).nul || decide (lo<=k),(qJ p r.1).fst,(qJ p r.1).lst⟩,c2.link p.lst r.1.fst)):=by
 have hk:=zP hp;have hd:ps.drop k=p::ps.drop (k+1):=by
  rw [wR hk];congr 1
  rw [zg hk] at hp;injection hp
 rw [hd,yN];have he:(ps.drop (k+1)).isEmpty=decide (k+1=ps.length):=by
  rw [q5,List.isEmpty_iff,decide_eq_true_eq,List.drop_eq_nil_iff];omega
 rw [he]
theorem link_w {c:Chart} {bw x0 to:Nat} {sv fv:Value} (hx0:x0<18446744073709551616) (hto:to<18446744073709551616) (hb:∀ i,x0.testBit i=true->i<c.sets.length) (hc:ChOk c) (w:World) (h:(wA bw sv fv c).ho w) (h0:1 ∉ (wA bw sv fv c).fp) (hde:deA.ho w) :
  Calls z6 59 #[.pointer (some ⟨bw,0,none⟩),.int .u64 (x0:Nat),.int .u64 (to:Nat)] w fun e w'=>e=.returned (.tuple #[])∧St w (wA bw sv fv c).fp [wA bw sv fv (c.link x0 to)] w':=by
 rcases qR c.sets.length with hz|hn
 ·have hal:x0=0:=yV fun i=>by
   rw [Nat.zero_testBit];cases e:x0.testBit i
   ·rfl
   ·have:=hb i e;omega
  subst hal;refine zm (link_0 bw to w) ?_;rintro e w' ⟨rfl,h1⟩;refine ⟨rfl,?_⟩;have hcl:c.link 0 to=c:=by
   unfold Chart.link;rw [Q8]
  rw [hcl];exact (St.one h).grew h1.below
 have H:=(St.one h).open_w;have HK:Ks w (wA bw sv fv c).fp [deA]:=Ks.cons hde (by rw [wt];intro z hz;simp only [zV] at hz;subst hz;exact h0) (Ks.nil w _);obtain ⟨gf,cf,rfl,_⟩:=qF (H.get (A:=zi qY 32 1 fv c.fol) pk) (by rw [hc.len];exact hn);have H2:=(H.pick2 (A:=blk bw (.cells #[sv,.slice (some ⟨gf,0,none⟩) c.fol.length cf] 79)) (B:=zi qY 32 1 (.slice (some ⟨gf,0,none⟩) c.fol.length cf) c.fol) pk pk).join;have hk2:=H2.ksub HK zS;refine zm (link_s hx0 hto (by rw [hc.len];exact hb) rfl hc.bd w (H2.ho _ zS) (fun h9=>hk2.apart deA (by simp) 1 (by rw [wt];simp) h9) hde) ?_;rintro e w' ⟨rfl,h1⟩;refine ⟨rfl,?_⟩;have h2:=H2.call h1;simp only [z7,z8] at h2;have h3:=h2.sep;have hl:(c.link x0 to).fol=xM c.fol x0 to:=rfl;have hs:(c.link x0 to).sets=c.sets:=rfl;refine St.shut_w (R:=[]) ?_;rw [hl,hs];exact h3.picks (.cons pk (.cons pk (.cons pk .nil)))
def RpRelA (w:World) (N:List Nat) (bw b3 b4 gk n:Nat) (c:Chart) (xv:Array Value) (f:Chart->Pt×Chart) (kp:Nat) (mm:Nat) (v22:Value) (wr:World):Prop :=
 ∃ (i:Nat) (sv fv:Value) (ps:List Pt) (c1:Chart),mm=n-i∧i<=n∧v22=.int .i64 i∧(ps,c1)=qd f i c∧ChOk c1∧(∀ q∈ps,q.Fit c1.sets.length)∧c1.sets.length=c.sets.length+kp*i∧St w N [wA bw sv fv c1,blk b3 (.cells xv 37),blk b4 (.cells #[.bool false,.int .u64 0,.int .u64 0] 81),zi Zx 81 3 (.slice (some ⟨gk,0,none⟩) n n) (ps++zI (n-i) ⟨false,0,0⟩)] wr
def RpRelB (w:World) (N:List Nat) (bw b3 b4 b8 gk n ln:Nat) (loop:Bool) (c1:Chart) (ps:List Pt) (xv:Array Value) (mm:Nat) (v9:Value) (wr:World):Prop :=
 ∃ (k:Nat) (j:Int) (sv fv:Value) (W:Pt) (C:Chart),mm=k∧k<=n∧v9=.int .i64 j∧j=(k:Int)-1∧(W,C)=yN ln loop k (ps.drop k) c1∧ChOk C∧W.Fit C.sets.length∧C.sets=c1.sets∧St w N [wA bw sv fv C,blk b3 (.cells xv 37),blk b4 (.cells #[.bool false,.int .u64 0,.int .u64 0] 81),blk b8 (.cells #[.bool W.nul,.int .u64 (W.fst:Nat),.int .u64 (W.lst:Nat)] 81),zi Zx 81 3 (.slice (some ⟨gk,0,none⟩) n n) ps] wr
attribute [local irreducible] wA
theorem repeat_c {P:zT} {hh:Hd} {p:Rx} (hk:hh.k=5) (hv:(Rx.mk hh [p]).valid=true) (hw:WrC P p) {x:R8} {c:Chart} (bw:Nat) (sv fv:Value) (w:World) (hx:RxIn P x (.mk hh [p])) (hc:ChOk c) (hlen:c.sets.length+(Rx.mk hh [p]).pos<=64) (h:(wA bw sv fv c).ho w) (k9:Ks w (wA bw sv fv c).fp [deA,zw P]) :
  Calls z6 48 #[.pointer (some ⟨bw,0,none⟩),.agg #[.int .i64 x.h.k,.int .u64 (x.h.s0:Nat),.int .u64 (x.h.s1:Nat),.int .u64 (x.h.s2:Nat),.int .u64 (x.h.s3:Nat),.int .i64 x.h.lo,.int .i64 x.h.hi,x.pv]] w (wE w bw sv fv c ((Rx.mk hh [p]).re.write c)):=by
 have hv':=Rx.valid_iff.1 hv;have H:=St.one h;have HK:=k9;obtain ⟨rows,hhd,hfit,hrow,hrl,hrx⟩:=hx.inv;simp only [Rx.hd,Rx.ps] at hhd hrl hrx hv';subst hhd;have hcs:=Hd.cases hv'.1;have hpv:=hv'.2 p (by simp);obtain ⟨⟨k,s0,s1,s2,s3,lo,hi⟩,pv⟩:=x;simp only at hk hcs hrow hrl;subst hk;obtain ⟨ln,hln⟩:∃ z:Nat,lo=(z:Int):=⟨lo.toNat,by omega⟩
 subst hln;have hre:(Rx.mk ⟨5,s0,s1,s2,s3,(ln:Int),hi⟩ [p]).re=.rep ln (if hi<0 then none else some hi.toNat) p.re:=by
  rw [Rx.re];simp [Rx.reP]
 obtain ⟨n,hn⟩:∃ z,(Hd.mk 5 s0 s1 s2 s3 (ln:Int) hi).cop=z:=⟨_,rfl⟩
 have hn64:n<=64:=by
  rw [← hn];unfold Hd.cop;simp only [if_true];split <;> omega
 have hpos:(Rx.mk ⟨5,s0,s1,s2,s3,(ln:Int),hi⟩ [p]).pos=p.pos*n:=by
  rw [Rx.pos,hn];simp [Rx.posL]
 rw [hpos] at hlen;have hwr:(Rx.mk ⟨5,s0,s1,s2,s3,(ln:Int),hi⟩ [p]).re.write c=yN ln (decide (hi<0)) 0 (qd p.re.write n c).1 (qd p.re.write n c).2:=by
  rw [hre];have hnn:(match (if hi<0 then none else some hi.toNat:Option Nat) with|some h=>h|none=>max ln 1)=n:=by
   rw [← hn];unfold Hd.cop;simp only [if_true,Int.toNat_natCast];by_cases h0:hi<0
   ·rw [if_pos h0,if_pos (by omega)]
   ·rw [if_neg h0,if_neg (by omega)]
  have hw9:∀ (a:Option Nat),(Re.write (.rep ln a p.re) c)=yN ln a.isNone 0 (qd p.re.write (match a with|some h=>h|none=>max ln 1) c).1 (qd p.re.write (match a with|some h=>h|none=>max ln 1) c).2:=fun a=>by
   cases a <;> first|rfl|(rw [Re.write.eq_def];done)|simp only [Re.write]
  rw [hw9,hnn];congr 1
  by_cases h0:hi<0
  ·simp [h0]
  ·simp [h0]
 rw [hwr];unfold wE;obtain ⟨N,hN⟩:∃ N,(wA bw sv fv c).fp=N:=⟨_,rfl⟩
 rw [hN] at H HK ⊢;obtain ⟨ad,cp,epv,_⟩:=hrow.shape;have hr1:rows.length=1:=hrl;rw [hr1] at epv;subst epv;obtain ⟨y,hy⟩:∃ y,rows[0]?=some y:=⟨_,zg (by omega)⟩
 have hrx0:=hrx 0 y p hy rfl;obtain ⟨gp,op,rfl,hrg⟩:∃ g o,ad=some ⟨g,o,none⟩∧∀ w,(zw P).ho w->w.rangeAt g o (xE y):=by
  have hr:=hrow;obtain ⟨ad',c',e1,_,h3⟩:=id hr;obtain ⟨b,o,rfl,_⟩:=h3 (by omega);rw [hr1] at e1;injection e1 with e1 _ _
  subst e1;rw [← hr1] at hr;exact ⟨b,o,rfl,fun w h=>by have:=hr.rng (xB h) wJ hy;simpa using this⟩
 obtain ⟨ady,ny,cy,ey⟩:∃ a n c,y.pv=.slice a n c:=by
  obtain ⟨r9,_,_,h3,_⟩:=hrx0.inv;obtain ⟨a9,c9,e9,_⟩:=h3.shape;exact ⟨a9,_,c9,e9⟩
 obtain ⟨⟨yk,y0,y1,y2,y3,ylo,yhi⟩,pvy⟩:=y;simp only at ey;subst ey;have HRG:Hid (∀ w,(zw P).ho w->w.rangeAt gp op [.int .i64 yk,.int .u64 (y0:Nat),.int .u64 (y1:Nat),.int .u64 (y2:Nat),.int .u64 (y3:Nat),.int .i64 ylo,.int .i64 yhi,.slice ady ny cy]):=zh hrg;have HRX:=zh (za hrx0 hpv);have HC:=zh (za hc hlen);have hmax:hi = -1->(if (ln:Int)<1 then (1:Int) else (ln:Int))=((n:Nat):Int):=fun he=>by
  rw [← hn];unfold Hd.cop;simp only [if_true,he];split <;> omega
 have hhn:hi≠-1->hi=((n:Nat):Int):=fun he=>by
  rw [← hn];unfold Hd.cop;simp only [if_true,if_neg he];omega
 simp only;clear h k9 hx hv hv' hfit hrow hrl hrx hc hlen hre hpos hwr hN hr1 hy hrx0 hrg hpv hn;by_cases hm:hi = -1
 ·subst hm;have m1:=hmax rfl;clear hmax hhn hcs;go_enter Tryd.func48,Tryd.ntmps48;go_wp2_with (first|refine sL ?_|(refine sS ?_;clear H;intros;rename_i H)|((with_reducible refine jl ?_);refine AtMkN.row (enc:=Zx) H rfl rfl n rfl rfl rfl rfl ⟨false,0,0⟩ rfl jA (by omega) (by omega) (by omega) ?_;clear H;intro gk _ H;simp only [Act.put,puA,puB,puC]));rename_i b3 _ b4 _ _ _ _;go_loopg [22] n (fun mm v22 wr=>RpRelA w N bw b3 b4 gk n c #[.int .i64 5,.int .u64 (s0:Nat),.int .u64 (s1:Nat),.int .u64 (s2:Nat),.int .u64 (s3:Nat),.int .i64 (ln:Int),.int .i64 (-1),.slice (some ⟨gp,op,none⟩) 1 cp] p.re.write p.pos mm v22 wr);case atStart=>exact ⟨0,sv,fv,[],c,rfl,zH _,rfl,rfl,HC.out.1,(fun q hq=>by simp at hq),rfl,H.picks (.cons pk (.cons pk (.cons pk (.cons pk .nil))))⟩
  case round =>
   clear H;obtain ⟨i,sv1,fv1,ps,c1,rfl,hi,rfl,hps,hc1,hfit,hlc,H⟩:=hrel;have HPS:=zh (za hps (za hc1 (za hfit hlc)));clear hps hc1 hfit hlc;by_cases hlt:i<n
   ·have f1:decide ((i:Int)<(n:Int))=true:=(by simp;omega);have f1n:decide (i<n)=true:=(by simp;omega);have hpl:ps.length=i:=by
     have:=jk (f:=p.re.write) i c;rw [← HPS.out.1] at this;exact this
    have hsp:c1.sets.length+p.pos<=64:=by
     have h1:=HC.out.2;have h2:=HPS.out.2.2.2;have h3:p.pos*(i+1)<=p.pos*n:=Nat.mul_le_mul_left _ hlt;rw [YZ] at h3;omega
    have hre9:=Rx.re_len HRX.out.2 c1;obtain ⟨hft,hch⟩:=YT (Rx.re_ok HRX.out.2) HPS.out.2.1 (by rw [hre9];exact hsp);have hwr:=fun (sv fv:Value) (w:World) (h:(wA bw sv fv c1).ho w) (k:Ks w (wA bw sv fv c1).fp [deA,zw P])=>hw (c:=c1) bw sv fv w HRX.out.1 HPS.out.2.1 hsp h k
    have hsn:=Zu (f:=p.re.write) i c;rw [← HPS.out.1] at hsn;simp only at hsn;obtain ⟨⟨⟨pn,pf,pl⟩,c2⟩,hres⟩:∃ z,p.re.write c1=z:=⟨_,rfl⟩
    unfold wE at hwr;rw [hres] at hwr hft hch hsn hre9;simp only at hwr hft hch hsn hre9;have HWR:=zh hwr;have HNX:Hid ((ps++[⟨pn,pf,pl⟩],c2)=qd p.re.write (i+1) c∧ChOk c2∧(∀ q∈ps++[(⟨pn,pf,pl⟩:Pt)],q.Fit c2.sets.length)∧c2.sets.length=c.sets.length+p.pos*(i+1)):=zh ⟨hsn.symm,hch,fun q hq=>by
     rcases zt.1 hq with hq|hq
     ·exact (HPS.out.2.2.1 q hq).mono (by rw [hre9];omega)
     ·simp only [zV] at hq;subst hq;exact hft,by
     rw [hre9,HPS.out.2.2.2,YZ];omega⟩
    have HLN:Hid (i<(ps++zI (n-i) (⟨false,0,0⟩:Pt)).length∧(ps++zI (n-i) (⟨false,0,0⟩:Pt)).set i ⟨pn,pf,pl⟩=(ps++[⟨pn,pf,pl⟩])++zI (n-(i+1)) ⟨false,0,0⟩):=zh ⟨by simp [hpl];omega,by
     rw [List.set_append_right _ _ (by omega),hpl,Z6,show n-i=(n-(i+1))+1 by omega,QQ,zj,y7];rfl⟩
    clear hpl hsp hre9 hft hch hwr hsn hres;go_wp2_with (first|refine sL ?_|(refine sS ?_;clear H;intros;rename_i H)|((with_reducible refine qN ?_);refine AtLoad.rngT rfl rfl rfl (HRG.out _ (H.known (A:=zw P) HK pk)) rfl ?_;simp only [Act.put,puA,puB,puC]));refine zm (HWR.out _ _ _ (H.get pk) (H.ksub HK (by simp))) ?_;rintro e wc ⟨rfl,sv2,fv2,hb⟩;replace H:=(H.pick pk).call hb;simp only [z7,z8] at H;clear hb;go_wp2_with (first|refine sL ?_|(refine sS ?_;clear H;intros;rename_i H)|((with_reducible refine yy ?_);refine AtStore.rowEl (enc:=Zx) H rfl rfl rfl rfl rfl rfl (xs:=ps++zI (n-i) ⟨false,0,0⟩) pk jA (i:=i) HLN.out.1 rfl ⟨pn,pf,pl⟩ rfl ?_;clear H;intro _ H;simp only [Act.put,puA,puB,puC]));rw [HLN.out.2] at H;go_roundg (n-(i+1));case measure=>omega
    case rel=>exact ⟨i+1,sv2,fv2,ps++[⟨pn,pf,pl⟩],c2,rfl,by omega,by go_num,HNX.out.1,HNX.out.2.1,HNX.out.2.2.1,HNX.out.2.2.2,H.picks (.cons pk (.cons pk (.cons pk (.cons pk .nil))))⟩
   ·have f1:decide ((i:Int)<(n:Int))=false:=(by simp;omega);have f1n:decide (i<n)=false:=(by simp;omega);obtain rfl:n=i:=by omega
    have hpl:ps.length=n:=by
     have:=jk (f:=p.re.write) n c;rw [← HPS.out.1] at this;exact this
    rw [Z6,List.replicate_zero,xH] at H;have HPL:=zh hpl;have hl64:c1.sets.length<=64:=by
     have h1:=HC.out.2;have h2:=HPS.out.2.2.2;omega
    clear hpl;go_wp2_with (first|refine sL ?_|(refine sS ?_;clear H;intros;rename_i H));rename_i b8 _ _ _ _;go_loopg [9] n (fun mm v9 wr=>RpRelB w N bw b3 b4 b8 gk n ln true c1 ps #[.int .i64 5,.int .u64 (s0:Nat),.int .u64 (s1:Nat),.int .u64 (s2:Nat),.int .u64 (s3:Nat),.int .i64 (ln:Int),.int .i64 (-1),.slice (some ⟨gp,op,none⟩) 1 cp] mm v9 wr);case atStart=>exact ⟨n,(n:Int)-1,sv1,fv1,⟨true,0,0⟩,c1,rfl,zp _,rfl,rfl,(by rw [xg (by rw [HPL.out];exact zp _)];rfl),HPS.out.2.1,⟨by decide,by decide,fun i hi=>by simp at hi,fun i hi=>by simp at hi⟩,rfl,H.picks (.cons pk (.cons pk (.cons pk (.cons pk (.cons pk .nil)))))⟩
    case round =>
     clear H;obtain ⟨k,j,sv2,fv2,W,C,hmm,hk,rfl,hj,hW,hC,hWf,hCs,H⟩:=hrel;obtain rfl:=hmm.symm;have HW:=zh (za hW (za hC (za hWf hCs)));clear hW hC hWf hCs;rcases qR k with rfl|hk0
     ·obtain rfl:j = -1:=by omega
      have e1:yN ln true 0 (qd p.re.write n c).1 (qd p.re.write n c).2=(W,C):=by
       rw [← HPS.out.1];have h1:=HW.out.1;rw [y8] at h1;rw [h1]
      have HE:=zh e1;clear e1 hj;go_wp2_with (first|refine sL ?_|(refine sS ?_;clear H;intros;rename_i H));refine bodyPost_ret (qy rfl H rfl pk rfl) rfl ?_;rw [HE.out];exact ⟨rfl,sv2,fv2,H.picks (.cons pk .nil)⟩
     ·obtain ⟨kk,rfl⟩:∃ z,k=z+1:=⟨k-1,by omega⟩
      obtain rfl:j=((kk:Nat):Int):=by omega
      have hkn:kk<n:=(by omega);obtain ⟨⟨pn,pf,pl⟩,hp⟩:∃ q,ps[kk]?=some q:=⟨_,zg (by rw [HPL.out];exact hkn)⟩
      have HRP:Hid (∀ w,(zi Zx 81 3 (.slice (some ⟨gk,0,none⟩) n n) ps).ho w->w.rangeAt gk (kk*3) [.bool pn,.int .u64 (pf:Nat),.int .u64 (pl:Nat)]):=zh fun w h=>jC h jA hp
      have hfp:=HPS.out.2.2.1 _ (zc hp);have hjs:=Xr (lo:=ln) (loop:=true) (c:=c1) hp;rw [← HW.out.1] at hjs;simp only at hjs;have HJS:=zh hjs;have HFP:=zh hfp;clear hjs hfp hp hj hk0;have g1:decide ((0:Int)<=(kk:Int))=true:=decide_eq_true (by omega);have g2:decide ((kk:Int)<(n:Int))=true:=(by simp;omega);have g2n:decide (kk<n)=true:=(by simp;omega);by_cases hle:ln<=kk
      ·have g3:decide ((ln:Int)<=(kk:Int))=true:=(by simp;omega);have g3n:decide (ln<=kk)=true:=(by simp;omega);by_cases hlast:kk+1=n
       ·have g4:((kk:Int)==(n:Int)-1)=true:=(by simp;omega);have HLE:=zh hle;have HLA:=zh hlast;clear hle hlast;go_wp2_with (first|refine sL ?_|(refine sS ?_;clear H;intros;rename_i H)|((with_reducible refine qN ?_);refine AtLoad.rngT rfl rfl rfl (HRP.out _ (H.get pk)) rfl ?_;simp only [Act.put,puA,puB,puC]));have HCL:ChOk (C.link pl pf):=HW.out.2.1.link HFP.out.fb;have hcs9:C.sets.length=c1.sets.length:=(by rw [HW.out.2.2.2]);have hfa:(Pt.mk pn pf pl).Fit C.sets.length:=(by rw [hcs9];exact HFP.out);have HLK:Hid (∀ (sv fv:Value) (w:World),(wA bw sv fv C).ho w->Ks w (wA bw sv fv C).fp [deA,zw P]->Calls z6 59 #[.pointer (some ⟨bw,0,none⟩),.int .u64 (pl:Nat),.int .u64 (pf:Nat)] w fun e w'=>e=.returned (.tuple #[])∧St w (wA bw sv fv C).fp [wA bw sv fv (C.link pl pf)] w'):=zh fun sv fv w h k=>link_w HFP.out.lb HFP.out.fb hfa.lp HW.out.2.1 w h (fun h9=>k.apart deA (by simp) 1 (by rw [wt];simp) h9) (k.ho deA (by simp))
        have HSQ:Hid (∀ (sv fv:Value) (w:World),(wA bw sv fv (C.link pl pf)).ho w->Ks w (wA bw sv fv (C.link pl pf)).fp [deA,zw P]->Calls z6 47 #[.pointer (some ⟨bw,0,none⟩),.agg #[.bool pn,.int .u64 (pf:Nat),.int .u64 (pl:Nat)],.agg #[.bool W.nul,.int .u64 (W.fst:Nat),.int .u64 (W.lst:Nat)]] w fun e w'=>e=.returned (.agg #[.bool (qJ ⟨pn,pf,pl⟩ W).nul,.int .u64 ((qJ ⟨pn,pf,pl⟩ W).fst:Nat),.int .u64 ((qJ ⟨pn,pf,pl⟩ W).lst:Nat)])∧St w (wA bw sv fv (C.link pl pf)).fp [wA bw sv fv ((C.link pl pf).link pl W.fst)] w'):=zh fun sv fv w h k=>YM (c:=C.link pl pf) (a:=⟨pn,pf,pl⟩) (b:=W) hfa HW.out.2.2.1 HCL w h (fun h9=>k.apart deA (by simp) 1 (by rw [wt];simp) h9) (k.ho deA (by simp))
        have hsf:=hfa.seq HW.out.2.2.1;have hnx:=HJS.out;rw [HPL.out] at hnx;obtain ⟨⟨sn,sf,sl⟩,hsq⟩:∃ z,qJ ⟨pn,pf,pl⟩ W=z:=⟨_,rfl⟩
        rw [hsq] at HSQ hnx hsf;simp only at HSQ hnx;have HNX:Hid (((⟨true,sf,sl⟩:Pt),(C.link pl pf).link pl W.fst)=yN ln true kk (ps.drop kk) c1∧ChOk ((C.link pl pf).link pl W.fst)∧(Pt.mk true sf sl).Fit ((C.link pl pf).link pl W.fst).sets.length∧((C.link pl pf).link pl W.fst).sets=c1.sets):=zh ⟨by
         rw [hnx];simp [HLE.out,HLA.out]
         , HCL.link HW.out.2.2.1.fb,⟨hsf.fb,hsf.lb,hsf.fp,hsf.lp⟩,HW.out.2.2.2⟩
        clear hcs9 hfa hsf hnx hsq HCL;refine zm (HLK.out _ _ _ (H.get pk) (H.ksub HK (by simp))) ?_;rintro e wc ⟨rfl,hb⟩;replace H:=(H.pick pk).call hb;simp only [z7,z8] at H;clear hb;go_wp2_with (first|refine sL ?_|(refine sS ?_;clear H;intros;rename_i H));refine zm (HSQ.out _ _ _ (H.get pk) (H.ksub HK (by simp))) ?_;rintro e wc ⟨rfl,hb⟩;replace H:=(H.pick pk).call hb;simp only [z7,z8] at H;clear hb;go_wp2_with (first|refine sL ?_|(refine sS ?_;clear H;intros;rename_i H));go_roundg kk;case measure=>omega
        case rel=>exact ⟨kk,(kk:Int)-1,sv2,fv2,⟨true,sf,sl⟩,(C.link pl pf).link pl W.fst,rfl,by omega,(by first|rfl|go_num),rfl,HNX.out.1,HNX.out.2.1,HNX.out.2.2.1,HNX.out.2.2.2,H.picks (.cons pk (.cons pk (.cons pk (.cons pk (.cons pk .nil)))))⟩
       ·have g4:((kk:Int)==(n:Int)-1)=false:=(by simp;omega);have HLE:=zh hle;have HLA:=zh hlast;clear hle hlast;go_wp2_with (first|refine sL ?_|(refine sS ?_;clear H;intros;rename_i H)|((with_reducible refine qN ?_);refine AtLoad.rngT rfl rfl rfl (HRP.out _ (H.get pk)) rfl ?_;simp only [Act.put,puA,puB,puC]));have HCL:ChOk C:=HW.out.2.1;have hcs9:C.sets.length=c1.sets.length:=(by rw [HW.out.2.2.2]);have hfa:(Pt.mk pn pf pl).Fit C.sets.length:=(by rw [hcs9];exact HFP.out);have HSQ:Hid (∀ (sv fv:Value) (w:World),(wA bw sv fv C).ho w->Ks w (wA bw sv fv C).fp [deA,zw P]->Calls z6 47 #[.pointer (some ⟨bw,0,none⟩),.agg #[.bool pn,.int .u64 (pf:Nat),.int .u64 (pl:Nat)],.agg #[.bool W.nul,.int .u64 (W.fst:Nat),.int .u64 (W.lst:Nat)]] w fun e w'=>e=.returned (.agg #[.bool (qJ ⟨pn,pf,pl⟩ W).nul,.int .u64 ((qJ ⟨pn,pf,pl⟩ W).fst:Nat),.int .u64 ((qJ ⟨pn,pf,pl⟩ W).lst:Nat)])∧St w (wA bw sv fv C).fp [wA bw sv fv (C.link pl W.fst)] w'):=zh fun sv fv w h k=>YM (c:=C) (a:=⟨pn,pf,pl⟩) (b:=W) hfa HW.out.2.2.1 HCL w h (fun h9=>k.apart deA (by simp) 1 (by rw [wt];simp) h9) (k.ho deA (by simp))
        have hsf:=hfa.seq HW.out.2.2.1;have hnx:=HJS.out;rw [HPL.out] at hnx;obtain ⟨⟨sn,sf,sl⟩,hsq⟩:∃ z,qJ ⟨pn,pf,pl⟩ W=z:=⟨_,rfl⟩
        rw [hsq] at HSQ hnx hsf;simp only at HSQ hnx;have HNX:Hid (((⟨true,sf,sl⟩:Pt),C.link pl W.fst)=yN ln true kk (ps.drop kk) c1∧ChOk (C.link pl W.fst)∧(Pt.mk true sf sl).Fit (C.link pl W.fst).sets.length∧(C.link pl W.fst).sets=c1.sets):=zh ⟨by
         rw [hnx];simp [HLE.out,HLA.out]
         , HCL.link HW.out.2.2.1.fb,⟨hsf.fb,hsf.lb,hsf.fp,hsf.lp⟩,HW.out.2.2.2⟩
        clear hcs9 hfa hsf hnx hsq HCL;refine zm (HSQ.out _ _ _ (H.get pk) (H.ksub HK (by simp))) ?_;rintro e wc ⟨rfl,hb⟩;replace H:=(H.pick pk).call hb;simp only [z7,z8] at H;clear hb;go_wp2_with (first|refine sL ?_|(refine sS ?_;clear H;intros;rename_i H));go_roundg kk;case measure=>omega
        case rel=>exact ⟨kk,(kk:Int)-1,sv2,fv2,⟨true,sf,sl⟩,C.link pl W.fst,rfl,by omega,(by first|rfl|go_num),rfl,HNX.out.1,HNX.out.2.1,HNX.out.2.2.1,HNX.out.2.2.2,H.picks (.cons pk (.cons pk (.cons pk (.cons pk (.cons pk .nil)))))⟩
      ·have g3:decide ((ln:Int)<=(kk:Int))=false:=(by simp;omega);have g3n:decide (ln<=kk)=false:=(by simp;omega);by_cases hlast:kk+1=n
       ·have g4:((kk:Int)==(n:Int)-1)=true:=(by simp;omega);have HLE:=zh hle;have HLA:=zh hlast;clear hle hlast;go_wp2_with (first|refine sL ?_|(refine sS ?_;clear H;intros;rename_i H)|((with_reducible refine qN ?_);refine AtLoad.rngT rfl rfl rfl (HRP.out _ (H.get pk)) rfl ?_;simp only [Act.put,puA,puB,puC]));have HCL:ChOk (C.link pl pf):=HW.out.2.1.link HFP.out.fb;have hcs9:C.sets.length=c1.sets.length:=(by rw [HW.out.2.2.2]);have hfa:(Pt.mk pn pf pl).Fit C.sets.length:=(by rw [hcs9];exact HFP.out);have HLK:Hid (∀ (sv fv:Value) (w:World),(wA bw sv fv C).ho w->Ks w (wA bw sv fv C).fp [deA,zw P]->Calls z6 59 #[.pointer (some ⟨bw,0,none⟩),.int .u64 (pl:Nat),.int .u64 (pf:Nat)] w fun e w'=>e=.returned (.tuple #[])∧St w (wA bw sv fv C).fp [wA bw sv fv (C.link pl pf)] w'):=zh fun sv fv w h k=>link_w HFP.out.lb HFP.out.fb hfa.lp HW.out.2.1 w h (fun h9=>k.apart deA (by simp) 1 (by rw [wt];simp) h9) (k.ho deA (by simp))
        have HSQ:Hid (∀ (sv fv:Value) (w:World),(wA bw sv fv (C.link pl pf)).ho w->Ks w (wA bw sv fv (C.link pl pf)).fp [deA,zw P]->Calls z6 47 #[.pointer (some ⟨bw,0,none⟩),.agg #[.bool pn,.int .u64 (pf:Nat),.int .u64 (pl:Nat)],.agg #[.bool W.nul,.int .u64 (W.fst:Nat),.int .u64 (W.lst:Nat)]] w fun e w'=>e=.returned (.agg #[.bool (qJ ⟨pn,pf,pl⟩ W).nul,.int .u64 ((qJ ⟨pn,pf,pl⟩ W).fst:Nat),.int .u64 ((qJ ⟨pn,pf,pl⟩ W).lst:Nat)])∧St w (wA bw sv fv (C.link pl pf)).fp [wA bw sv fv ((C.link pl pf).link pl W.fst)] w'):=zh fun sv fv w h k=>YM (c:=C.link pl pf) (a:=⟨pn,pf,pl⟩) (b:=W) hfa HW.out.2.2.1 HCL w h (fun h9=>k.apart deA (by simp) 1 (by rw [wt];simp) h9) (k.ho deA (by simp))
        have hsf:=hfa.seq HW.out.2.2.1;have hnx:=HJS.out;rw [HPL.out] at hnx;obtain ⟨⟨sn,sf,sl⟩,hsq⟩:∃ z,qJ ⟨pn,pf,pl⟩ W=z:=⟨_,rfl⟩
        rw [hsq] at HSQ hnx hsf;simp only at HSQ hnx;have HNX:Hid (((⟨sn,sf,sl⟩:Pt),(C.link pl pf).link pl W.fst)=yN ln true kk (ps.drop kk) c1∧ChOk ((C.link pl pf).link pl W.fst)∧(Pt.mk sn sf sl).Fit ((C.link pl pf).link pl W.fst).sets.length∧((C.link pl pf).link pl W.fst).sets=c1.sets):=zh ⟨by
         rw [hnx];simp [HLE.out,HLA.out]
         , HCL.link HW.out.2.2.1.fb,⟨hsf.fb,hsf.lb,hsf.fp,hsf.lp⟩,HW.out.2.2.2⟩
        clear hcs9 hfa hsf hnx hsq HCL;refine zm (HLK.out _ _ _ (H.get pk) (H.ksub HK (by simp))) ?_;rintro e wc ⟨rfl,hb⟩;replace H:=(H.pick pk).call hb;simp only [z7,z8] at H;clear hb;go_wp2_with (first|refine sL ?_|(refine sS ?_;clear H;intros;rename_i H));refine zm (HSQ.out _ _ _ (H.get pk) (H.ksub HK (by simp))) ?_;rintro e wc ⟨rfl,hb⟩;replace H:=(H.pick pk).call hb;simp only [z7,z8] at H;clear hb;go_wp2_with (first|refine sL ?_|(refine sS ?_;clear H;intros;rename_i H));go_roundg kk;case measure=>omega
        case rel=>exact ⟨kk,(kk:Int)-1,sv2,fv2,⟨sn,sf,sl⟩,(C.link pl pf).link pl W.fst,rfl,by omega,(by first|rfl|go_num),rfl,HNX.out.1,HNX.out.2.1,HNX.out.2.2.1,HNX.out.2.2.2,H.picks (.cons pk (.cons pk (.cons pk (.cons pk (.cons pk .nil)))))⟩
       ·have g4:((kk:Int)==(n:Int)-1)=false:=(by simp;omega);have HLE:=zh hle;have HLA:=zh hlast;clear hle hlast;go_wp2_with (first|refine sL ?_|(refine sS ?_;clear H;intros;rename_i H)|((with_reducible refine qN ?_);refine AtLoad.rngT rfl rfl rfl (HRP.out _ (H.get pk)) rfl ?_;simp only [Act.put,puA,puB,puC]));have HCL:ChOk C:=HW.out.2.1;have hcs9:C.sets.length=c1.sets.length:=(by rw [HW.out.2.2.2]);have hfa:(Pt.mk pn pf pl).Fit C.sets.length:=(by rw [hcs9];exact HFP.out);have HSQ:Hid (∀ (sv fv:Value) (w:World),(wA bw sv fv C).ho w->Ks w (wA bw sv fv C).fp [deA,zw P]->Calls z6 47 #[.pointer (some ⟨bw,0,none⟩),.agg #[.bool pn,.int .u64 (pf:Nat),.int .u64 (pl:Nat)],.agg #[.bool W.nul,.int .u64 (W.fst:Nat),.int .u64 (W.lst:Nat)]] w fun e w'=>e=.returned (.agg #[.bool (qJ ⟨pn,pf,pl⟩ W).nul,.int .u64 ((qJ ⟨pn,pf,pl⟩ W).fst:Nat),.int .u64 ((qJ ⟨pn,pf,pl⟩ W).lst:Nat)])∧St w (wA bw sv fv C).fp [wA bw sv fv (C.link pl W.fst)] w'):=zh fun sv fv w h k=>YM (c:=C) (a:=⟨pn,pf,pl⟩) (b:=W) hfa HW.out.2.2.1 HCL w h (fun h9=>k.apart deA (by simp) 1 (by rw [wt];simp) h9) (k.ho deA (by simp))
        have hsf:=hfa.seq HW.out.2.2.1;have hnx:=HJS.out;rw [HPL.out] at hnx;obtain ⟨⟨sn,sf,sl⟩,hsq⟩:∃ z,qJ ⟨pn,pf,pl⟩ W=z:=⟨_,rfl⟩
        rw [hsq] at HSQ hnx hsf;simp only at HSQ hnx;have HNX:Hid (((⟨sn,sf,sl⟩:Pt),C.link pl W.fst)=yN ln true kk (ps.drop kk) c1∧ChOk (C.link pl W.fst)∧(Pt.mk sn sf sl).Fit (C.link pl W.fst).sets.length∧(C.link pl W.fst).sets=c1.sets):=zh ⟨by
         rw [hnx];simp [HLE.out,HLA.out]
         , HCL.link HW.out.2.2.1.fb,⟨hsf.fb,hsf.lb,hsf.fp,hsf.lp⟩,HW.out.2.2.2⟩
        clear hcs9 hfa hsf hnx hsq HCL;refine zm (HSQ.out _ _ _ (H.get pk) (H.ksub HK (by simp))) ?_;rintro e wc ⟨rfl,hb⟩;replace H:=(H.pick pk).call hb;simp only [z7,z8] at H;clear hb;go_wp2_with (first|refine sL ?_|(refine sS ?_;clear H;intros;rename_i H));go_roundg kk;case measure=>omega
        case rel=>exact ⟨kk,(kk:Int)-1,sv2,fv2,⟨sn,sf,sl⟩,C.link pl W.fst,rfl,by omega,(by first|rfl|go_num),rfl,HNX.out.1,HNX.out.2.1,HNX.out.2.2.1,HNX.out.2.2.2,H.picks (.cons pk (.cons pk (.cons pk (.cons pk (.cons pk .nil)))))⟩
 ·have hh2:=hhn hm;subst hh2;clear hmax hhn hcs hm;go_enter Tryd.func48,Tryd.ntmps48;go_wp2_with (first|refine sL ?_|(refine sS ?_;clear H;intros;rename_i H)|((with_reducible refine jl ?_);refine AtMkN.row (enc:=Zx) H rfl rfl n rfl rfl rfl rfl ⟨false,0,0⟩ rfl jA (by omega) (by omega) (by omega) ?_;clear H;intro gk _ H;simp only [Act.put,puA,puB,puC]));rename_i b3 _ b4 _ _ _ _ _;go_loopg [22] n (fun mm v22 wr=>RpRelA w N bw b3 b4 gk n c #[.int .i64 5,.int .u64 (s0:Nat),.int .u64 (s1:Nat),.int .u64 (s2:Nat),.int .u64 (s3:Nat),.int .i64 (ln:Int),.int .i64 (n:Int),.slice (some ⟨gp,op,none⟩) 1 cp] p.re.write p.pos mm v22 wr);case atStart=>exact ⟨0,sv,fv,[],c,rfl,zH _,rfl,rfl,HC.out.1,(fun q hq=>by simp at hq),rfl,H.picks (.cons pk (.cons pk (.cons pk (.cons pk .nil))))⟩
  case round =>
   clear H;obtain ⟨i,sv1,fv1,ps,c1,rfl,hi,rfl,hps,hc1,hfit,hlc,H⟩:=hrel;have HPS:=zh (za hps (za hc1 (za hfit hlc)));clear hps hc1 hfit hlc;by_cases hlt:i<n
   ·have f1:decide ((i:Int)<(n:Int))=true:=(by simp;omega);have f1n:decide (i<n)=true:=(by simp;omega);have hpl:ps.length=i:=by
     have:=jk (f:=p.re.write) i c;rw [← HPS.out.1] at this;exact this
    have hsp:c1.sets.length+p.pos<=64:=by
     have h1:=HC.out.2;have h2:=HPS.out.2.2.2;have h3:p.pos*(i+1)<=p.pos*n:=Nat.mul_le_mul_left _ hlt;rw [YZ] at h3;omega
    have hre9:=Rx.re_len HRX.out.2 c1;obtain ⟨hft,hch⟩:=YT (Rx.re_ok HRX.out.2) HPS.out.2.1 (by rw [hre9];exact hsp);have hwr:=fun (sv fv:Value) (w:World) (h:(wA bw sv fv c1).ho w) (k:Ks w (wA bw sv fv c1).fp [deA,zw P])=>hw (c:=c1) bw sv fv w HRX.out.1 HPS.out.2.1 hsp h k
    have hsn:=Zu (f:=p.re.write) i c;rw [← HPS.out.1] at hsn;simp only at hsn;obtain ⟨⟨⟨pn,pf,pl⟩,c2⟩,hres⟩:∃ z,p.re.write c1=z:=⟨_,rfl⟩
    unfold wE at hwr;rw [hres] at hwr hft hch hsn hre9;simp only at hwr hft hch hsn hre9;have HWR:=zh hwr;have HNX:Hid ((ps++[⟨pn,pf,pl⟩],c2)=qd p.re.write (i+1) c∧ChOk c2∧(∀ q∈ps++[(⟨pn,pf,pl⟩:Pt)],q.Fit c2.sets.length)∧c2.sets.length=c.sets.length+p.pos*(i+1)):=zh ⟨hsn.symm,hch,fun q hq=>by
     rcases zt.1 hq with hq|hq
     ·exact (HPS.out.2.2.1 q hq).mono (by rw [hre9];omega)
     ·simp only [zV] at hq;subst hq;exact hft,by
     rw [hre9,HPS.out.2.2.2,YZ];omega⟩
    have HLN:Hid (i<(ps++zI (n-i) (⟨false,0,0⟩:Pt)).length∧(ps++zI (n-i) (⟨false,0,0⟩:Pt)).set i ⟨pn,pf,pl⟩=(ps++[⟨pn,pf,pl⟩])++zI (n-(i+1)) ⟨false,0,0⟩):=zh ⟨by simp [hpl];omega,by
     rw [List.set_append_right _ _ (by omega),hpl,Z6,show n-i=(n-(i+1))+1 by omega,QQ,zj,y7];rfl⟩
    clear hpl hsp hre9 hft hch hwr hsn hres;go_wp2_with (first|refine sL ?_|(refine sS ?_;clear H;intros;rename_i H)|((with_reducible refine qN ?_);refine AtLoad.rngT rfl rfl rfl (HRG.out _ (H.known (A:=zw P) HK pk)) rfl ?_;simp only [Act.put,puA,puB,puC]));refine zm (HWR.out _ _ _ (H.get pk) (H.ksub HK (by simp))) ?_;rintro e wc ⟨rfl,sv2,fv2,hb⟩;replace H:=(H.pick pk).call hb;simp only [z7,z8] at H;clear hb;go_wp2_with (first|refine sL ?_|(refine sS ?_;clear H;intros;rename_i H)|((with_reducible refine yy ?_);refine AtStore.rowEl (enc:=Zx) H rfl rfl rfl rfl rfl rfl (xs:=ps++zI (n-i) ⟨false,0,0⟩) pk jA (i:=i) HLN.out.1 rfl ⟨pn,pf,pl⟩ rfl ?_;clear H;intro _ H;simp only [Act.put,puA,puB,puC]));rw [HLN.out.2] at H;go_roundg (n-(i+1));case measure=>omega
    case rel=>exact ⟨i+1,sv2,fv2,ps++[⟨pn,pf,pl⟩],c2,rfl,by omega,by go_num,HNX.out.1,HNX.out.2.1,HNX.out.2.2.1,HNX.out.2.2.2,H.picks (.cons pk (.cons pk (.cons pk (.cons pk .nil))))⟩
   ·have f1:decide ((i:Int)<(n:Int))=false:=(by simp;omega);have f1n:decide (i<n)=false:=(by simp;omega);obtain rfl:n=i:=by omega
    have hpl:ps.length=n:=by
     have:=jk (f:=p.re.write) n c;rw [← HPS.out.1] at this;exact this
    rw [Z6,List.replicate_zero,xH] at H;have HPL:=zh hpl;have hl64:c1.sets.length<=64:=by
     have h1:=HC.out.2;have h2:=HPS.out.2.2.2;omega
    clear hpl;go_wp2_with (first|refine sL ?_|(refine sS ?_;clear H;intros;rename_i H));rename_i b8 _ _ _ _;go_loopg [9] n (fun mm v9 wr=>RpRelB w N bw b3 b4 b8 gk n ln false c1 ps #[.int .i64 5,.int .u64 (s0:Nat),.int .u64 (s1:Nat),.int .u64 (s2:Nat),.int .u64 (s3:Nat),.int .i64 (ln:Int),.int .i64 (n:Int),.slice (some ⟨gp,op,none⟩) 1 cp] mm v9 wr);case atStart=>exact ⟨n,(n:Int)-1,sv1,fv1,⟨true,0,0⟩,c1,rfl,zp _,rfl,rfl,(by rw [xg (by rw [HPL.out];exact zp _)];rfl),HPS.out.2.1,⟨by decide,by decide,fun i hi=>by simp at hi,fun i hi=>by simp at hi⟩,rfl,H.picks (.cons pk (.cons pk (.cons pk (.cons pk (.cons pk .nil)))))⟩
    case round =>
     clear H;obtain ⟨k,j,sv2,fv2,W,C,hmm,hk,rfl,hj,hW,hC,hWf,hCs,H⟩:=hrel;obtain rfl:=hmm.symm;have HW:=zh (za hW (za hC (za hWf hCs)));clear hW hC hWf hCs;rcases qR k with rfl|hk0
     ·obtain rfl:j = -1:=by omega
      have e1:yN ln (decide (((n:Nat):Int)<0)) 0 (qd p.re.write n c).1 (qd p.re.write n c).2=(W,C):=by
       rw [← HPS.out.1];have h1:=HW.out.1;rw [y8] at h1;rw [h1];rw [show decide (((n:Nat):Int)<0)=false from decide_eq_false (by omega)]
      have HE:=zh e1;clear e1 hj;go_wp2_with (first|refine sL ?_|(refine sS ?_;clear H;intros;rename_i H));refine bodyPost_ret (qy rfl H rfl pk rfl) rfl ?_;rw [HE.out];exact ⟨rfl,sv2,fv2,H.picks (.cons pk .nil)⟩
     ·obtain ⟨kk,rfl⟩:∃ z,k=z+1:=⟨k-1,by omega⟩
      obtain rfl:j=((kk:Nat):Int):=by omega
      have hkn:kk<n:=(by omega);obtain ⟨⟨pn,pf,pl⟩,hp⟩:∃ q,ps[kk]?=some q:=⟨_,zg (by rw [HPL.out];exact hkn)⟩
      have HRP:Hid (∀ w,(zi Zx 81 3 (.slice (some ⟨gk,0,none⟩) n n) ps).ho w->w.rangeAt gk (kk*3) [.bool pn,.int .u64 (pf:Nat),.int .u64 (pl:Nat)]):=zh fun w h=>jC h jA hp
      have hfp:=HPS.out.2.2.1 _ (zc hp);have hjs:=Xr (lo:=ln) (loop:=false) (c:=c1) hp;rw [← HW.out.1] at hjs;simp only at hjs;have HJS:=zh hjs;have HFP:=zh hfp;clear hjs hfp hp hj hk0;have g1:decide ((0:Int)<=(kk:Int))=true:=decide_eq_true (by omega);have g2:decide ((kk:Int)<(n:Int))=true:=(by simp;omega);have g2n:decide (kk<n)=true:=(by simp;omega);by_cases hle:ln<=kk
      ·have g3:decide ((ln:Int)<=(kk:Int))=true:=(by simp;omega);have g3n:decide (ln<=kk)=true:=(by simp;omega);have g4:decide ((n:Int)<0)=false:=decide_eq_false (by omega);have HLE:=zh hle;clear hle;go_wp2_with (first|refine sL ?_|(refine sS ?_;clear H;intros;rename_i H)|((with_reducible refine qN ?_);refine AtLoad.rngT rfl rfl rfl (HRP.out _ (H.get pk)) rfl ?_;simp only [Act.put,puA,puB,puC]));have HCL:ChOk C:=HW.out.2.1;have hcs9:C.sets.length=c1.sets.length:=(by rw [HW.out.2.2.2]);have hfa:(Pt.mk pn pf pl).Fit C.sets.length:=(by rw [hcs9];exact HFP.out);have HSQ:Hid (∀ (sv fv:Value) (w:World),(wA bw sv fv C).ho w->Ks w (wA bw sv fv C).fp [deA,zw P]->Calls z6 47 #[.pointer (some ⟨bw,0,none⟩),.agg #[.bool pn,.int .u64 (pf:Nat),.int .u64 (pl:Nat)],.agg #[.bool W.nul,.int .u64 (W.fst:Nat),.int .u64 (W.lst:Nat)]] w fun e w'=>e=.returned (.agg #[.bool (qJ ⟨pn,pf,pl⟩ W).nul,.int .u64 ((qJ ⟨pn,pf,pl⟩ W).fst:Nat),.int .u64 ((qJ ⟨pn,pf,pl⟩ W).lst:Nat)])∧St w (wA bw sv fv C).fp [wA bw sv fv (C.link pl W.fst)] w'):=zh fun sv fv w h k=>YM (c:=C) (a:=⟨pn,pf,pl⟩) (b:=W) hfa HW.out.2.2.1 HCL w h (fun h9=>k.apart deA (by simp) 1 (by rw [wt];simp) h9) (k.ho deA (by simp))
       have hsf:=hfa.seq HW.out.2.2.1;have hnx:=HJS.out;rw [HPL.out] at hnx;obtain ⟨⟨sn,sf,sl⟩,hsq⟩:∃ z,qJ ⟨pn,pf,pl⟩ W=z:=⟨_,rfl⟩
       rw [hsq] at HSQ hnx hsf;simp only at HSQ hnx;have HNX:Hid (((⟨true,sf,sl⟩:Pt),C.link pl W.fst)=yN ln false kk (ps.drop kk) c1∧ChOk (C.link pl W.fst)∧(Pt.mk true sf sl).Fit (C.link pl W.fst).sets.length∧(C.link pl W.fst).sets=c1.sets):=zh ⟨by
        rw [hnx];simp [HLE.out]
        , HCL.link HW.out.2.2.1.fb,⟨hsf.fb,hsf.lb,hsf.fp,hsf.lp⟩,HW.out.2.2.2⟩
       clear hcs9 hfa hsf hnx hsq HCL;refine zm (HSQ.out _ _ _ (H.get pk) (H.ksub HK (by simp))) ?_;rintro e wc ⟨rfl,hb⟩;replace H:=(H.pick pk).call hb;simp only [z7,z8] at H;clear hb;go_wp2_with (first|refine sL ?_|(refine sS ?_;clear H;intros;rename_i H));go_roundg kk;case measure=>omega
       case rel=>exact ⟨kk,(kk:Int)-1,sv2,fv2,⟨true,sf,sl⟩,C.link pl W.fst,rfl,by omega,(by first|rfl|go_num),rfl,HNX.out.1,HNX.out.2.1,HNX.out.2.2.1,HNX.out.2.2.2,H.picks (.cons pk (.cons pk (.cons pk (.cons pk (.cons pk .nil)))))⟩
      ·have g3:decide ((ln:Int)<=(kk:Int))=false:=(by simp;omega);have g3n:decide (ln<=kk)=false:=(by simp;omega);have g4:decide ((n:Int)<0)=false:=decide_eq_false (by omega);have HLE:=zh hle;clear hle;go_wp2_with (first|refine sL ?_|(refine sS ?_;clear H;intros;rename_i H)|((with_reducible refine qN ?_);refine AtLoad.rngT rfl rfl rfl (HRP.out _ (H.get pk)) rfl ?_;simp only [Act.put,puA,puB,puC]));have HCL:ChOk C:=HW.out.2.1;have hcs9:C.sets.length=c1.sets.length:=(by rw [HW.out.2.2.2]);have hfa:(Pt.mk pn pf pl).Fit C.sets.length:=(by rw [hcs9];exact HFP.out);have HSQ:Hid (∀ (sv fv:Value) (w:World),(wA bw sv fv C).ho w->Ks w (wA bw sv fv C).fp [deA,zw P]->Calls z6 47 #[.pointer (some ⟨bw,0,none⟩),.agg #[.bool pn,.int .u64 (pf:Nat),.int .u64 (pl:Nat)],.agg #[.bool W.nul,.int .u64 (W.fst:Nat),.int .u64 (W.lst:Nat)]] w fun e w'=>e=.returned (.agg #[.bool (qJ ⟨pn,pf,pl⟩ W).nul,.int .u64 ((qJ ⟨pn,pf,pl⟩ W).fst:Nat),.int .u64 ((qJ ⟨pn,pf,pl⟩ W).lst:Nat)])∧St w (wA bw sv fv C).fp [wA bw sv fv (C.link pl W.fst)] w'):=zh fun sv fv w h k=>YM (c:=C) (a:=⟨pn,pf,pl⟩) (b:=W) hfa HW.out.2.2.1 HCL w h (fun h9=>k.apart deA (by simp) 1 (by rw [wt];simp) h9) (k.ho deA (by simp))
       have hsf:=hfa.seq HW.out.2.2.1;have hnx:=HJS.out;rw [HPL.out] at hnx;obtain ⟨⟨sn,sf,sl⟩,hsq⟩:∃ z,qJ ⟨pn,pf,pl⟩ W=z:=⟨_,rfl⟩
       rw [hsq] at HSQ hnx hsf;simp only at HSQ hnx;have HNX:Hid (((⟨sn,sf,sl⟩:Pt),C.link pl W.fst)=yN ln false kk (ps.drop kk) c1∧ChOk (C.link pl W.fst)∧(Pt.mk sn sf sl).Fit (C.link pl W.fst).sets.length∧(C.link pl W.fst).sets=c1.sets):=zh ⟨by
        rw [hnx];simp [HLE.out]
        , HCL.link HW.out.2.2.1.fb,⟨hsf.fb,hsf.lb,hsf.fp,hsf.lp⟩,HW.out.2.2.2⟩
       clear hcs9 hfa hsf hnx hsq HCL;refine zm (HSQ.out _ _ _ (H.get pk) (H.ksub HK (by simp))) ?_;rintro e wc ⟨rfl,hb⟩;replace H:=(H.pick pk).call hb;simp only [z7,z8] at H;clear hb;go_wp2_with (first|refine sL ?_|(refine sS ?_;clear H;intros;rename_i H));go_roundg kk;case measure=>omega
       case rel=>exact ⟨kk,(kk:Int)-1,sv2,fv2,⟨sn,sf,sl⟩,C.link pl W.fst,rfl,by omega,(by first|rfl|go_num),rfl,HNX.out.1,HNX.out.2.1,HNX.out.2.2.1,HNX.out.2.2.2,H.picks (.cons pk (.cons pk (.cons pk (.cons pk (.cons pk .nil)))))⟩
end
section
open Go.RowKit Go.Maps
attribute [local go_sem] qM
attribute [local irreducible] wA
theorem VW {P:zT} {hh:Hd} {l:List Rx} (hk:hh.k=1):WrC P (.mk hh l):=by
 intro x c bw sv fv w hx hc hlen h k9;have H:=St.one h;have HK:=k9;obtain ⟨rows,hhd,hfit,hrow,hrl,hrx⟩:=hx.inv;simp only [Rx.hd] at hhd;subst hhd;have hre:(Rx.mk x.h l).re.write c=(⟨true,0,0⟩,c):=by
  rw [Rx.re,if_neg (by omega),if_neg (by omega),if_neg (by omega),if_neg (by omega),Re.write]
 rw [hre];unfold wE;obtain ⟨N,hN⟩:∃ N,(wA bw sv fv c).fp=N:=⟨_,rfl⟩
 rw [hN] at H HK ⊢;obtain ⟨ad,cp,epv,hml⟩:=hrow.shape;obtain ⟨⟨k,s0,s1,s2,s3,lo,hi⟩,pv⟩:=x;simp only at epv hk ⊢;subst epv;subst hk;clear h k9 hx hfit hrow hrl hrx hc hlen hre hN hml;go_enter Xb,Y8;go_wp2_with (first|refine sL ?_|(refine sS ?_;clear H;intros;rename_i H));refine bodyPost_ret (qy rfl H rfl pk rfl) rfl ?_;exact ⟨rfl,sv,fv,H.picks (.cons pk .nil)⟩
theorem VY {P:zT} {hh:Hd} {p:Rx} (hk:hh.k=5) (hv:(Rx.mk hh [p]).valid=true) (hw:WrC P p):WrC P (.mk hh [p]):=by
 intro x c bw sv fv w hx hc hlen h k9;have hrp:=fun (w:World) (h:(wA bw sv fv c).ho w) (k:Ks w (wA bw sv fv c).fp [deA,zw P])=>repeat_c hk hv hw (x:=x) (c:=c) bw sv fv w hx hc hlen h k
 have H:=St.one h;have HK:=k9;obtain ⟨rows,hhd,hfit,hrow,hrl,hrx⟩:=hx.inv;simp only [Rx.hd] at hhd;subst hhd;unfold wE at hrp ⊢;obtain ⟨⟨⟨rn,rf,rl⟩,c2⟩,hres⟩:∃ z,(Rx.mk x.h [p]).re.write c=z:=⟨_,rfl⟩
 rw [hres] at hrp ⊢;obtain ⟨N,hN⟩:∃ N,(wA bw sv fv c).fp=N:=⟨_,rfl⟩
 rw [hN] at H HK ⊢;obtain ⟨ad,cp,epv,hml⟩:=hrow.shape;obtain ⟨⟨k,s0,s1,s2,s3,lo,hi⟩,pv⟩:=x;simp only at epv hk hrp ⊢;subst epv;subst hk;have HRP:=zh hrp;clear h k9 hx hfit hrow hrl hrx hc hlen hN hml hrp hres hv hw;go_enter Xb,Y8;go_wp2_with (first|refine sL ?_|(refine sS ?_;clear H;intros;rename_i H));refine zm (HRP.out _ (H.get pk) (H.ksub HK (by simp))) ?_;rintro e wc ⟨rfl,sv2,fv2,hb⟩;replace H:=(H.pick pk).call hb;simp only [z7,z8] at H;clear hb;go_wp2_with (first|refine sL ?_|(refine sS ?_;clear H;intros;rename_i H));refine bodyPost_ret (qy rfl H rfl pk rfl) rfl ?_;exact ⟨rfl,sv2,fv2,H.picks (.cons pk .nil)⟩
theorem set_one {P:zT} {hh:Hd} {l:List Rx} (hk:hh.k=2):WrC P (.mk hh l):=by
 intro x c bw sv fv w hx hc hlen h k9;obtain ⟨rows,hhd,hfit,hrow,hrl,hrx⟩:=hx.inv;simp only [Rx.hd] at hhd;subst hhd;have hre:(Rx.mk x.h l).re=.set x.h.set:=(by rw [Rx.re,if_pos hk]);have hpos:1<=(Rx.mk x.h l).pos:=by
  rw [Rx.pos,if_pos hk];have:x.h.cop=1:=by unfold Hd.cop;rw [if_neg (by omega)]
  rw [this];omega
 obtain ⟨ad,cp,epv,hml⟩:=hrow.shape;rw [hre];exact write_set hk hc (by omega) w h (by rw [epv];rfl)
theorem Vb {P:zT}:∀ (r:Rx),r.valid=true->WrC P r
 |.mk hh l,hv=>by
  have hrec:∀ p∈l,WrC P p:=fun p hp=>Vb p ((Rx.valid_iff.1 hv).2 p hp)
  have hcs:=Hd.cases (Rx.valid_iff.1 hv).1;simp only [Rx.hd,Rx.ps] at hcs;rcases hcs with ⟨h,_⟩|⟨h,_⟩|⟨h,_⟩|⟨h,_⟩|⟨h,hl,_⟩
  ·exact VW h
  ·exact set_one h
  ·exact VZ h hv hrec
  ·exact VV h hv hrec
  ·match l,hl,hrec,hv with
   |[p],_,hrec,hv=>exact VY h hv (hrec p (by simp))
end
end Go.Proofs.YtminpdngkjlehaaDoor
