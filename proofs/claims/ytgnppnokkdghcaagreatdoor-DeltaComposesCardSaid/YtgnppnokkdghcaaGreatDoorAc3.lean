/-
  Part 3 of the texts behind the statements of this seat: walks and laws Ge, Fh, Fi, Fj, Fl, Fw, Gf. Conditions: as each states.
-/
import Derived.Test.YtgnppnokkdghcaaGreatDoorAc2
set_option linter.unusedSimpArgs false
set_option linter.unusedVariables false
set_option maxRecDepth 100000
set_option maxHeartbeats 80000000
namespace Go.Proofs.YtgnppnokkdghcaaGreatDoor
section
open Go.RowKit Go.Maps
attribute [local go_sem] InGr strB_size
theorem win_zero:∀ (qs:List Pz) (f:Nat),win qs f 0=[]
 |[],_=>rfl
 |q::r,f=>by rw [win,if_pos rfl]
theorem win_skip {f n:Nat}:∀ (k:Nat) (qs:List Pz),k<=qs.length->(∀ i,i<k->szL (qs.take (i+1))<=f)->win qs f n=win (qs.drop k) (f-szL (qs.take k)) n
 |0,qs,_,_=>by simp [szL]
 |k+1,qs,hk,h=>by
  rw [win_skip k qs (by omega) fun i hi=>h i (by omega)];obtain ⟨q,hq⟩:∃ q,qs[k]?=some q:=⟨_,zg (by omega)⟩
  have e1:qs.drop k=q::qs.drop (k+1):=by
   rw [List.drop_eq_getElem_cons (by omega)];congr 1
   have:=zg (l:=qs) (i:=k) (by omega);rw [hq] at this;exact (Option.some.inj this).symm
  have e2:=szL_take_succ hq;have e3:=h k (by omega);rw [e1,win];split
  ·rename_i h0;subst h0;rw [win_zero]
  ·rw [if_pos (by omega),e2,Nat.sub_sub]
theorem win_at {qs:List Pz} {i cur rem:Nat} {q:Pz} (hq:qs[i]?=some q) (h1:szL (qs.take i)<=cur) (h2:cur<szL (qs.take (i+1))) (hr:0<rem) :
  win (qs.drop i) (cur-szL (qs.take i)) rem=sgP q (cur-szL (qs.take i)) (min rem (szP q-(cur-szL (qs.take i))))::win (qs.drop (i+1)) (cur+min rem (szP q-(cur-szL (qs.take i)))-szL (qs.take (i+1))) (rem-min rem (szP q-(cur-szL (qs.take i)))):=by
 have hi:=gelt hq;have e1:qs.drop i=q::qs.drop (i+1):=by
  rw [List.drop_eq_getElem_cons hi];congr 1
  have:=zg (l:=qs) (i:=i) hi;rw [hq] at this;exact (Option.some.inj this).symm
 have e2:=szL_take_succ hq;rw [e1,win,if_neg (by omega),if_neg (by omega)];congr 1
 by_cases h0:rem-min rem (szP q-(cur-szL (qs.take i)))=0
 ·rw [h0,win_zero,win_zero]
 ·rw [show cur+min rem (szP q-(cur-szL (qs.take i)))-szL (qs.take (i+1))=0 by omega]
def endsL (qs:List Pz):List Nat:=(List.range qs.length).map fun i=>szL (qs.take (i+1))
theorem endsL_len (qs:List Pz):(endsL qs).length=qs.length:=by simp [endsL]
theorem endsL_at {qs:List Pz} {i:Nat} (h:i<qs.length):(endsL qs)[i]?=some (szL (qs.take (i+1))):=by simp [endsL,List.getElem?_range h]
theorem szL_mono (qs:List Pz) (i j:Nat) (h:i<=j):szL (qs.take i)<=szL (qs.take j):=by
 have:=szL_take (qs.take j) i;rwa [List.take_take,Nat.min_eq_left h] at this
theorem endsL_asc (qs:List Pz) (i j a b:Nat) (h:i<=j) (ha:(endsL qs)[i]?=some a) (hb:(endsL qs)[j]?=some b):a<=b:=by
 have hi:=gelt ha;have hj:=gelt hb;rw [endsL_len] at hi hj;rw [endsL_at hi] at ha;rw [endsL_at hj] at hb;cases ha
 cases hb
 exact szL_mono qs _ _ (by omega)
def WiRel (X:Px) (N:List Nat) (w:World) (b9 xid:Nat) (qs outq:List Pz) (o0 f0 n0 n m:Nat) (v1 v:Value) (wr:World):Prop :=
 ∃ (i:Nat) (X1:Px) (out:List Pi) (cur rem:Nat),m=n-i∧i<=n∧v=.int .i64 i∧((∃ L,PiL X1.S out (outq++L)∧win qs f0 n0=L++win (qs.drop i) (cur-szL (qs.take i)) rem)∧(rem=0∨szL (qs.take i)<=cur∧(i<n->cur<szL (qs.take (i+1))))∧cur+rem=f0+n0∧X.Ext X1∧PxOk X1∧X1.S.list.length<=X.S.list.length+2*txL (qs.take i)∧out.length<=o0+i)∧St w N [pA X1,rowsA encPi 98 4 v1 out,blk b9 (.cells #[.bool true,.int .i64 (cur:Nat),.int .i64 (rem:Nat),.int .i64 (xid:Nat)] 98)] wr
abbrev WiPost (X:Px) (qs:List Pz) (o0 k:Nat) (M:List Nat) (w:World) (e:Ending) (w':World):Prop :=
 ∃ (X':Px) (v':Value) (ps:List Pi),e=.returned (.tuple #[v',.nilIface])∧X.Ext X'∧PxOk X'∧PiL X'.S ps qs∧X'.S.list.length<=X.S.list.length+k∧ps.length<=o0∧St w M [pA X',rowsA encPi 98 4 v' ps] w'
theorem within_c {X:Px} {ps out:List Pi} {qs outq:List Pz} {ad:Option Addr} {c ge ce n s f m xid:Nat} {v1:Value} (hX:PxOk X) (hps:PiL X.S ps qs) (hn:ps.length=n) (hnb:n<=1024) (hchk:∀ q∈qs,chkP s q=0) (hs:s<=1048576) (htot:szL qs<=1048576) (hout:PiL X.S out outq) (hob:out.length<=65536) (hfm:f+m<=szL qs) (hroom:X.S.list.length+2*txL qs<=X.S.most) (w:World) (h:(((pA X).sep (rowsA encPi 98 4 v1 out)).sep deA).ho w) (hd:(((pA X).sep (rowsA encPi 98 4 v1 out)).sep (rowsA encPi 98 4 (.slice ad n c) ps)).ho w) (he:(((pA X).sep (rowsA encPi 98 4 v1 out)).sep (rowsA encI 3 1 (.slice (some ⟨ge,0,none⟩) n ce) (endsL qs))).ho w) :
  Calls Tryz.prog 66 #[.pointer (some ⟨X.p,0,none⟩),v1,.slice ad n c,.slice (some ⟨ge,0,none⟩) n ce,.agg #[.bool true,.int .i64 (f:Nat),.int .i64 (m:Nat),.int .i64 (xid:Nat)]] w (WiPost X (outq++win qs f m) (out.length+n) (2*txL qs) ((pA X).sep (rowsA encPi 98 4 v1 out)).fp w):=by
 rw [sep_ho] at h hd he;have H:=(St.one h.1).sep;have HK:Ks w ((pA X).sep (rowsA encPi 98 4 v1 out)).fp [deA,rowsA encPi 98 4 (.slice ad n c) ps,rowsA encI 3 1 (.slice (some ⟨ge,0,none⟩) n ce) (endsL qs)]:=⟨fun A hA=>by
   simp at hA;rcases hA with rfl|rfl|rfl
   ·exact h.2.1
   ·exact hd.2.1
   ·exact he.2.1,fun A hA b hbA hm=>by
   simp at hA;rcases hA with rfl|rfl|rfl
   ·exact h.2.2 b hm hbA
   ·exact hd.2.2 b hm hbA
   ·exact he.2.2 b hm hbA⟩
 generalize ((pA X).sep (rowsA encPi 98 4 v1 out)).fp=N at H HK ⊢;clear h hd he;have hsl:=hps.len;have HRW:Hid (∀ (i:Nat) (a:Pi),ps[i]?=some a->∃ g,ad=some ⟨g,0,none⟩∧∀ w,(rowsA encPi 98 4 (.slice ad n c) ps).ho w->w.rangeAt g (i*4) [.bool a.c,.int .i64 a.f,.int .i64 a.n,.int .i64 a.id]):=zh fun i a hi=>by
  obtain ⟨g,c8,e1,_⟩:=rowsA_cases (HK.ho (rowsA encPi 98 4 (.slice ad n c) ps) (by simp)) (by have:=gelt hi;omega);injection e1 with e1 _ _
  exact ⟨g,e1,fun w h=>by rw [e1] at h;exact rowsA_rng h encPi_len hi⟩
 have HEN:Hid (∀ i,i<n->∀ w,(rowsA encI 3 1 (.slice (some ⟨ge,0,none⟩) n ce) (endsL qs)).ho w->w.cell? ⟨ge,i,none⟩=some (.int .i64 (szL (qs.take (i+1)):Nat))):=zh fun i hi w h=>by
  have:=rowsA_cell h encI_len (endsL_at (i:=i) (by omega)) (j:=0) rfl;simpa using this
 have HSI:Hid (∀ w,(rowsA encI 3 1 (.slice (some ⟨ge,0,none⟩) n ce) (endsL qs)).ho w->Calls Tryz.prog 100 #[.slice (some ⟨ge,0,none⟩) n ce,.int .i64 ((f:Int)+1)] w fun e w'=>∃ k:Nat,e=.returned (.int .i64 k)∧First (endsL qs) (f+1) k∧St w [] [] w'):=zh fun w h=>searchInts_c (x:=f+1) (endsL_asc qs) (by rw [endsL_len];omega) (by omega) w h
 have HIN:Hid (PiL X.S ps qs∧ps.length=n∧qs.length=n∧n<=1024∧(∀ q∈qs,chkP s q=0)∧PxOk X∧X.S.list.length+2*txL qs<=X.S.most∧szL qs<=1048576∧s<=1048576∧f+m<=szL qs∧out.length<=65536∧PiL X.S out outq):=zh ⟨hps,hn,by omega,hnb,hchk,hX,hroom,htot,hs,hfm,hob,hout⟩;have hfb:f+m<=1048576:=(by omega);clear hX hps hn hchk htot hs hfm hob hout hroom hsl;go_enter Tryz.func66,Tryz.ntmps66;go_wp2_with (first|refine sL ?_|(refine sS ?_;clear H;intros;rename_i H)|(go_at_call 100;with_reducible refine zm (HSI.out _ (H.known HK pk)) ?_;rintro e9 wc ⟨k0,rfl,hf0,hb⟩;have HF0:=zh hf0;clear hf0;replace H:=H.grew hb.below;clear hb));rename_i b9 w9 K9 a9;go_loopg [1,13] (n-k0) (fun q v1 v2 wr=>WiRel X N w b9 xid qs outq out.length f m n q v1 v2 wr);case atStart =>
  have h1:=HF0.out;have h2:=h1.le;rw [endsL_len,HIN.out.2.2.1] at h2;have hlo:∀ i,i<k0->szL (qs.take (i+1))<=f:=fun i hi=>by
   have:=h1.lt i _ hi (endsL_at (by have:=HIN.out.2.2.1;omega));omega
  refine ⟨k0,X,out,f,m,rfl,h2,rfl,⟨⟨[],by simpa using HIN.out.2.2.2.2.2.2.2.2.2.2.2,by rw [List.nil_append];exact win_skip k0 qs (by have:=HIN.out.2.2.1;omega) hlo⟩,.inr ⟨?_,fun hk=>?_⟩,rfl,.refl _,HIN.out.2.2.2.2.2.1,by omega,by omega⟩,H.picks (.cons pk (.cons pk (.cons pk .nil)))⟩
  ·cases k0 with
   |zero=>simp [szL]
   |succ k=>exact hlo k (by omega)
  ·have:=h1.ge k0 _ (Nat.le_refl _) (endsL_at (by have:=HIN.out.2.2.1;omega));omega
 case round =>
  clear H;obtain ⟨i,X1,out1,cur,rem,rfl,hik,rfl,hrel,H⟩:=hrel;have HRL:=zh hrel;obtain ⟨ad2,c2,rfl,_⟩:=rowsA_shape (H.get (A:=rowsA encPi 98 4 _ out1) pk);have HTT9:Hid (∀ i,txL (qs.take i)<=txL qs):=zh fun i=>txL_take qs i
  by_cases hlt:i<n
  ·have d5:decide ((i:Int)<(n:Int))=true:=(by simp;omega);have d5n:decide (i<n)=true:=(by simp;omega);have hib:i<=1024:=(by omega);by_cases hrm:0<rem
   ·have d6:decide ((0:Int)<(rem:Int))=true:=(by simp;omega);have d6n:decide (0<rem)=true:=(by simp;omega);obtain ⟨p,hp⟩:∃ a,ps[i]?=some a:=⟨_,zg (by rw [HIN.out.2.1];exact hlt)⟩
    obtain ⟨q,hq,hpq⟩:=HIN.out.1.get hp;obtain ⟨g,rfl,hcell⟩:=HRW.out i p hp;have hck:=HIN.out.2.2.2.2.1 q (List.mem_of_getElem? hq);have HRX:=zh hcell;obtain ⟨hq1,hq2⟩:=hrel.2.1.resolve_left (by omega);have hq2:=hq2 hlt;have hts:=szL_take_succ hq;have HTX:=zh (txL_take_succ hq);have HTT:=zh (txL_take qs (i+1));have hE:=szL_take qs (i+1);have HWA:=zh (win_at hq hq1 hq2 hrm);have HEC:=zh (HEN.out i hlt);have hcr:=hrel.2.2.1;obtain ⟨B,hB⟩:∃ k,szL (qs.take i)=k:=⟨_,rfl⟩
    obtain ⟨E,hEe⟩:∃ k,szL (qs.take (i+1))=k:=⟨_,rfl⟩
    obtain ⟨sz,hsz⟩:∃ k,szP q=k:=⟨_,rfl⟩
    obtain ⟨a,ha⟩:∃ k,cur-B=k:=⟨_,rfl⟩
    obtain ⟨rr,hrr⟩:∃ k,sz-a=k:=⟨_,rfl⟩
    obtain ⟨k,hk⟩:∃ k,min rem rr=k:=⟨_,rfl⟩
    have htt:=HIN.out.2.2.2.2.2.2.2.1;rw [hB] at hq1 hts HWA;rw [hEe] at hq2 hts hE HWA HEC;rw [hsz] at hts HWA;rw [ha,hrr,hk] at HWA;have HWA0:cur-B=a:=ha;have HEQ:Hid (szL (qs.take i)=B∧szL (qs.take (i+1))=E∧szP q=sz):=zh ⟨hB,hEe,hsz⟩;have hEs:E<=1048576:=(by omega);have i1:(E:Int)-(sz:Int)=(B:Int):=(by omega);have i2:(cur:Int)-(B:Int)=(a:Int):=(by omega);have i3:(sz:Int)-(a:Int)=(rr:Int):=(by omega);have i4:(if rr<rem then (rr:Int) else (rem:Int))=(k:Int):=(by split <;> omega);have i6:1<=k∧k<=rem∧a+k<=sz:=(by omega);have i5:(rem:Int)-(k:Int)=((rem-k:Nat):Int):=(by omega);have HPS:Hid (∀ w,(pA X1).ho w->Calls Tryz.prog 58 #[.pointer (some ⟨X.p,0,none⟩),.agg #[.bool p.c,.int .i64 p.f,.int .i64 p.n,.int .i64 p.id]] w fun e w'=>e=.returned (.tuple #[.int .i64 (sz:Nat),.nilIface])∧St w [] [] w'):=zh fun w h=>by
     have:=pieceSize_c HRL.out.2.2.2.2.1 (hpq.le HIN.out.2.2.2.2.2.1.ok HRL.out.2.2.2.1.le) (chk_pos hck).1 w h;rwa [HRL.out.2.2.2.1.p,hsz] at this
    clear hrel hp hq hcell hB hEe hsz hk ha;go_wp2_with (first|refine sL ?_|(refine sS ?_;clear H;intros;rename_i H)|(go_at_call 58;with_reducible refine zm (HPS.out _ (H.get pk)) ?_;rintro e9 wc ⟨rfl,hb⟩;replace H:=H.grew hb.below;clear hb)|((with_reducible refine isLoad ?_);refine AtLoad.rngT rfl rfl rfl (HRX.out _ (H.known HK pk)) rfl ?_;simp only [Act.put,puA,puB,puC]));refine wp_region_h H 10 [] [] (by kernel_rfl) (by kernel_rfl) ?_;apply Exists.intro;refine ⟨fun w1 hw1 HX=>?_,fun bs wr Hr=>?_⟩
    ·refine sG ?_;repeat (first|go_big_quiet_skip|refine sQ ?_|((with_reducible refine isQLoad ?_);refine QtLoad.cel rfl rfl rfl rfl (fun y=>HEC.out _ ((HX y).known HK (A:=rowsA encI 3 1 (.slice (some ⟨ge,0,none⟩) n ce) (endsL qs)) pk)) ?_;simp only [Act.put,puA,puB,puC])|go_big_quiet_step (fail))
     exact wpQuiet_nil rfl
    clear H;have H:=Hr;clear Hr;replace H:=sH H;refine sT ?_;obtain ⟨pc,pf,pn,pid⟩:=p;obtain ⟨qc,qf,qn,qt⟩:=q;obtain ⟨g1,g2,g3,g4⟩:=hpq;simp only at g1 g2 g3 g4 HRX;subst g1 g2 g3;have HC0:Hid (∀ w,(rowsA encPi 98 4 (.slice (some ⟨g,0,none⟩) n c) ps).ho w->w.cell? ⟨g,i*4,none⟩=some (.bool pc)):=zh fun w h=>HRX.out w h 0 _ rfl
    have HC1:Hid (∀ w,(rowsA encPi 98 4 (.slice (some ⟨g,0,none⟩) n c) ps).ho w->w.cell? ⟨g,i*4+1,none⟩=some (.int .i64 pf)):=zh fun w h=>HRX.out w h 1 _ rfl
    have HC3:Hid (∀ w,(rowsA encPi 98 4 (.slice (some ⟨g,0,none⟩) n c) ps).ho w->w.cell? ⟨g,i*4+3,none⟩=some (.int .i64 (pid:Nat))):=zh fun w h=>HRX.out w h 3 _ rfl
    have HCK:=zh hck;have HID:Hid (IdIs X1.S pid (qt.map Tr.leaf)):=zh (g4.le HIN.out.2.2.2.2.2.1.ok HRL.out.2.2.2.1.le);have hob:out1.length<=70000:=(by have h1:=HRL.out;have h2:=HIN.out;omega);have hrest:Hid (∀ (X2:Px) (p2:Pi),X1.Ext X2->PxOk X2->X2.S.list.length<=X1.S.list.length+2*qt.length->PiOk X2.S p2 (sgP ⟨pc,pf,pn,qt⟩ a k)->(∃ L,PiL X2.S (out1++[p2]) (outq++L)∧win qs f m=L++win (qs.drop (i+1)) (cur+k-szL (qs.take (i+1))) (rem-k))∧(rem-k=0∨szL (qs.take (i+1))<=cur+k∧(i+1<n->cur+k<szL (qs.take (i+1+1))))∧cur+k+(rem-k)=f+m∧X.Ext X2∧PxOk X2∧X2.S.list.length<=X.S.list.length+2*txL (qs.take (i+1))∧(out1++[p2]).length<=out.length+(i+1)):=zh fun X2 p2 q1 q2 q3 q4=>by
     obtain ⟨⟨L,r1,r2⟩,r3,r4,r5,r6,r7,r8⟩:=HRL.out;obtain ⟨z1,z2,z3⟩:=HEQ.out;refine ⟨⟨L++[sgP ⟨pc,pf,pn,qt⟩ a k],?_,?_⟩,?_,by omega,r5.trans q1,q2,?_,by simp;omega⟩
     ·rw [← List.append_assoc];exact (r1.le r6.ok q1.le).append ⟨q4,trivial⟩
     ·rw [r2,z1,HWA0,HWA.out,z2];simp
     ·by_cases h0:rem-k=0
      ·exact .inl h0
      ·refine .inr ⟨by rw [z2];omega,fun hi=>?_⟩;obtain ⟨q',hq'⟩:∃ a,qs[i+1]?=some a:=⟨_,zg (by rw [HIN.out.2.2.1];exact hi)⟩
       have e1:=szL_take_succ hq';have e2:=chk_one (HIN.out.2.2.2.2.1 q' (List.mem_of_getElem? hq'));rw [z2] at e1;omega
     ·have:=HTX.out;simp only at this;omega
    clear hck g4;cases pc with
    |true =>
     obtain ⟨e1,e2⟩:=chk_pos HCK.out;obtain ⟨e3,e4,e5⟩:=e2 rfl;simp only at e1 e3 e4 e5;obtain ⟨f1,rfl⟩:∃ f:Nat,pf=f:=⟨pf.toNat,by omega⟩
     have hfb1:f1<=1048576:=(by have:=HIN.out.2.2.2.2.2.2.2.2.1;omega);clear e1 e2 e3 e4 e5;go_wp2_with (first|refine sL ?_|(refine sS ?_;clear H;intros;rename_i H)|((with_reducible refine isSlice ?_);refine AtSlice.one H rfl rfl rfl rfl rfl rfl rfl rfl rfl ?_;clear H;intro b8 _ H;simp only [Act.put,puA,puB,puC])|((with_reducible refine isAppend ?_);refine AtAppend.go (enc:=encPi) H rfl rfl rfl rfl rfl (by decide) (by decide) rfl pk rfl (H.at pk) [(⟨true,(f1:Int)+(a:Int),(k:Int),0⟩:Pi)] rfl (by simp [flatG,encPi]) encPi_len encPi_one (by simp;omega) ?_;clear H;intro ad9 cp9 _ H;simp only [Act.put,puA,puB,puC]));go_roundg (n-(i+1));case measure=>omega
     case rel =>
      have h1:=hrest.out X1 ⟨true,(f1:Int)+(a:Int),(k:Int),0⟩ (.refl _) HRL.out.2.2.2.2.1 (by omega) ⟨rfl,rfl,rfl,.inl ⟨rfl,rfl⟩⟩;exact ⟨i+1,X1,_,cur+k,rem-k,rfl,by omega,rfl,h1,H.picks (.cons pk (.cons pk (.cons pk .nil)))⟩
    |false =>
     have HSE:Hid (∀ w,((pA X1).sep deA).ho w->Calls Tryz.prog 56 #[.pointer (some ⟨X.p,0,none⟩),.int .i64 (pid:Nat),.int .i64 (a:Nat),.int .i64 (k:Nat)] w (IdPost X1 (((qt.drop a).take k).map Tr.leaf) (2*qt.length) (pA X1).fp w)):=zh fun w h=>by
      have h1:=HRL.out;have h2:=HIN.out;have h3:=HTX.out;have h4:=HTT.out;have h5:=HEQ.out;have hm:X1.S.most=X.S.most:=h1.2.2.2.1.le.1;have hz:sz=qt.length:=(by rw [← h5.2.2];simp [szP]);simp only at h3;have:=Section_ok h1.2.2.2.2.1 HID.out (from_:=a) (n:=k) (by simp;omega) (by simp;omega) (by rw [hm];simp;omega) w h;rw [h1.2.2.2.1.p,List.length_map,← List.map_drop,← List.map_take] at this;exact this
     go_wp2_with (first|refine sL ?_|(refine sS ?_;clear H;intros;rename_i H)|(go_at_call 56;with_reducible refine zm (HSE.out _ (H.sepK HK pk pk)) ?_;rintro e9 wc ⟨X2,id2,rfl,y1,y2,y3,y4,hb⟩;have HZ:=zh (za y1 (za y2 (za y3 y4)));clear y1 y2 y3 y4;replace H:=zn ((H.pick pk).call hb);clear hb)|((with_reducible refine isSlice ?_);refine AtSlice.one H rfl rfl rfl rfl rfl rfl rfl rfl rfl ?_;clear H;intro b8 _ H;simp only [Act.put,puA,puB,puC])|((with_reducible refine isAppend ?_);refine AtAppend.go (enc:=encPi) H rfl rfl rfl rfl rfl (by decide) (by decide) rfl pk rfl (H.at pk) [(⟨false,0,0,id2⟩:Pi)] rfl (by simp [flatG,encPi]) encPi_len encPi_one (by simp;omega) ?_;clear H;intro ad9 cp9 _ H;simp only [Act.put,puA,puB,puC]));go_roundg (n-(i+1));case measure=>omega
     case rel =>
      have h1:=hrest.out X2 ⟨false,0,0,id2⟩ HZ.out.1 HZ.out.2.1 HZ.out.2.2.2 ⟨rfl,rfl,rfl,HZ.out.2.2.1⟩;exact ⟨i+1,X2,_,cur+k,rem-k,rfl,by omega,rfl,h1,H.picks (.cons pk (.cons pk (.cons pk .nil)))⟩
   ·have h0:rem=0:=(by omega);subst h0;have d6:decide ((0:Int)<((0:Nat):Int))=false:=(by simp);clear hrel;go_wp2_with (first|refine sL ?_|(refine sS ?_;clear H;intros;rename_i H));go_ret2;obtain ⟨⟨L,r1,r2⟩,r3,r4,r5,r6,r7,r8⟩:=HRL.out;rw [win_zero,List.append_nil] at r2;have:=HTT9.out i;refine ⟨X1,_,out1,rfl,r5,r6,by rw [r2];exact r1,by omega,by omega,H.picks (.cons pk (.cons pk .nil))⟩
  ·have d5:decide ((i:Int)<(n:Int))=false:=(by simp;omega);have d5n:decide (i<n)=false:=(by simp;omega);have hin:i=n:=(by omega);clear hrel;go_wp2_with (first|refine sL ?_|(refine sS ?_;clear H;intros;rename_i H));go_ret2;obtain ⟨⟨L,r1,r2⟩,r3,r4,r5,r6,r7,r8⟩:=HRL.out;rw [List.drop_eq_nil_of_le (by rw [HIN.out.2.2.1];omega),win,List.append_nil] at r2;have:=HTT9.out i;refine ⟨X1,_,out1,rfl,r5,r6,by rw [r2];exact r1,by omega,by omega,H.picks (.cons pk (.cons pk .nil))⟩
end
section
open Go.RowKit Go.Maps
attribute [local go_sem] InGr strB_size
theorem AtSlice.litK {t e:TypeId} {n:Nat} {ps:Array (Nat×Operand)} {ops:Array Oper} {Q:Exit->Act->World->Prop} {rest:List Oper} {a:Act} {w w0:World} {M:List Nat} {L:List As} {o1:Oper} (H:St w0 M L w) (hw:Region.wanted o1 (yielded ops a.tmps)=true) (ho:o1.op=.buildSlice t n ps) (hte:sliceO t=some e) {z:Value} {k bytes:Nat} {cs:Array Value} (hi:infoO e=some (z,k,bytes)) (hn:¬ n*k > 2 ^ 24) (hn0:¬ n*k=0)
  (hf:Instr.fill (fun i=>some (i*k,k)) ((Array.range (n*k)).map (z.cells[·%z.cells.size]!)) (ps.map fun (i,x)=>(i,a.eval x)).toList=some cs)
  (h:∀ b w',St w0 M (blk b (.cells cs e)::L) w'->wpList Tryz.prog ops Q rest (a.put o1.dst (.slice (some ⟨b,0,none⟩) n n)) w'):AtSlice Tryz.prog ops Q o1 t n ps rest a w :=
 wpList_step fun _ hK=>by
  rw [if_pos hw];obtain ⟨i,h2,h3,h4,h5⟩:=infoO_ok hi;have hr:=run_buildSlice (P:=Tryz.prog) w t e n (ps.map fun (i,x)=>(i,a.eval x)) cs i z (sliceO_ok hte) h2 h3 (by rw [h4];exact hn) (by rw [h4];exact hn0) (by rw [h4];exact hf);unfold Oper.wp execOp;simp only [ho,Sem.run_bind,hr,Result.andThen_ok,Sem.run_pure];exact hK _ _ (h _ _ (H.alloc _))
def alQs:List Pz:=[⟨true,1,2,[]⟩,⟨true,3,1,[]⟩,⟨false,0,0,[120]⟩]
theorem al_flat:flatG encR alQs=[.bool true,.int .i64 1,.int .i64 2,.string ⟨#[]⟩,.bool true,.int .i64 3,.int .i64 1,.string ⟨#[]⟩,.bool false,.int .i64 0,.int .i64 0,.string ⟨#[120]⟩]:=by
 simp [flatG,encR,alQs,strB]
theorem alive_c (w:World) (hde:deA.ho w):Calls Tryz.prog 13 #[] w fun e w'=>e=.returned (.bool true)∧St w [] [] w':=by
 have H:=St.nil w [];have HK:Ks w [] [deA]:=Ks.one hde;clear hde;have HP:Hid (∀ w,deA.ho w->Calls Tryz.prog 15 #[.string ⟨#[97,98,99,100,101]⟩] w (ParsePost [97,98,99,100,101] w)):=zh fun w h=>by
  have:=parse_c (text:=[97,98,99,100,101]) (by decide) (by decide) w h;rw [show strB [97,98,99,100,101]=⟨#[97,98,99,100,101]⟩ from by simp [strB]] at this;exact this
 go_enter Tryz.func13,Tryz.ntmps13;go_wp2_with (first|refine sL ?_|(refine sS ?_;clear H;intros;rename_i H)|(go_at_call 15;with_reducible refine zm (HP.out _ (H.known HK pk)) ?_;rintro e9 wc ⟨X,id1,rfl,y1,y2,y3,y4,hb⟩;have HX:=zh (za y1 (za y2 (za y3 y4)));clear y1 y2 y3 y4;replace H:=zn (H.call0 hb);clear hb)|((with_reducible refine isSlice ?_);refine AtSlice.litK H rfl rfl rfl (cs:=#[.bool true,.int .i64 1,.int .i64 2,.string ⟨#[]⟩,.bool true,.int .i64 3,.int .i64 1,.string ⟨#[]⟩,.bool false,.int .i64 0,.int .i64 0,.string ⟨#[120]⟩]) rfl (by decide) (by decide) (by kernel_rfl) ?_;clear H;intro b9 _ H;simp only [Act.put,puA,puB,puC]));obtain ⟨P2,hP2⟩:∃ P2:PoolT,P2=[(b9,0,flatG encR alQs)]:=⟨_,rfl⟩
 have H2:=St.blk_poolF (H.pick (A:=blk b9 (.cells #[.bool true,.int .i64 1,.int .i64 2,.string ⟨#[]⟩,.bool true,.int .i64 3,.int .i64 1,.string ⟨#[]⟩,.bool false,.int .i64 0,.int .i64 0,.string ⟨#[120]⟩] 106)) pk);rw [al_flat] at hP2;simp only [← hP2] at H2;have hr2:RowIn P2 encR 4 (.slice (some ⟨b9,0,none⟩) 3 3) alQs:=⟨_,_,rfl,by simp [maxLen,alQs],fun _=>⟨b9,0,rfl,by rw [hP2,al_flat];exact List.mem_cons_self⟩⟩
 clear H hP2;have H:=H2;clear H2;have HPC:=zh (fun w h1 h2=>pieces_c (X:=X) (P:=P2) HX.out.1 hr2 (by decide) (by decide) (by decide) (by rw [HX.out.2.1];have:=HX.out.2.2.2;simp [txL,alQs] at this ⊢;omega) w h1 h2);go_at_call 16
 with_reducible refine zm (HPC.out _ (H.sepK HK pk pk) (H.sepO pk pk)) ?_
 rintro e9 wc ⟨X2,v2,ps,rfl,y1,y2,y3,y4,hb⟩;have HY:=zh (za y1 (za y2 (za y3 y4)));clear y1 y2 y3 y4;replace H:=zn ((H.pick pk).call hb);clear hb;have HM2:Hid (X2.S.most=1048576∧X2.S.list.length<=12∧ps.length=3):=zh ⟨by rw [HY.out.1.le.1,HX.out.2.1],by have h1:=HY.out.2.2.2;have h2:=HX.out.2.2.2;simp [txL,alQs] at h1 h2;omega,by have:=HY.out.2.2.1.len;simpa [alQs] using this⟩;obtain ⟨ad2,c2,rfl,_⟩:=rowsA_shape (H.get (A:=rowsA encPi 98 4 v2 ps) pk);have HAP:=fun w h1 h2=>apply_c (X:=X2) (b:=id1) (base:=[97,98,99,100,101]) (qs:=alQs) (ad:=ad2) (c:=c2) HY.out.2.1 (HX.out.2.2.1.le HX.out.1.ok HY.out.1.le) HY.out.2.2.1 (by rw [HM2.out.2.2];decide) (by decide) (by decide) (by decide) (by rw [HM2.out.1,HM2.out.2.2,show szL alQs=4 from by decide];have:=HM2.out.2.1;simp only [List.length_cons,List.length_nil];omega) w h1 h2
 rw [HY.out.1.p] at HAP;have HAP:=zh HAP;go_wp2_with (first|refine sL ?_|(refine sS ?_;clear H;intros;rename_i H)|(go_at_call 18;with_reducible refine zm (HAP.out _ (H.sepK HK pk pk) (H.sepO pk pk)) ?_;rintro e9 wc ⟨X3,id3,rfl,y1,y2,y3,y4,hb⟩;have HZ:=zh (za y1 (za y2 (za y3 y4)));clear y1 y2 y3 y4;replace H:=zn ((H.pick pk).call hb);clear hb)|((with_reducible refine isSlice ?_);refine AtSlice.lit H rfl rfl rfl (cs:=#[.int .u8 98,.int .u8 99,.int .u8 100,.int .u8 120]) rfl rfl rfl (by decide) (by decide) (by kernel_rfl) ?_;clear H;intro b8 _ H;simp only [Act.put,puA,puB,puC])|((with_reducible refine isConv ?_);refine AtConv.bytes (e:=5) H rfl rfl rfl rfl pk ?_;clear H;intro _ H;simp only [Act.put,puA,puB,puC]));obtain ⟨P3,hP3⟩:∃ P2:PoolT,P2=[(b8,0,[.int .u8 98,.int .u8 99,.int .u8 100,.int .u8 120])]:=⟨_,rfl⟩
 have H2:=St.blk_poolF (H.pick (A:=blk b8 (.cells #[.int .u8 98,.int .u8 99,.int .u8 100,.int .u8 120] 5 (4,4+1))) pk);simp only [← hP3] at H2;have hr3:RowIn P3 encT 1 (.slice (some ⟨b8,0,none⟩) 4 4) [98,99,100,120]:=⟨_,_,rfl,by simp [maxLen],fun _=>⟨b8,0,rfl,by rw [hP3];exact List.mem_cons_self⟩⟩
 clear H hP3;have H:=H2;clear H2;have HM3:Hid (X3.S.most=1048576∧X3.S.list.length<=54):=zh ⟨by rw [HZ.out.1.le.1,HM2.out.1],by have h1:=HZ.out.2.2.2;have h2:=HM2.out;rw [h2.2.2,show szL alQs=4 from by decide] at h1;simp only [List.length_cons,List.length_nil] at h1;omega⟩;have ho2:=fun w h1 h2=>of_any (X:=X3) (P:=P3) HZ.out.2.1 hr3 (by decide) (by decide) (by rw [HM3.out.1];have:=HM3.out.2;simp only [List.length_cons,List.length_nil];omega) w h1 h2
 rw [(HY.out.1.trans HZ.out.1).p] at ho2;have HO2:=zh ho2;clear ho2;go_at_call 22;with_reducible refine zm (HO2.out _ (H.sepK HK pk pk) (H.sepO pk pk)) ?_;rintro e9 wc ⟨X4,id4,rfl,y1,y2,y3,y4,hb⟩;have HW:=zh (za y1 (za y2 (za y3 y4)));clear y1 y2 y3 y4;replace H:=zn ((H.pick pk).call hb);clear hb
 have hid:id3=id4:=IdIs.uniq HW.out.2.1.ok (HZ.out.2.2.1.le HZ.out.2.1.ok HW.out.1.le) (by have:=HW.out.2.2.1;exact this);subst hid;have e1:((id3:Int)==(id3:Int))=true:=(by simp);go_wp2_with (first|refine sL ?_|(refine sS ?_;clear H;intros;rename_i H)|fail);go_ret;exact ⟨rfl,H.nix⟩
end
section
open Go.RowKit Go.Maps
attribute [local go_sem] InGr strB_size
def shQ (q:Pz):Nat:=q.t.length+(if q.c=true∧0<q.n then min q.n.toNat 1000 else 0)
def shL (l:List Pz):Nat:=(l.map shQ).sum
theorem shL_take_succ {l:List Pz} {i:Nat} {q:Pz} (h:l[i]?=some q):shL (l.take (i+1))=shL (l.take i)+shQ q:=by
 unfold shL;rw [List.take_add_one,h];simp
def ShRel (P:PoolT) (w:World) (qs:List Pz) (bl n m:Nat) (v1 v:Value) (wr:World):Prop :=
 ∃ (i sm:Nat),m=n-i∧i<=n∧v1=.int .i64 sm∧v=.int .i64 i∧(sm=bl+shL (qs.take i)∧sm<=2305843009213693951)∧St w [] [] wr
theorem short_c {P:PoolT} {qs:List Pz} {v:Value} {base:List Nat} (hr:RowIn P encR 4 v qs) (hbl:base.length<=1152921504606846976) (htl:∀ q∈qs,q.t.length<=1152921504606846976) (hf:∀ q∈qs,q.n<=9223372036854775807) (w:World) (hp:(poolA P).ho w) :
  Calls Tryz.prog 14 #[.string (strB base),v] w fun e w'=>∃ b:Bool,e=.returned (.bool b)∧(b=true->base.length+shL qs<=400∧qs.length<=40)∧St w [] [] w':=by
 have H:=St.nil w [];have HK:=Ks.one hp;obtain ⟨n,hnn⟩:∃ n,qs.length=n:=⟨_,rfl⟩
 obtain ⟨ad,c,rfl,hmx9⟩:=hr.shape;have HCL:Hid (∀ (i:Nat) (q:Pz),qs[i]?=some q->∃ g o,ad=some ⟨g,o,none⟩∧(∀ w,(poolA P).ho w->w.cell? ⟨g,o+i*4,none⟩=some (.bool q.c)∧w.cell? ⟨g,o+i*4+1,none⟩=some (.int .i64 q.f)∧w.cell? ⟨g,o+i*4+2,none⟩=some (.int .i64 q.n)∧w.cell? ⟨g,o+i*4+3,none⟩=some (.string (strB q.t)))∧∀ w,(poolA P).ho w->w.rangeAt g (o+i*4) [.bool q.c,.int .i64 q.f,.int .i64 q.n,.string (strB q.t)]):=zh fun i q hq=>by
  obtain ⟨ad',c',e1,_,h3⟩:=id hr;obtain ⟨g,o,rfl,_⟩:=h3 (by have:=gelt hq;omega);injection e1 with e1 _ _
  subst e1;exact ⟨g,o,rfl,row_cells hr hq,fun w h=>hr.rng h encR_len hq⟩
 obtain ⟨bl,hbb⟩:∃ n,base.length=n:=⟨_,rfl⟩
 have hsz:(strB base).size=bl:=(by rw [strB_size];exact hbb);have hmx:n<=9223372036854775807:=by
  have:=hmx9;unfold maxLen at this;omega
 rw [hnn,hbb];have HIN:Hid (qs.length=n∧n<=9223372036854775807∧(∀ q∈qs,q.t.length<=1152921504606846976)∧∀ q∈qs,q.n<=9223372036854775807):=zh ⟨hnn,hmx,htl,hf⟩;rw [hbb] at hbl;clear hr htl hnn hbb hf hp hmx9;go_enter Tryz.func14,Tryz.ntmps14;go_wp2_with (first|refine sL ?_|(refine sS ?_;clear H;intros;rename_i H));go_loopg [5,6] n (fun m v1 v2 wr=>ShRel P w qs bl n m v1 v2 wr);case atStart=>exact ⟨0,bl,rfl,Nat.zero_le _,rfl,rfl,⟨by simp [shL],by omega⟩,H⟩
 case round =>
  clear H;obtain ⟨i,sm,rfl,hik,rfl,rfl,hrel,H⟩:=hrel;have HRL:=zh hrel;have hsb:=hrel.2;by_cases hlt:i<n
  ·obtain ⟨q,hq⟩:∃ a,qs[i]?=some a:=⟨_,zg (by rw [HIN.out.1];exact hlt)⟩
   obtain ⟨g,o,rfl,hcell,hrng⟩:=HCL.out i q hq;have d5:decide ((i:Int)<(n:Int))=true:=(by simp;omega);have d5n:decide (i<n)=true:=(by simp;omega);have hil:i<n:=hlt;have hib:i<=9223372036854775806:=(by have:=HIN.out.2.1;omega);by_cases h4:sm<=400
   ·have d6:decide ((sm:Int)<=400)=true:=(by simp;omega);have d6n:decide (sm<=400)=true:=(by simp;omega);obtain ⟨k,hk⟩:∃ k,q.t.length=k:=⟨_,rfl⟩
    have hkb:k<=1152921504606846976:=(by rw [← hk];exact HIN.out.2.2.1 q (List.mem_of_getElem? hq));have hqn:=HIN.out.2.2.2 q (List.mem_of_getElem? hq);have HTK:=zh (shL_take_succ hq);obtain ⟨qc,qf,qn,qt⟩:=q;simp only at hcell hk hqn HTK;have hz:(strB qt).size=k:=(by rw [strB_size];exact hk);have HC0:Hid (∀ w,(poolA P).ho w->w.cell? ⟨g,o+i*4,none⟩=some (.bool qc)):=zh fun w h=>(hcell w h).1
    have HC1:Hid (∀ w,(poolA P).ho w->w.cell? ⟨g,o+i*4+1,none⟩=some (.int .i64 qf)):=zh fun w h=>(hcell w h).2.1
    have HC2:Hid (∀ w,(poolA P).ho w->w.cell? ⟨g,o+i*4+2,none⟩=some (.int .i64 qn)):=zh fun w h=>(hcell w h).2.2.1
    have HC3:Hid (∀ w,(poolA P).ho w->w.cell? ⟨g,o+i*4+3,none⟩=some (.string (strB qt))):=zh fun w h=>(hcell w h).2.2.2
    clear hrel hq hcell hrng;cases qc with
    |false =>
     have HQ:Hid (shQ ⟨false,qf,qn,qt⟩=k):=zh (by simp [shQ,hk]);clear hk hqn;go_wp2_with (first|refine sL ?_|(refine sS ?_;clear H;intros;rename_i H));go_roundg (n-(i+1));case measure=>omega
     case rel=>exact ⟨i+1,sm+k,rfl,by omega,by go_num,rfl,⟨by rw [HTK.out,HQ.out];have:=HRL.out.1;omega,by omega⟩,H⟩
    |true =>
     by_cases hn0:0<qn
     ·have d7:decide (0<qn)=true:=(by simp;omega);obtain ⟨m,rfl⟩:∃ m:Nat,qn=m:=⟨qn.toNat,by omega⟩
      have d7n:decide (0<m)=true:=(by simp;omega);have hmb:m<=9223372036854775807:=(by omega);have hmm:min (m:Int) 1000=((min m 1000:Nat):Int):=(by omega);have HQ:Hid (shQ ⟨true,qf,(m:Int),qt⟩=k+min m 1000):=zh (by simp [shQ,hk];omega);have hmn:min m 1000<=1000:=Nat.min_le_right _ _;generalize min m 1000=mm at *;clear hk hqn hn0;go_wp2_with (first|refine sL ?_|(refine sS ?_;clear H;intros;rename_i H));all_goals
       go_roundg (n-(i+1));case measure=>omega
       case rel=>exact ⟨i+1,sm+k+mm,rfl,by omega,by go_num,rfl,⟨by rw [HTK.out,HQ.out];have:=HRL.out.1;omega,by omega⟩,H⟩
     ·have d7:decide (0<qn)=false:=(by simp;omega);have HQ:Hid (shQ ⟨true,qf,qn,qt⟩=k):=zh (by simp [shQ,hk];intro h;omega);clear hk hqn hn0;go_wp2_with (first|refine sL ?_|(refine sS ?_;clear H;intros;rename_i H));go_roundg (n-(i+1));case measure=>omega
      case rel=>exact ⟨i+1,sm+k,rfl,by omega,by go_num,rfl,⟨by rw [HTK.out,HQ.out];have:=HRL.out.1;omega,by omega⟩,H⟩
   ·have d6:decide ((sm:Int)<=400)=false:=(by simp;omega);have d6n:decide (sm<=400)=false:=(by simp;omega);clear hrel hq hcell hrng;go_wp2_with (first|refine sL ?_|(refine sS ?_;clear H;intros;rename_i H));go_ret;exact ⟨false,rfl,fun h=>(by cases h),H⟩
  ·have d5:decide ((i:Int)<(n:Int))=false:=(by simp;omega);have d5n:decide (i<n)=false:=(by simp;omega);have hin:i=n:=(by omega);subst hin;have HE:Hid (qs.take i=qs):=zh (List.take_of_length_le (by rw [HIN.out.1];exact Nat.le_refl _));by_cases h4:sm<=400
   ·have d6:decide ((sm:Int)<=400)=true:=(by simp;omega);have d6n:decide (sm<=400)=true:=(by simp;omega);by_cases h5:i<=40
    ·have d7:decide ((i:Int)<=40)=true:=(by simp;omega);have d7n:decide (i<=40)=true:=(by simp;omega);clear hrel;go_wp2_with (first|refine sL ?_|(refine sS ?_;clear H;intros;rename_i H));go_ret;exact ⟨true,rfl,fun _=>⟨by have:=HRL.out.1;rw [HE.out] at this;omega,h5⟩,H⟩
    ·have d7:decide ((i:Int)<=40)=false:=(by simp;omega);have d7n:decide (i<=40)=false:=(by simp;omega);clear hrel;go_wp2_with (first|refine sL ?_|(refine sS ?_;clear H;intros;rename_i H));go_ret;exact ⟨false,rfl,fun h=>(by cases h),H⟩
   ·have d6:decide ((sm:Int)<=400)=false:=(by simp;omega);have d6n:decide (sm<=400)=false:=(by simp;omega);clear hrel;go_wp2_with (first|refine sL ?_|(refine sS ?_;clear H;intros;rename_i H));go_ret;exact ⟨false,rfl,fun h=>(by cases h),H⟩
end
section
open Go.RowKit Go.Maps
attribute [local go_sem] InGr strB_size
theorem strB_isE (l:List Nat):(strB l).toList.isEmpty=decide (l=[]):=by
 unfold strB;rw [ByteArray.toList_mk];cases l <;> simp
def RkRel (P:PoolT) (w:World) (qs:List Pz) (bl n m:Nat) (v:Value) (wr:World):Prop :=
 ∃ i:Nat,m=n-i∧i<=n∧v=.int .i64 i∧(∀ j q,j<i->qs[j]?=some q->chkP bl q=0)∧St w [] [] wr
theorem rcheck_c {P:PoolT} {qs:List Pz} {v:Value} {base:List Nat} (hr:RowIn P encR 4 v qs) (hbl:base.length<=1152921504606846976) (w:World) (hp:(poolA P).ho w) :
  Calls Tryz.prog 17 #[.string (strB base),v] w fun e w'=>e=.returned (.int .i64 (chkL base.length qs:Nat))∧St w [] [] w':=by
 have H:=St.nil w [];have HK:=Ks.one hp;obtain ⟨n,hnn⟩:∃ n,qs.length=n:=⟨_,rfl⟩
 obtain ⟨ad,c,rfl,hmx9⟩:=hr.shape;have HCL:Hid (∀ (i:Nat) (q:Pz),qs[i]?=some q->∃ g o,ad=some ⟨g,o,none⟩∧(∀ w,(poolA P).ho w->w.cell? ⟨g,o+i*4,none⟩=some (.bool q.c)∧w.cell? ⟨g,o+i*4+1,none⟩=some (.int .i64 q.f)∧w.cell? ⟨g,o+i*4+2,none⟩=some (.int .i64 q.n)∧w.cell? ⟨g,o+i*4+3,none⟩=some (.string (strB q.t)))∧∀ w,(poolA P).ho w->w.rangeAt g (o+i*4) [.bool q.c,.int .i64 q.f,.int .i64 q.n,.string (strB q.t)]):=zh fun i q hq=>by
  obtain ⟨ad',c',e1,_,h3⟩:=id hr;obtain ⟨g,o,rfl,_⟩:=h3 (by have:=gelt hq;omega);injection e1 with e1 _ _
  subst e1;exact ⟨g,o,rfl,row_cells hr hq,fun w h=>hr.rng h encR_len hq⟩
 obtain ⟨bl,hbb⟩:∃ n,base.length=n:=⟨_,rfl⟩
 have hsz:(strB base).size=bl:=(by rw [strB_size];exact hbb);have hmx:n<=9223372036854775807:=by
  have:=hmx9;unfold maxLen at this;omega
 rw [hnn,hbb];have HIN:Hid (qs.length=n∧n<=9223372036854775807):=zh ⟨hnn,hmx⟩;rw [hbb] at hbl;clear hr hnn hbb hp hmx9;go_enter Tryz.func17,Tryz.ntmps17;go_wp2_with (first|refine sL ?_|(refine sS ?_;clear H;intros;rename_i H));go_loopg [5] n (fun m v1 wr=>RkRel P w qs bl n m v1 wr);case atStart=>exact ⟨0,rfl,Nat.zero_le _,rfl,fun j q hj=>absurd hj (Nat.not_lt_zero _),H⟩
 case round =>
  clear H;obtain ⟨i,rfl,hik,rfl,hrel,H⟩:=hrel;have HRL:=zh hrel;by_cases hlt:i<n
  ·obtain ⟨q,hq⟩:∃ a,qs[i]?=some a:=⟨_,zg (by rw [HIN.out.1];exact hlt)⟩
   obtain ⟨g,o,rfl,hcell,hrng⟩:=HCL.out i q hq;have d5:decide ((i:Int)<(n:Int))=true:=(by simp;omega);have d5n:decide (i<n)=true:=(by simp;omega);have hil:i<n:=hlt;have hib:i<=9223372036854775806:=(by have:=HIN.out.2;omega);have HRX:=zh hrng;have HQ:=zh hq;have HFI:Hid (∀ k,chkP bl q=k->k≠0->chkL bl qs=k):=zh fun k hk h0=>by
    rw [← hk];exact chkL_first HRL.out HQ.out (by rw [hk];exact h0)
   have HNX:Hid (chkP bl q=0->∀ j q',j<i+1->qs[j]?=some q'->chkP bl q'=0):=zh fun hk j q' hj hq'=>by
    rcases Nat.lt_or_ge j i with h9|h9
    ·exact HRL.out j q' h9 hq'
    ·obtain rfl:j=i:=by omega
     rw [HQ.out] at hq';injection hq' with hq'
     rw [← hq'];exact hk
   obtain ⟨qc,qf,qn,qt⟩:=q;simp only at HRX HFI HNX;have hst:=strB_isE qt;clear hrel hq hcell hrng HQ;cases qc with
   |true =>
    by_cases h1:qn<1
    ·have d1:decide (qn<1)=true:=(by simp;omega);have HE:Hid (chkL bl qs=4):=zh (HFI.out 4 (by simp [chkP,h1]) (by omega));clear HFI HNX h1;go_wp2_with (first|go_big_skip|refine sL ?_|(refine sS ?_;clear H;intros;rename_i H)|((with_reducible refine isLoad ?_);refine AtLoad.rngT rfl rfl rfl (HRX.out _ (H.known HK pk)) rfl ?_;simp only [Act.put,puA,puB,puC]));go_ret;exact ⟨by rw [HE.out];rfl,H.nix⟩
    ·have d1:decide (qn<1)=false:=(by simp;omega);by_cases h2:qt=[]
     ·rw [show decide (qt=[])=true by simp [h2]] at hst;by_cases h3:qf<0
      ·have d2:decide (qf<0)=true:=(by simp;omega);have HE:Hid (chkL bl qs=1):=zh (HFI.out 1 (by simp only [chkP,if_true];rw [if_neg (by simp [h2,h1]),if_neg (by omega)]) (by omega));clear HFI HNX h1 h2 h3;go_wp2_with (first|go_big_skip|refine sL ?_|(refine sS ?_;clear H;intros;rename_i H)|((with_reducible refine isLoad ?_);refine AtLoad.rngT rfl rfl rfl (HRX.out _ (H.known HK pk)) rfl ?_;simp only [Act.put,puA,puB,puC]));go_ret;exact ⟨by rw [HE.out];rfl,H.nix⟩
      ·obtain ⟨f,rfl⟩:∃ f:Nat,qf=f:=⟨qf.toNat,by omega⟩
       obtain ⟨m,rfl⟩:∃ f:Nat,qn=f:=⟨qn.toNat,by omega⟩
       have d2:decide ((f:Int)<0)=false:=(by simp);by_cases h4:bl<f
       ·have d3:decide ((bl:Int)<(f:Int))=true:=(by simp;omega);have d3n:decide (bl<f)=true:=(by simp;omega);have HE:Hid (chkL bl qs=1):=zh (HFI.out 1 (by simp only [chkP,if_true];rw [if_neg (by simp only [h2];simp;omega),if_neg (by omega)]) (by omega));clear HFI HNX h1 h2 h3 h4;go_wp2_with (first|go_big_skip|refine sL ?_|(refine sS ?_;clear H;intros;rename_i H)|((with_reducible refine isLoad ?_);refine AtLoad.rngT rfl rfl rfl (HRX.out _ (H.known HK pk)) rfl ?_;simp only [Act.put,puA,puB,puC]));go_ret;exact ⟨by rw [HE.out];rfl,H.nix⟩
       ·have d3:decide ((bl:Int)<(f:Int))=false:=(by simp;omega);have d3n:decide (bl<f)=false:=(by simp;omega);obtain ⟨rs,hrs⟩:∃ k,bl-f=k:=⟨_,rfl⟩
        have i1:(bl:Int)-(f:Int)=(rs:Nat):=(by omega);by_cases h5:rs<m
        ·have d4:decide ((rs:Int)<(m:Int))=true:=(by simp;omega);have d4n:decide (rs<m)=true:=(by simp;omega);have HE:Hid (chkL bl qs=1):=zh (HFI.out 1 (by simp only [chkP,if_true];rw [if_neg (by simp only [h2];simp;omega),if_neg (by omega)]) (by omega));clear HFI HNX h1 h2 h3 h4 h5 hrs;go_wp2_with (first|go_big_skip|refine sL ?_|(refine sS ?_;clear H;intros;rename_i H)|((with_reducible refine isLoad ?_);refine AtLoad.rngT rfl rfl rfl (HRX.out _ (H.known HK pk)) rfl ?_;simp only [Act.put,puA,puB,puC]));go_ret;exact ⟨by rw [HE.out];rfl,H.nix⟩
        ·have d4:decide ((rs:Int)<(m:Int))=false:=(by simp;omega);have d4n:decide (rs<m)=false:=(by simp;omega);have HE:=zh (HNX.out (by simp only [chkP,if_true];rw [if_neg (by simp only [h2];simp;omega),if_pos (by omega)]));clear HFI HNX h1 h2 h3 h4 h5 hrs;go_wp2_with (first|go_big_skip|refine sL ?_|(refine sS ?_;clear H;intros;rename_i H)|((with_reducible refine isLoad ?_);refine AtLoad.rngT rfl rfl rfl (HRX.out _ (H.known HK pk)) rfl ?_;simp only [Act.put,puA,puB,puC]));go_roundg (n-(i+1));case measure=>omega
         case rel=>exact ⟨i+1,rfl,by omega,rfl,HE.out,H.nix⟩
     ·rw [show decide (qt=[])=false by simp [h2]] at hst;have HE:Hid (chkL bl qs=4):=zh (HFI.out 4 (by simp [chkP,h2]) (by omega));clear HFI HNX h1 h2;go_wp2_with (first|go_big_skip|refine sL ?_|(refine sS ?_;clear H;intros;rename_i H)|((with_reducible refine isLoad ?_);refine AtLoad.rngT rfl rfl rfl (HRX.out _ (H.known HK pk)) rfl ?_;simp only [Act.put,puA,puB,puC]));go_ret;exact ⟨by rw [HE.out];rfl,H.nix⟩
   |false =>
    by_cases h1:qf=0
    ·have d1:(qf != 0)=false:=(by simpa using h1);by_cases h2:qn=0
     ·have d2:(qn != 0)=false:=(by simpa using h2);by_cases h3:qt=[]
      ·rw [show decide (qt=[])=true by simp [h3]] at hst;have HE:Hid (chkL bl qs=4):=zh (HFI.out 4 (by simp [chkP,h3]) (by omega));clear HFI HNX h1 h2 h3;go_wp2_with (first|go_big_skip|refine sL ?_|(refine sS ?_;clear H;intros;rename_i H)|((with_reducible refine isLoad ?_);refine AtLoad.rngT rfl rfl rfl (HRX.out _ (H.known HK pk)) rfl ?_;simp only [Act.put,puA,puB,puC]));go_ret;exact ⟨by rw [HE.out];rfl,H.nix⟩
      ·rw [show decide (qt=[])=false by simp [h3]] at hst;have HE:=zh (HNX.out (by simp [chkP,h1,h2,h3]));clear HFI HNX h1 h2 h3;go_wp2_with (first|go_big_skip|refine sL ?_|(refine sS ?_;clear H;intros;rename_i H)|((with_reducible refine isLoad ?_);refine AtLoad.rngT rfl rfl rfl (HRX.out _ (H.known HK pk)) rfl ?_;simp only [Act.put,puA,puB,puC]));go_roundg (n-(i+1));case measure=>omega
       case rel=>exact ⟨i+1,rfl,by omega,rfl,HE.out,H.nix⟩
     ·have d2:(qn != 0)=true:=(by simpa using h2);have HE:Hid (chkL bl qs=4):=zh (HFI.out 4 (by simp [chkP,h2]) (by omega));clear HFI HNX h1 h2;go_wp2_with (first|go_big_skip|refine sL ?_|(refine sS ?_;clear H;intros;rename_i H)|((with_reducible refine isLoad ?_);refine AtLoad.rngT rfl rfl rfl (HRX.out _ (H.known HK pk)) rfl ?_;simp only [Act.put,puA,puB,puC]));go_ret;exact ⟨by rw [HE.out];rfl,H.nix⟩
    ·have d1:(qf != 0)=true:=(by simpa using h1);have HE:Hid (chkL bl qs=4):=zh (HFI.out 4 (by simp [chkP,h1]) (by omega));clear HFI HNX h1;go_wp2_with (first|go_big_skip|refine sL ?_|(refine sS ?_;clear H;intros;rename_i H)|((with_reducible refine isLoad ?_);refine AtLoad.rngT rfl rfl rfl (HRX.out _ (H.known HK pk)) rfl ?_;simp only [Act.put,puA,puB,puC]));go_ret;exact ⟨by rw [HE.out];rfl,H.nix⟩
  ·have d5:decide ((i:Int)<(n:Int))=false:=(by simp;omega);have d5n:decide (i<n)=false:=(by simp;omega);have HZ:Hid (chkL bl qs=0):=zh (chkL_zero.2 fun q hq=>by
    obtain ⟨j,hj,e⟩:=List.getElem_of_mem hq;exact HRL.out j q (by have:=HIN.out.1;omega) (by rw [zg hj,e]))
   clear hrel;go_wp2_with (first|refine sL ?_|(refine sS ?_;clear H;intros;rename_i H));go_ret;exact ⟨by rw [HZ.out];rfl,H.nix⟩
end
section
open Go.RowKit Go.Maps
attribute [local go_sem] InGr strB_size
theorem apL_take_succ {base:List Nat} {l:List Pz} {i:Nat} {q:Pz} (h:l[i]?=some q):apL base (l.take (i+1))=apL base (l.take i)++apP base q:=by
 unfold apL;rw [List.take_add_one,h];simp
def RaRel (w:World) (base:List Nat) (qs:List Pz) (n m:Nat) (v1 v:Value) (wr:World):Prop :=
 ∃ (i:Nat) (out:List Nat),m=n-i∧i<=n∧v1=.string (strB out)∧v=.int .i64 i∧(out=apL base (qs.take i)∧out.length<=1048576)∧St w [] [] wr
theorem rapply_c {P:PoolT} {qs:List Pz} {v:Value} {base:List Nat} (hr:RowIn P encR 4 v qs) (hbl:base.length<=1048576) (hall:∀ q∈qs,chkP base.length q=0) (hsl:szL qs<=1048576) (w:World) (hp:(poolA P).ho w) :
  Calls Tryz.prog 23 #[.string (strB base),v] w fun e w'=>e=.returned (.string (strB (apL base qs)))∧St w [] [] w':=by
 have H:=St.nil w [];have HK:=Ks.one hp;obtain ⟨n,hnn⟩:∃ n,qs.length=n:=⟨_,rfl⟩
 obtain ⟨ad,c,rfl,hmx9⟩:=hr.shape;have HCL:Hid (∀ (i:Nat) (q:Pz),qs[i]?=some q->∃ g o,ad=some ⟨g,o,none⟩∧(∀ w,(poolA P).ho w->w.cell? ⟨g,o+i*4,none⟩=some (.bool q.c)∧w.cell? ⟨g,o+i*4+1,none⟩=some (.int .i64 q.f)∧w.cell? ⟨g,o+i*4+2,none⟩=some (.int .i64 q.n)∧w.cell? ⟨g,o+i*4+3,none⟩=some (.string (strB q.t)))∧∀ w,(poolA P).ho w->w.rangeAt g (o+i*4) [.bool q.c,.int .i64 q.f,.int .i64 q.n,.string (strB q.t)]):=zh fun i q hq=>by
  obtain ⟨ad',c',e1,_,h3⟩:=id hr;obtain ⟨g,o,rfl,_⟩:=h3 (by have:=gelt hq;omega);injection e1 with e1 _ _
  subst e1;exact ⟨g,o,rfl,row_cells hr hq,fun w h=>hr.rng h encR_len hq⟩
 obtain ⟨bl,hbb⟩:∃ n,base.length=n:=⟨_,rfl⟩
 have hsz:(strB base).size=bl:=(by rw [strB_size];exact hbb);have hmx:n<=9223372036854775807:=by
  have:=hmx9;unfold maxLen at this;omega
 rw [hnn];rw [hbb] at hbl;have HIN:Hid (qs.length=n∧n<=9223372036854775807∧(∀ q∈qs,chkP base.length q=0)∧szL qs<=1048576∧base.length=bl):=zh ⟨hnn,hmx,hall,hsl,hbb⟩;clear hr hnn hp hmx9 hall hsl hbb;go_enter Tryz.func23,Tryz.ntmps23;go_wp2_with (first|refine sL ?_|(refine sS ?_;clear H;intros;rename_i H));go_loopg [5,6] n (fun m v1 v2 wr=>RaRel w base qs n m v1 v2 wr);case atStart=>exact ⟨0,[],rfl,Nat.zero_le _,by rw [strB_nil],rfl,⟨rfl,by simp⟩,H⟩
 case round =>
  clear H;obtain ⟨i,out,rfl,hik,rfl,rfl,hrel,H⟩:=hrel;have HRL:=zh hrel;by_cases hlt:i<n
  ·obtain ⟨q,hq⟩:∃ a,qs[i]?=some a:=⟨_,zg (by rw [HIN.out.1];exact hlt)⟩
   obtain ⟨g,o,rfl,hcell,hrng⟩:=HCL.out i q hq;have d5:decide ((i:Int)<(n:Int))=true:=(by simp;omega);have d5n:decide (i<n)=true:=(by simp;omega);have hil:i<n:=hlt;have hib:i<=9223372036854775806:=(by have:=HIN.out.2.1;omega);have hck:=HIN.out.2.2.1 q (List.mem_of_getElem? hq);have hps:=chk_pos hck;have h1:=apL_take_succ (base:=base) hq;have hln:=apP_len hck;have hlim:out.length+(apP base q).length<=1048576:=by
    have h3:=apL_len (base:=base) (qs:=qs.take (i+1)) fun x hx=>HIN.out.2.2.1 x (List.mem_of_mem_take hx)
    rw [h1,List.length_append,← hrel.1] at h3;have h4:=szL_take qs (i+1);have h5:=HIN.out.2.2.2.1;omega
   obtain ⟨pc,hpc⟩:∃ l,apP base q=l:=⟨_,rfl⟩
   obtain ⟨k1,hk1⟩:∃ k,out.length=k:=⟨_,rfl⟩
   obtain ⟨k2,hk2⟩:∃ k,pc.length=k:=⟨_,rfl⟩
   have z1:(strB out).size=k1:=(by rw [strB_size];exact hk1);have z2:(strB pc).size=k2:=(by rw [strB_size];exact hk2);have z3:strB out++strB pc=strB (out++pc):=strB_append out pc;rw [hpc,hk1,hk2] at hlim;have HNX:Hid (out++pc=apL base (qs.take (i+1))∧(out++pc).length<=1048576):=zh ⟨by rw [h1,← hrel.1,hpc],by rw [List.length_append];omega⟩;obtain ⟨qc,qf,qn,qt⟩:=q;simp only at hcell hps hpc;have HC0:Hid (∀ w,(poolA P).ho w->w.cell? ⟨g,o+i*4,none⟩=some (.bool qc)):=zh fun w h=>(hcell w h).1
   have HC1:Hid (∀ w,(poolA P).ho w->w.cell? ⟨g,o+i*4+1,none⟩=some (.int .i64 qf)):=zh fun w h=>(hcell w h).2.1
   have HC2:Hid (∀ w,(poolA P).ho w->w.cell? ⟨g,o+i*4+2,none⟩=some (.int .i64 qn)):=zh fun w h=>(hcell w h).2.2.1
   have HC3:Hid (∀ w,(poolA P).ho w->w.cell? ⟨g,o+i*4+3,none⟩=some (.string (strB qt))):=zh fun w h=>(hcell w h).2.2.2
   clear hrel hq hrng hck h1 hln hcell hk1 hk2;cases qc with
   |true =>
    obtain ⟨e3,e4,e5⟩:=hps.2 rfl;rw [HIN.out.2.2.2.2] at e5;obtain ⟨f,rfl⟩:∃ f:Nat,qf=f:=⟨qf.toNat,by omega⟩
    obtain ⟨m,rfl⟩:∃ f:Nat,qn=f:=⟨qn.toNat,by omega⟩
    obtain ⟨e,he⟩:∃ e,f+m=e:=⟨_,rfl⟩
    have i9:(f:Int)+(m:Int)=(e:Nat):=(by omega);have z4:(strB base).extract f e=strB pc:=by
     rw [strB_extract,← hpc];simp only [apP,if_true,Int.toNat_natCast];rw [show e-f=m by omega]
    have hfe:f<=e:=(by omega);have heb:e<=bl:=(by omega);clear hps e3 e4 e5 hpc he;go_wp2_with (first|refine sL ?_|(refine sS ?_;clear H;intros;rename_i H));refine wp_region_h H 20 [] [] (by kernel_rfl) (by kernel_rfl) ?_;apply Exists.intro;refine ⟨fun w1 hw1 HX=>?_,fun bs wr Hr=>?_⟩
    ·refine sG ?_;repeat (first|refine sQ ?_|go_big_quiet_step (fail))
     exact wpQuiet_nil rfl
    clear H;have H:=Hr;clear Hr;replace H:=sH H;refine sT ?_;go_wp2_with (first|refine sL ?_|(refine sS ?_;clear H;intros;rename_i H));go_roundg (n-(i+1));case measure=>omega
    case rel=>exact ⟨i+1,out++pc,rfl,by omega,rfl,rfl,HNX.out,H⟩
   |false =>
    have hqt:qt=pc:=(by rw [← hpc];simp [apP]);subst hqt;clear hps hpc;go_wp2_with (first|refine sL ?_|(refine sS ?_;clear H;intros;rename_i H));go_roundg (n-(i+1));case measure=>omega
    case rel=>exact ⟨i+1,out++qt,rfl,by omega,rfl,rfl,HNX.out,H⟩
  ·have d5:decide ((i:Int)<(n:Int))=false:=(by simp;omega);have d5n:decide (i<n)=false:=(by simp;omega);have hin:i=n:=(by omega);subst hin;have HE:Hid (qs.take i=qs):=zh (List.take_of_length_le (by rw [HIN.out.1];exact Nat.le_refl _));clear hrel hlt;go_wp2_with (first|refine sL ?_|(refine sS ?_;clear H;intros;rename_i H));go_ret;exact ⟨by rw [← HE.out,← HRL.out.1];rfl,H⟩
end
section
open Go.RowKit Go.Maps
attribute [local go_sem] InGr strB_size
theorem encR_one (p:Pz):∀ u∈encR p,u.oneCell'=true:=by
 intro u hu;simp [encR] at hu;rcases hu with rfl|rfl|rfl|rfl <;> rfl
def NmRel (w:World) (qs:List Pz) (n m:Nat) (v1 v2:Value) (wr:World):Prop :=
 ∃ (i:Nat) (out:List Pz),m=n-i∧i<=n∧v2=.int .i64 i∧(out=nrm (qs.take i)∧out.length<=i)∧St w [] [rowsA encR 106 4 v1 out] wr
theorem rnormal_c {P:PoolT} {qs:List Pz} {v:Value} {s:Nat} (hr:RowIn P encR 4 v qs) (hs:s<=1048576) (hall:∀ q∈qs,chkP s q=0) (hn:qs.length<=1024) (htx:txL qs<=1048576) (w:World) (hp:(poolA P).ho w) :
  Calls Tryz.prog 27 #[v] w fun e w'=>∃ v',e=.returned v'∧St w [] [rowsA encR 106 4 v' (nrm qs)] w':=by
 have H:=St.nil w [];have HK:=Ks.one hp;obtain ⟨n,hnn⟩:∃ n,qs.length=n:=⟨_,rfl⟩
 obtain ⟨ad,c,rfl,hmx9⟩:=hr.shape;have HCL:Hid (∀ (i:Nat) (q:Pz),qs[i]?=some q->∃ g o,ad=some ⟨g,o,none⟩∧(∀ w,(poolA P).ho w->w.cell? ⟨g,o+i*4,none⟩=some (.bool q.c)∧w.cell? ⟨g,o+i*4+1,none⟩=some (.int .i64 q.f)∧w.cell? ⟨g,o+i*4+2,none⟩=some (.int .i64 q.n)∧w.cell? ⟨g,o+i*4+3,none⟩=some (.string (strB q.t)))∧∀ w,(poolA P).ho w->w.rangeAt g (o+i*4) [.bool q.c,.int .i64 q.f,.int .i64 q.n,.string (strB q.t)]):=zh fun i q hq=>by
  obtain ⟨ad',c',e1,_,h3⟩:=id hr;obtain ⟨g,o,rfl,_⟩:=h3 (by have:=gelt hq;omega);injection e1 with e1 _ _
  subst e1;exact ⟨g,o,rfl,row_cells hr hq,fun w h=>hr.rng h encR_len hq⟩
 rw [hnn] at hn ⊢;have htx9:=zh htx;clear htx;have HIN:Hid (qs.length=n∧n<=1024∧(∀ q∈qs,chkP s q=0)∧s<=1048576):=zh ⟨hnn,hn,hall,hs⟩;clear hr hnn hp hmx9 hall hs;go_enter Tryz.func27,Tryz.ntmps27;go_wp2_with (first|refine sL ?_|(refine sS ?_;clear H;intros;rename_i H));replace H:=H.empty (A:=rowsA encR 106 4 (.slice none 0 0) []) (rowsA_nil _) (by rw [rowsA_fp'];rfl);go_loopg [3,4] n (fun m v1 v2 wr=>NmRel w qs n m v1 v2 wr);case atStart=>exact ⟨0,[],rfl,Nat.zero_le _,rfl,⟨rfl,Nat.le_refl _⟩,H⟩
 case round =>
  clear H;obtain ⟨i,out,rfl,hik,rfl,hrel,H⟩:=hrel;have HRL:=zh hrel;obtain ⟨ad2,c2,rfl,_⟩:=rowsA_shape (H.get (A:=rowsA encR 106 4 _ out) pk);by_cases hlt:i<n
  ·obtain ⟨q,hq⟩:∃ a,qs[i]?=some a:=⟨_,zg (by rw [HIN.out.1];exact hlt)⟩
   obtain ⟨g,o,rfl,hcell,hrng⟩:=HCL.out i q hq;have d5:decide ((i:Int)<(n:Int))=true:=(by simp;omega);have d5n:decide (i<n)=true:=(by simp;omega);have hil:i<n:=hlt;have hib:i<=1024:=(by have:=HIN.out.2.1;omega);have HQ:=zh (HIN.out.2.2.1 q (List.mem_of_getElem? hq));have HTK:=zh (nrm_take_succ hq);have HTX:=zh (txL_take_succ hq);have HRX:=zh hrng;obtain ⟨qc,qf,qn,qt⟩:=q;simp only at hcell HRX;have HC0:Hid (∀ w,(poolA P).ho w->w.cell? ⟨g,o+i*4,none⟩=some (.bool qc)):=zh fun w h=>(hcell w h).1
   have HC1:Hid (∀ w,(poolA P).ho w->w.cell? ⟨g,o+i*4+1,none⟩=some (.int .i64 qf)):=zh fun w h=>(hcell w h).2.1
   have HC2:Hid (∀ w,(poolA P).ho w->w.cell? ⟨g,o+i*4+2,none⟩=some (.int .i64 qn)):=zh fun w h=>(hcell w h).2.2.1
   have HC3:Hid (∀ w,(poolA P).ho w->w.cell? ⟨g,o+i*4+3,none⟩=some (.string (strB qt))):=zh fun w h=>(hcell w h).2.2.2
   have hrl:=hrel;clear hrel hq hcell hrng hlt;rcases snoc_pz out with h0|⟨L,k,h0⟩
   ·subst h0;clear hrl;simp only [List.length_nil] at H ⊢;go_wp2_with (first|refine sL ?_|(refine sS ?_;clear H;intros;rename_i H));refine wp_region_h H 36 [] [] (by kernel_rfl) (by kernel_rfl) ?_;apply Exists.intro;refine ⟨fun w1 hw1 HX=>?_,fun bs wr Hr=>?_⟩
    ·refine sG ?_;repeat (first|go_big_quiet_skip|refine sQ ?_|go_big_quiet_step (fail))
     exact wpQuiet_nil rfl
    clear H;have H:=Hr;clear Hr;replace H:=sH H;refine sT ?_;go_wp2_with (first|refine sL ?_|(refine sS ?_;clear H;intros;rename_i H)|((with_reducible refine isLoad ?_);refine AtLoad.rngT rfl rfl rfl (HRX.out _ (H.known HK pk)) rfl ?_;simp only [Act.put,puA,puB,puC])|((with_reducible refine isSlice ?_);refine AtSlice.one H rfl rfl rfl rfl rfl rfl rfl rfl rfl ?_;clear H;intro b9 _ H;simp only [Act.put,puA,puB,puC])|((with_reducible refine isAppend ?_);refine AtAppend.go (enc:=encR) H rfl rfl rfl rfl rfl (by decide) (by decide) rfl pk rfl (H.at pk) [⟨qc,qf,qn,qt⟩] rfl (by simp [flatG,encR]) encR_len encR_one (by simp) ?_;clear H;intro ad9 cp9 _ H;simp only [Act.put,puA,puB,puC]));go_roundg (n-(i+1));case measure=>omega
    case rel =>
     have h1:=HRL.out.1;refine ⟨i+1,[⟨qc,qf,qn,qt⟩],rfl,by omega,rfl,⟨by rw [HTK.out,← h1];rfl,by simp⟩,H.picks (.cons pk .nil)⟩
   ·subst h0;obtain ⟨k1,hk1⟩:∃ m,L.length=m:=⟨_,rfl⟩
    have hl2:(L++[k]).length=k1+1:=(by simp [hk1]);have hkb:k1+1<=1024:=(by have:=hrl.2;omega);obtain ⟨n2,hn2⟩:∃ m,k1+1=m:=⟨_,rfl⟩
    rw [hl2,hn2] at H ⊢;have i8:(n2:Int)-1=(k1:Int):=(by omega);have i9:(0:Int)<=(k1:Int):=(by omega);have i6:decide ((0:Int)<=(k1:Int))=true:=(by simp);have i7:k1<n2:=(by omega);have i5:n2<=1024:=(by omega);have hki:(L++[k])[k1]?=some k:=(by rw [← hk1];simp);obtain ⟨g2,c9,e9,_⟩:=rowsA_cases (H.get (A:=rowsA encR 106 4 (.slice ad2 n2 c2) (L++[k])) pk) (by simp);injection e9 with e9 e10 e11
    clear e10 e11;subst e9;obtain ⟨kc,kf,kn,kt⟩:=k;have hcl:∀ w,(rowsA encR 106 4 (.slice (some ⟨g2,0,none⟩) n2 c2) (L++[⟨kc,kf,kn,kt⟩])).ho w->w.cell? ⟨g2,k1*4,none⟩=some (.bool kc)∧w.cell? ⟨g2,k1*4+1,none⟩=some (.int .i64 kf)∧w.cell? ⟨g2,k1*4+2,none⟩=some (.int .i64 kn)∧w.cell? ⟨g2,k1*4+3,none⟩=some (.string (strB kt)):=fun w h=>⟨rowsA_cell h encR_len hki (j:=0) rfl,rowsA_cell h encR_len hki (j:=1) rfl,rowsA_cell h encR_len hki (j:=2) rfl,rowsA_cell h encR_len hki (j:=3) rfl⟩
    have HO0:=zh fun w h=>(hcl w h).1
    have HO1:=zh fun w h=>(hcl w h).2.1
    have HO2:=zh fun w h=>(hcl w h).2.2.1
    have HO3:=zh fun w h=>(hcl w h).2.2.2
    have HKI:=zh hki;have hkc:chkP s ⟨kc,kf,kn,kt⟩=0:=nrm_chk (qs:=qs.take i) (fun q hq=>HIN.out.2.2.1 q (List.mem_of_mem_take hq)) _ (by rw [← hrl.1];simp);have HKC:=zh hkc;have HSZ:Hid ((strB kt).size+(strB qt).size<=1048576):=zh (by
     have h1:txL (qs.take (i+1))<=1048576:=Nat.le_trans (txL_take qs (i+1)) htx9.out;have h2:=nrm_tx (qs:=qs.take i) (s:=s) fun q hq=>HIN.out.2.2.1 q (List.mem_of_mem_take hq)
     rw [← hrl.1,txL_app] at h2;have h3:=HTX.out;rw [strB_size,strB_size];have h4:txL [(⟨kc,kf,kn,kt⟩:Pz)]=kt.length:=(by simp [txL]);rw [h4] at h2;simp only at h3;omega)
    have HLK:Hid (L.length=k1∧k1+1<=1024):=zh ⟨hk1,hkb⟩;clear hrl hk1 hl2 hkb hn2 hki hcl hkc;cases qc with
    |false =>
     cases kc with
     |false =>
      have HJ:Hid (jn ⟨false,kf,kn,kt⟩ ⟨false,qf,qn,qt⟩=some ⟨false,kf,kn,kt++qt⟩):=zh (by simp [jn]);have hsz:(strB kt).size+(strB qt).size<=1048576:=HSZ.out;have z3:strB kt++strB qt=strB (kt++qt):=strB_append kt qt;have z1:(strB kt).size=kt.length:=strB_size kt;have z2:(strB qt).size=qt.length:=strB_size qt;go_wp2_with (first|refine sL ?_|(refine sS ?_;clear H;intros;rename_i H));refine wp_region_h H 36 [] [] (by kernel_rfl) (by kernel_rfl) ?_;apply Exists.intro;refine ⟨fun w1 hw1 HX=>?_,fun bs wr Hr=>?_⟩
      ·refine sG ?_;repeat (first|go_big_quiet_skip|refine sQ ?_|go_big_quiet_step (fail))
       exact wpQuiet_nil rfl
      clear H;have H:=Hr;clear Hr;replace H:=sH H;refine sT ?_;go_wp2_with (first|refine sL ?_|(refine sS ?_;clear H;intros;rename_i H));refine wp_region_h H 13 [] [] (by kernel_rfl) (by kernel_rfl) ?_;apply Exists.intro;refine ⟨fun w1 hw1 HX=>?_,fun bs wr Hr=>?_⟩
      ·refine sG ?_;repeat (first|refine sQ ?_|go_big_quiet_step (fail))
       exact wpQuiet_nil rfl
      clear H;have H:=Hr;clear Hr;replace H:=sH H;refine sT ?_;go_wp2_with (first|refine sL ?_|(refine sS ?_;clear H;intros;rename_i H)|((with_reducible refine isStore ?_);refine AtStore.rowAk (enc:=encR) H rfl rfl rfl rfl rfl rfl (xs:=L++[(⟨false,kf,kn,kt⟩:Pz)]) pk encR_len HKI.out (j:=3) (by decide) rfl ⟨false,kf,kn,kt++qt⟩ rfl ?_;clear H;intro _ H;simp only [Act.put,puA,puB,puC]));have hset:(L++[(⟨false,kf,kn,kt⟩:Pz)]).set k1 (⟨false,kf,kn,kt++qt⟩:Pz)=L++[(⟨false,kf,kn,kt++qt⟩:Pz)]:=(by rw [← HLK.out.1];simp);rw [hset] at H;go_roundg (n-(i+1));case measure=>omega
      case rel =>
       have h1:=HRL.out;exact ⟨i+1,L++[(⟨false,kf,kn,kt++qt⟩:Pz)],rfl,by omega,rfl,⟨by rw [HTK.out,← h1.1];exact (nst_join HJ.out).symm,by have:=h1.2;simp at this ⊢;omega⟩,H.picks (.cons pk .nil)⟩
     |true =>
      have HJ:Hid (jn ⟨true,kf,kn,kt⟩ ⟨false,qf,qn,qt⟩=none):=zh (by simp [jn]);go_wp2_with (first|refine sL ?_|(refine sS ?_;clear H;intros;rename_i H));refine wp_region_h H 36 [] [] (by kernel_rfl) (by kernel_rfl) ?_;apply Exists.intro;refine ⟨fun w1 hw1 HX=>?_,fun bs wr Hr=>?_⟩
      ·refine sG ?_;repeat (first|go_big_quiet_skip|refine sQ ?_|go_big_quiet_step (fail))
       exact wpQuiet_nil rfl
      clear H;have H:=Hr;clear Hr;replace H:=sH H;refine sT ?_;go_wp2_with (first|refine sL ?_|(refine sS ?_;clear H;intros;rename_i H)|((with_reducible refine isLoad ?_);refine AtLoad.rngT rfl rfl rfl (HRX.out _ (H.known HK pk)) rfl ?_;simp only [Act.put,puA,puB,puC])|((with_reducible refine isSlice ?_);refine AtSlice.one H rfl rfl rfl rfl rfl rfl rfl rfl rfl ?_;clear H;intro b9 _ H;simp only [Act.put,puA,puB,puC])|((with_reducible refine isAppend ?_);refine AtAppend.go (enc:=encR) H rfl rfl rfl rfl rfl (by decide) (by decide) rfl pk rfl (H.at pk) [(⟨false,qf,qn,qt⟩:Pz)] rfl (by simp [flatG,encR]) encR_len encR_one (by have:=HLK.out;simp;omega) ?_;clear H;intro ad9 cp9 _ H;simp only [Act.put,puA,puB,puC]));rw [show (L++[(⟨true,kf,kn,kt⟩:Pz)]).length+1=L.length+1+1 by simp] at H;go_roundg (n-(i+1));case measure=>omega
      case rel =>
       have h1:=HRL.out;exact ⟨i+1,L++[(⟨true,kf,kn,kt⟩:Pz)]++[(⟨false,qf,qn,qt⟩:Pz)],rfl,by omega,rfl,⟨by rw [HTK.out,← h1.1];exact (nst_none HJ.out).symm,by have:=h1.2;simp at this ⊢;omega⟩,H.picks (.cons pk .nil)⟩
    |true =>
     obtain ⟨e1,e2⟩:=chk_pos HQ.out;obtain ⟨e3,e4,e5⟩:=e2 rfl;simp only at e1 e3 e4 e5;obtain ⟨f2,rfl⟩:∃ f:Nat,qf=f:=⟨qf.toNat,by omega⟩
     obtain ⟨m2,rfl⟩:∃ f:Nat,qn=f:=⟨qn.toNat,by omega⟩
     cases kc with
     |false =>
      have HJ:Hid (jn ⟨false,kf,kn,kt⟩ ⟨true,f2,m2,qt⟩=none):=zh (by simp [jn]);clear e1 e2 e3 e4 e5;go_wp2_with (first|refine sL ?_|(refine sS ?_;clear H;intros;rename_i H));refine wp_region_h H 36 [] [] (by kernel_rfl) (by kernel_rfl) ?_;apply Exists.intro;refine ⟨fun w1 hw1 HX=>?_,fun bs wr Hr=>?_⟩
      ·refine sG ?_;repeat (first|go_big_quiet_skip|refine sQ ?_|go_big_quiet_step (fail))
       exact wpQuiet_nil rfl
      clear H;have H:=Hr;clear Hr;replace H:=sH H;refine sT ?_;go_wp2_with (first|refine sL ?_|(refine sS ?_;clear H;intros;rename_i H)|((with_reducible refine isLoad ?_);refine AtLoad.rngT rfl rfl rfl (HRX.out _ (H.known HK pk)) rfl ?_;simp only [Act.put,puA,puB,puC])|((with_reducible refine isSlice ?_);refine AtSlice.one H rfl rfl rfl rfl rfl rfl rfl rfl rfl ?_;clear H;intro b9 _ H;simp only [Act.put,puA,puB,puC])|((with_reducible refine isAppend ?_);refine AtAppend.go (enc:=encR) H rfl rfl rfl rfl rfl (by decide) (by decide) rfl pk rfl (H.at pk) [(⟨true,f2,m2,qt⟩:Pz)] rfl (by simp [flatG,encR]) encR_len encR_one (by have:=HLK.out;simp;omega) ?_;clear H;intro ad9 cp9 _ H;simp only [Act.put,puA,puB,puC]));rw [show (L++[(⟨false,kf,kn,kt⟩:Pz)]).length+1=L.length+1+1 by simp] at H;go_roundg (n-(i+1));case measure=>omega
      case rel =>
       have h1:=HRL.out;exact ⟨i+1,L++[(⟨false,kf,kn,kt⟩:Pz)]++[(⟨true,f2,m2,qt⟩:Pz)],rfl,by omega,rfl,⟨by rw [HTK.out,← h1.1];exact (nst_none HJ.out).symm,by have:=h1.2;simp at this ⊢;omega⟩,H.picks (.cons pk .nil)⟩
     |true =>
      obtain ⟨x1,x2⟩:=chk_pos HKC.out;obtain ⟨x3,x4,x5⟩:=x2 rfl;simp only at x1 x3 x4 x5;obtain ⟨f1,rfl⟩:∃ f:Nat,kf=f:=⟨kf.toNat,by omega⟩
      obtain ⟨m1,rfl⟩:∃ f:Nat,kn=f:=⟨kn.toNat,by omega⟩
      have hs9:=HIN.out.2.2.2;obtain ⟨e,he⟩:∃ e,f1+m1=e:=⟨_,rfl⟩
      obtain ⟨m3,hm3⟩:∃ e,m1+m2=e:=⟨_,rfl⟩
      have y1:(f1:Int)+(m1:Int)=(e:Int):=(by omega);have y2:(m1:Int)+(m2:Int)=(m3:Int):=(by omega);have y3:e<=1048576:=(by omega);have y4:m3<=2097152:=(by omega);by_cases hef:e=f2
      ·have HJ:Hid (jn ⟨true,f1,m1,kt⟩ ⟨true,f2,m2,qt⟩=some ⟨true,f1,m3,kt⟩):=zh (by rw [← y2,← hef,← y1];simp [jn]);subst hef;have y5:((e:Int)==(e:Int))=true:=(by simp);clear e1 e2 e3 e4 e5 x1 x2 x3 x4 x5 hs9 he hm3;go_wp2_with (first|refine sL ?_|(refine sS ?_;clear H;intros;rename_i H));refine wp_region_h H 36 [] [] (by kernel_rfl) (by kernel_rfl) ?_;apply Exists.intro;refine ⟨fun w1 hw1 HX=>?_,fun bs wr Hr=>?_⟩
       ·refine sG ?_;repeat (first|go_big_quiet_skip|refine sQ ?_|go_big_quiet_step (fail))
        exact wpQuiet_nil rfl
       clear H;have H:=Hr;clear Hr;replace H:=sH H;refine sT ?_;go_wp2_with (first|refine sL ?_|(refine sS ?_;clear H;intros;rename_i H));refine wp_region_h H 13 [] [] (by kernel_rfl) (by kernel_rfl) ?_;apply Exists.intro;refine ⟨fun w1 hw1 HX=>?_,fun bs wr Hr=>?_⟩
       ·refine sG ?_;repeat (first|refine sQ ?_|go_big_quiet_step (fail))
        exact wpQuiet_nil rfl
       clear H;have H:=Hr;clear Hr;replace H:=sH H;refine sT ?_;go_wp2_with (first|refine sL ?_|(refine sS ?_;clear H;intros;rename_i H)|((with_reducible refine isStore ?_);refine AtStore.rowAk (enc:=encR) H rfl rfl rfl rfl rfl rfl (xs:=L++[(⟨true,f1,m1,kt⟩:Pz)]) pk encR_len HKI.out (j:=2) (by decide) rfl ⟨true,f1,m3,kt⟩ rfl ?_;clear H;intro _ H;simp only [Act.put,puA,puB,puC]));have hset:(L++[(⟨true,f1,m1,kt⟩:Pz)]).set k1 (⟨true,f1,m3,kt⟩:Pz)=L++[(⟨true,f1,m3,kt⟩:Pz)]:=(by rw [← HLK.out.1];simp);rw [hset] at H;go_roundg (n-(i+1));case measure=>omega
       case rel =>
        have h1:=HRL.out;exact ⟨i+1,L++[(⟨true,f1,m3,kt⟩:Pz)],rfl,by omega,rfl,⟨by rw [HTK.out,← h1.1];exact (nst_join HJ.out).symm,by have:=h1.2;simp at this ⊢;omega⟩,H.picks (.cons pk .nil)⟩
      ·have HJ:Hid (jn ⟨true,f1,m1,kt⟩ ⟨true,f2,m2,qt⟩=none):=zh (by
        unfold jn;rw [if_neg (fun h=>hef (by have:=h.2.2;simp only at this;omega)),if_neg (by simp)])
       have y5:((e:Int)==(f2:Int))=false:=(by simp;omega);clear e1 e2 e3 e4 e5 x1 x2 x3 x4 x5 hs9 he hm3 hef;go_wp2_with (first|refine sL ?_|(refine sS ?_;clear H;intros;rename_i H));refine wp_region_h H 36 [] [] (by kernel_rfl) (by kernel_rfl) ?_;apply Exists.intro;refine ⟨fun w1 hw1 HX=>?_,fun bs wr Hr=>?_⟩
       ·refine sG ?_;repeat (first|go_big_quiet_skip|refine sQ ?_|go_big_quiet_step (fail))
        exact wpQuiet_nil rfl
       clear H;have H:=Hr;clear Hr;replace H:=sH H;refine sT ?_;go_wp2_with (first|refine sL ?_|(refine sS ?_;clear H;intros;rename_i H)|((with_reducible refine isLoad ?_);refine AtLoad.rngT rfl rfl rfl (HRX.out _ (H.known HK pk)) rfl ?_;simp only [Act.put,puA,puB,puC])|((with_reducible refine isSlice ?_);refine AtSlice.one H rfl rfl rfl rfl rfl rfl rfl rfl rfl ?_;clear H;intro b9 _ H;simp only [Act.put,puA,puB,puC])|((with_reducible refine isAppend ?_);refine AtAppend.go (enc:=encR) H rfl rfl rfl rfl rfl (by decide) (by decide) rfl pk rfl (H.at pk) [(⟨true,f2,m2,qt⟩:Pz)] rfl (by simp [flatG,encR]) encR_len encR_one (by have:=HLK.out;simp;omega) ?_;clear H;intro ad9 cp9 _ H;simp only [Act.put,puA,puB,puC]));rw [show (L++[(⟨true,f1,m1,kt⟩:Pz)]).length+1=L.length+1+1 by simp] at H;go_roundg (n-(i+1));case measure=>omega
       case rel =>
        have h1:=HRL.out;exact ⟨i+1,L++[(⟨true,f1,m1,kt⟩:Pz)]++[(⟨true,f2,m2,qt⟩:Pz)],rfl,by omega,rfl,⟨by rw [HTK.out,← h1.1];exact (nst_none HJ.out).symm,by have:=h1.2;simp at this ⊢;omega⟩,H.picks (.cons pk .nil)⟩
  ·have d5:decide ((i:Int)<(n:Int))=false:=(by simp;omega);have d5n:decide (i<n)=false:=(by simp;omega);have hin:i=n:=(by omega);subst hin;have HE:Hid (qs.take i=qs):=zh (List.take_of_length_le (by rw [HIN.out.1];exact Nat.le_refl _));clear hrel hlt;go_wp2_with (first|refine sL ?_|(refine sS ?_;clear H;intros;rename_i H));go_ret;refine ⟨_,rfl,?_⟩;have h1:=HRL.out.1;rw [HE.out] at h1;rw [← h1];exact H
end
section
open Go.RowKit Go.Maps
attribute [local go_sem] InGr strB_size
section
variable {ops:Array Oper} {Q:Exit->Act->World->Prop} {rest:List Oper} {a:Act} {w w0:World} {M:List Nat} {L R:List As} {o1:Oper} {dst:Option Tmp} {ty0:TypeId} {pos:String} {aft:Array Edge} {gd:Option (Nat×Bool)}
def AtMakeSlice (P:Program) (ops:Array Oper) (Q:Exit->Act->World->Prop) (o:Oper) (_:TypeId) (_ _:Operand) (rest:List Oper) (a:Act) (w:World):Prop:=wpList P ops Q (o::rest) a w
theorem isMakeSlice {P:Program} {t:TypeId} {x y:Operand} (h:AtMakeSlice P ops Q ⟨dst,.makeSlice t x y,ty0,pos,aft,gd⟩ t x y rest a w):wpList P ops Q (⟨dst,.makeSlice t x y,ty0,pos,aft,gd⟩::rest) a w:=h
theorem AtMakeSlice.ints {t:TypeId} {x y:Operand} (H:St w0 M L w) (hw:Region.wanted o1 (yielded ops a.tmps)=true) (ho:o1.op=.makeSlice t x y) (n:Nat) (hx:a.eval x=.int .i64 (n:Int)) (hy:a.eval y=.int .i64 (n:Int)) (hte:sliceO t=some 3) {bytes:Nat} (hi:infoO 3=some (.int .i64 0,1,bytes)) (hn:n*bytes<=281474976710656) (h63:n<=16777216)
  (h:∀ b w',St w0 M (rowsA encI 3 1 (.slice (some ⟨b,0,none⟩) n n) (List.replicate n 0)::L) w'->wpList Tryz.prog ops Q rest (a.put o1.dst (.slice (some ⟨b,0,none⟩) n n)) w'):AtMakeSlice Tryz.prog ops Q o1 t x y rest a w :=
 wpList_step fun _ hK=>by
  rw [if_pos hw];obtain ⟨i,h2,h3,h4,h5⟩:=infoO_ok hi;have hb3:(bytes:Int)*(n:Int)<=281474976710656:=by
   have h9:((n*bytes:Nat):Int)<=281474976710656:=(by omega);rw [Nat.mul_comm] at h9;rwa [Int.natCast_mul] at h9
  have hr:=run_makeSlice (P:=Tryz.prog) (w:=w) t 3 i (.int .i64 0) (sliceO_ok hte) h2 h3 .i64 .i64 n n (by omega) (by omega) (by rw [h4];simp;omega) (by rw [h5];exact hb3) (by omega);rw [show (Value.int .i64 0).cells=#[.int .i64 0] from rfl,h4] at hr;simp only [Int.toNat_natCast,Nat.mul_one] at hr;unfold Oper.wp execOp;simp only [ho,hx,hy,Sem.run_bind,hr,Result.andThen_ok,Sem.run_pure];refine hK _ _ (h _ _ ((H.alloc (.cells (madeCells #[.int .i64 0] n) 3)).conv (by rw [rowsA_fp',blk_fp];rfl) fun hb=>?_));rw [blk_ho] at hb;have:=rowsA_of_blk (enc:=encI) (k:=1) (xs:=List.replicate n 0) hb (by simp [maxLen];omega) (by
   rw [show (madeCells #[Value.int .i64 0] n).toList=List.replicate n (.int .i64 0) from toList_madeCells_one _ _];clear h h3 h4 h5 hb hr hb3 hn h63 hx hy;induction n with
   |zero=>rfl
   |succ n ih=>rw [List.replicate_succ,List.replicate_succ];show _=encI 0++flatG encI _;rw [← ih];rfl) encI_len
  simpa using this
end
theorem ends_set {qs:List Pz} {i n:Nat} (hn:qs.length=n) (hi:i<n):((endsL qs).take i++List.replicate (n-i) 0).set i (szL (qs.take (i+1)))=(endsL qs).take (i+1)++List.replicate (n-(i+1)) 0:=by
 have hl:((endsL qs).take i).length=i:=(by rw [List.length_take,endsL_len];omega);have hE:=endsL_at (qs:=qs) (i:=i) (by omega);generalize szL (qs.take (i+1))=E at *;rw [List.set_append_right _ _ (by omega),hl,Nat.sub_self,show n-i=(n-(i+1))+1 by omega,List.replicate_succ,List.set_cons_zero,List.take_add_one,hE];simp
theorem ends_get {qs:List Pz} {i n:Nat} (hn:qs.length=n) (hi:i<n):((endsL qs).take i++List.replicate (n-i) 0)[i]?=some 0:=by
 have hl:((endsL qs).take i).length=i:=(by rw [List.length_take,endsL_len];omega);rw [List.getElem?_append_right (by omega),hl,Nat.sub_self,List.getElem?_replicate];rw [if_pos (by omega)]
def CoRel1 (X1:Px) (N:List Nat) (w:World) (b5:Nat) (qs:List Pz) (n m:Nat) (v1 v2:Value) (wr:World):Prop :=
 ∃ i:Nat,m=n-i∧i<=n∧v1=.int .i64 (szL (qs.take i):Nat)∧v2=.int .i64 i∧St w N [pA X1,rowsA encI 3 1 (.slice (some ⟨b5,0,none⟩) n n) ((endsL qs).take i++List.replicate (n-i) 0)] wr
def CoRel2 (X1:Px) (N:List Nat) (w:World) (b5:Nat) (qs es:List Pz) (n k m:Nat) (v1 v2:Value) (wr:World):Prop :=
 ∃ (j:Nat) (X2:Px) (out:List Pi),m=k-j∧j<=k∧v2=.int .i64 j∧(PiL X2.S out (cmpW qs (es.take j))∧X1.Ext X2∧PxOk X2∧X2.S.list.length<=X1.S.list.length+j*(2*txL qs))∧St w N [pA X2,rowsA encPi 98 4 v1 out,rowsA encI 3 1 (.slice (some ⟨b5,0,none⟩) n n) (endsL qs)] wr
theorem compose_ok {X:Px} {b:Nat} {base:List Nat} {ps ms:List Pi} {qs es:List Pz} {ad am:Option Addr} {c cm n k C1 C2 C3:Nat} (hX:PxOk X) (hd:IdIs X.S b (base.map Tr.leaf)) (hps:PiL X.S ps qs) (hms:PiL X.S ms es) (hnn:ps.length=n) (hkk:ms.length=k) (hn:n<=1024) (hk:k<=1024) (hs:base.length<=1048576) (hz:chkL base.length qs=0) (hz2:chkL (apL base qs).length es=0) (htot:szL qs<=1048576) (htot2:szL es<=1024) (hC1:n*(2*base.length)+n*szL qs<=C1) (hC2:k*(2*txL qs)<=C2) (hC3:szL es*szL es<=C3) (hroom:X.S.list.length+C1+C2+C3<=X.S.most) (w:World) (h:PH X w) (hr:((pA X).sep (rowsA encPi 98 4 (.slice ad n c) ps)).ho w) (hm:((pA X).sep (rowsA encPi 98 4 (.slice am k cm) ms)).ho w) :
  Calls Tryz.prog 29 #[.pointer (some ⟨X.p,0,none⟩),.int .i64 b,.slice ad n c,.slice am k cm] w (JnPost X (nrm (cmpW qs es)) (C1+C2+C3) (pA X).fp w):=by
 have h:((pA X).sep deA).ho w:=h;rw [sep_ho] at h hr hm;have H:=St.one h.1;have HK:Ks w (pA X).fp [deA,rowsA encPi 98 4 (.slice ad n c) ps,rowsA encPi 98 4 (.slice am k cm) ms]:=⟨fun A hA=>by
   simp at hA;rcases hA with rfl|rfl|rfl
   ·exact h.2.1
   ·exact hr.2.1
   ·exact hm.2.1,fun A hA b hbA hm9=>by
   simp at hA;rcases hA with rfl|rfl|rfl
   ·exact h.2.2 b hm9 hbA
   ·exact hr.2.2 b hm9 hbA
   ·exact hm.2.2 b hm9 hbA⟩
 generalize (pA X).fp=N at *;clear h hr hm;have hsl:=hps.len;have hml:=hms.len;have hall:=chkL_zero.1 hz;have hall2:=chkL_zero.1 hz2;have HAP:Hid (∀ w,((pA X).sep deA).ho w->((pA X).sep (rowsA encPi 98 4 (.slice ad n c) ps)).ho w->Calls Tryz.prog 18 #[.pointer (some ⟨X.p,0,none⟩),.int .i64 b,.slice ad n c] w (IdPost X ((apL base qs).map Tr.leaf) C1 (pA X).fp w)):=zh fun w h h2=>by
  rw [← hnn] at h2 ⊢;have:=apply_c hX hd hps (by omega) hs hz htot (by rw [hnn];omega) w h h2;refine this.mono ?_;rintro e w' ⟨X',id,rfl,y1,y2,y3,y4,y5⟩;exact ⟨X',id,rfl,y1,y2,y3,by rw [hnn] at y4;omega,y5⟩
 have HCK:Hid (∀ (X1:Px) (y:Nat),X.Ext X1->PxOk X1->IdIs X1.S y ((apL base qs).map Tr.leaf)->∀ w,((pA X1).sep deA).ho w->((pA X1).sep (rowsA encPi 98 4 (.slice am k cm) ms)).ho w->Calls Tryz.prog 21 #[.pointer (some ⟨X.p,0,none⟩),.int .i64 y,.slice am k cm] w (PPost X1 .nilIface (pA X1).fp w)):=zh fun X1 y q1 q2 q3 w h h2=>by
  rw [← hkk] at h2 ⊢;have hap:(apL base qs).length=szL qs:=apL_len hall;have:=check_d q2 q3 (hms.le hX.ok q1.le) (by omega) (by simp;omega) (fun _=>by omega) w h h2;rw [List.length_map,hz2,q1.p] at this;simpa [erN] using this
 have hst:szL qs<=1048576:=htot;have HIN:Hid (PiL X.S ps qs∧ps.length=n∧qs.length=n∧PiL X.S ms es∧ms.length=k∧es.length=k∧(∀ q∈qs,chkP base.length q=0)∧(∀ q∈es,chkP (szL qs) q=0)∧PxOk X∧base.length<=1048576∧szL es<=1024∧k*(2*txL qs)<=C2∧szL es*szL es<=C3∧X.S.list.length+C1+C2+C3<=X.S.most):=zh ⟨hps,hnn,by omega,hms,hkk,by omega,hall,by rw [← apL_len hall];exact hall2,hX,hs,htot2,hC2,hC3,hroom⟩;have HRD:Hid (∀ (i:Nat) (a:Pi),ps[i]?=some a->∃ g,ad=some ⟨g,0,none⟩∧∀ w,(rowsA encPi 98 4 (.slice ad n c) ps).ho w->w.rangeAt g (i*4) [.bool a.c,.int .i64 a.f,.int .i64 a.n,.int .i64 a.id]):=zh fun i a hi=>by
  obtain ⟨g,c8,e1,_⟩:=rowsA_cases (HK.ho (rowsA encPi 98 4 (.slice ad n c) ps) (by simp)) (by have:=gelt hi;omega);injection e1 with e1 _ _
  exact ⟨g,e1,fun w h=>by rw [e1] at h;exact rowsA_rng h encPi_len hi⟩
 have HRM:Hid (∀ (i:Nat) (a:Pi),ms[i]?=some a->∃ g,am=some ⟨g,0,none⟩∧∀ w,(rowsA encPi 98 4 (.slice am k cm) ms).ho w->w.rangeAt g (i*4) [.bool a.c,.int .i64 a.f,.int .i64 a.n,.int .i64 a.id]):=zh fun i a hi=>by
  obtain ⟨g,c8,e1,_⟩:=rowsA_cases (HK.ho (rowsA encPi 98 4 (.slice am k cm) ms) (by simp)) (by have:=gelt hi;omega);injection e1 with e1 _ _
  exact ⟨g,e1,fun w h=>by rw [e1] at h;exact rowsA_rng h encPi_len hi⟩
 clear hX hd hps hms hnn hkk hs hz hz2 htot htot2 hC1 hC2 hC3 hroom hsl hml hall hall2;go_enter Tryz.func29,Tryz.ntmps29;go_wp2_with (first|refine sL ?_|(refine sS ?_;clear H;intros;rename_i H)|(go_at_call 18;with_reducible refine zm (HAP.out _ (H.sepK HK pk pk) (H.sepK HK pk pk)) ?_;rintro e9 wc ⟨X0,id0,rfl,y1,y2,y3,y4,hb⟩;have HZ0:=zh (za y1 (za y2 (za y3 y4)));clear y1 y2 y3 y4;replace H:=zn ((H.pick pk).call hb);clear hb)|(go_at_call 21;with_reducible refine zm (HCK.out X0 id0 HZ0.out.1 HZ0.out.2.1 HZ0.out.2.2.1 _ (H.sepK HK pk pk) (H.sepK HK pk pk)) ?_;rintro e9 wc ⟨X1,y1,y2,y3,rfl,hb⟩;have HZ1:=zh (za y1 (za y2 y3));clear y1 y2 y3;replace H:=zn ((H.pick pk).call hb);clear hb)|((with_reducible refine isMakeSlice ?_);refine AtMakeSlice.ints H rfl rfl n rfl rfl rfl rfl (by omega) (by omega) ?_;clear H;intro b5 _ H;simp only [Act.put,puA,puB,puC]));go_loopg [14,44] n (fun m v1 v2 wr=>CoRel1 X1 N w b5 qs n m v1 v2 wr);case atStart=>exact ⟨0,rfl,Nat.zero_le _,by simp [szL],rfl,by
  have:=H.picks (.cons (A:=pA X1) pk (.cons (A:=rowsA encI 3 1 (.slice (some ⟨b5,0,none⟩) n n) (List.replicate n 0)) pk .nil));simpa using this⟩
 case round =>
  clear H;obtain ⟨i,rfl,hik,rfl,rfl,H⟩:=hrel;by_cases hlt:i<n
  ·have d5:decide ((i:Int)<(n:Int))=true:=(by simp;omega);have d5n:decide (i<n)=true:=(by simp;omega);obtain ⟨p,hp⟩:∃ a,ps[i]?=some a:=⟨_,zg (by rw [HIN.out.2.1];exact hlt)⟩
   obtain ⟨q,hq,hpq⟩:=HIN.out.1.get hp;obtain ⟨g,rfl,hcell⟩:=HRD.out i p hp;have hck:=HIN.out.2.2.2.2.2.2.1 q (List.mem_of_getElem? hq);have HRX:=zh hcell;have hts:=szL_take_succ hq;have hE:=szL_take qs (i+1);have HSET:=zh (ends_set HIN.out.2.2.1 hlt);have HGET:=zh (ends_get HIN.out.2.2.1 hlt);obtain ⟨T0,hT0⟩:∃ k,szL (qs.take i)=k:=⟨_,rfl⟩
   obtain ⟨T1,hT1⟩:∃ k,szL (qs.take (i+1))=k:=⟨_,rfl⟩
   obtain ⟨sz,hsz⟩:∃ k,szP q=k:=⟨_,rfl⟩
   rw [hT1] at hts hE HSET;rw [hT0,hsz] at hts;rw [hT0];have hT1b:T1<=1048576:=(by omega);have i1:(T0:Int)+(sz:Int)=(T1:Int):=(by omega);have HT1:=zh hT1;have HX9:Hid (PxOk X1∧X.Ext X1):=zh ⟨HZ1.out.2.1,HZ0.out.1.trans HZ1.out.1⟩;have HPS:Hid (∀ w,(pA X1).ho w->Calls Tryz.prog 58 #[.pointer (some ⟨X.p,0,none⟩),.agg #[.bool p.c,.int .i64 p.f,.int .i64 p.n,.int .i64 p.id]] w fun e w'=>e=.returned (.tuple #[.int .i64 (sz:Nat),.nilIface])∧St w [] [] w'):=zh fun w h=>by
    have:=pieceSize_c HX9.out.1 (hpq.le HIN.out.2.2.2.2.2.2.2.2.1.ok HX9.out.2.le) (chk_pos hck).1 w h;rwa [HX9.out.2.p,hsz] at this
   clear hp hq hcell hT0 hT1 hsz hpq hck hts hE;go_wp2_with (first|refine sL ?_|(refine sS ?_;clear H;intros;rename_i H)|(go_at_call 58;with_reducible refine zm (HPS.out _ (H.get pk)) ?_;rintro e9 wc ⟨rfl,hb⟩;replace H:=H.grew hb.below;clear hb)|((with_reducible refine isLoad ?_);refine AtLoad.rngT rfl rfl rfl (HRX.out _ (H.known HK pk)) rfl ?_;simp only [Act.put,puA,puB,puC])|((with_reducible refine isStore ?_);refine AtStore.rowAk (enc:=encI) H rfl rfl rfl rfl rfl rfl (xs:=(endsL qs).take i++List.replicate (n-i) 0) pk encI_len HGET.out (j:=0) (by decide) (by omega) T1 rfl ?_;clear H;intro _ H;simp only [Act.put,puA,puB,puC]));rw [HSET.out] at H;go_roundg (n-(i+1));case measure=>omega
   case rel=>exact ⟨i+1,rfl,by omega,by rw [HT1.out],by go_num,H.picks (.cons pk (.cons pk .nil))⟩
  ·have d5:decide ((i:Int)<(n:Int))=false:=(by simp;omega);have d5n:decide (i<n)=false:=(by simp;omega);have hin:n=i:=(by omega);subst hin;rw [Nat.sub_self,List.replicate_zero,List.append_nil,List.take_of_length_le (by rw [endsL_len,HIN.out.2.2.1];exact Nat.le_refl _)] at H;go_wp2_with (first|refine sL ?_|(refine sS ?_;clear H;intros;rename_i H));replace H:=H.empty (A:=rowsA encPi 98 4 (.slice none 0 0) []) (rowsA_nil _) (by rw [rowsA_fp'];rfl);have HX9:Hid (PxOk X1∧X.Ext X1∧X1.S.list.length<=X.S.list.length+C1):=zh ⟨HZ1.out.2.1,HZ0.out.1.trans HZ1.out.1,by rw [HZ1.out.2.2];exact HZ0.out.2.2.2⟩;have HWI:Hid (∀ (X2:Px) (out:List Pi) (outq:List Pz) (v1:Value) (f m xid:Nat),X1.Ext X2->PxOk X2->PiL X2.S out outq->out.length<=65536->f+m<=szL qs->X2.S.list.length+2*txL qs<=X.S.most->∀ w,(((pA X2).sep (rowsA encPi 98 4 v1 out)).sep deA).ho w->(((pA X2).sep (rowsA encPi 98 4 v1 out)).sep (rowsA encPi 98 4 (.slice ad n c) ps)).ho w->(((pA X2).sep (rowsA encPi 98 4 v1 out)).sep (rowsA encI 3 1 (.slice (some ⟨b5,0,none⟩) n n) (endsL qs))).ho w->Calls Tryz.prog 66 #[.pointer (some ⟨X.p,0,none⟩),v1,.slice ad n c,.slice (some ⟨b5,0,none⟩) n n,.agg #[.bool true,.int .i64 (f:Nat),.int .i64 (m:Nat),.int .i64 (xid:Nat)]] w (WiPost X2 (outq++win qs f m) (out.length+n) (2*txL qs) ((pA X2).sep (rowsA encPi 98 4 v1 out)).fp w)):=zh fun X2 out outq v1 f m xid q1 q2 q3 q4 q5 q6 w h1 h2 h3=>by
    have hm:X2.S.most=X.S.most:=(HX9.out.2.1.trans q1).le.1;have:=within_c (xid:=xid) q2 (HIN.out.1.le HIN.out.2.2.2.2.2.2.2.2.1.ok (HX9.out.2.1.trans q1).le) HIN.out.2.1 hn HIN.out.2.2.2.2.2.2.1 HIN.out.2.2.2.2.2.2.2.2.2.1 hst q3 q4 q5 (by rw [hm];exact q6) w h1 h2 h3;rwa [(HX9.out.2.1.trans q1).p] at this
   have HJN:Hid (∀ (X2:Px) (out:List Pi) (ad2:Option Addr) (c2:Nat),X1.Ext X2->PxOk X2->PiL X2.S out (cmpW qs es)->X2.S.list.length<=X.S.list.length+C1+C2->∀ w,((pA X2).sep deA).ho w->((pA X2).sep (rowsA encPi 98 4 (.slice ad2 out.length c2) out)).ho w->Calls Tryz.prog 65 #[.pointer (some ⟨X.p,0,none⟩),.slice ad2 out.length c2] w (JnPost X2 (nrm (cmpW qs es)) C3 (pA X2).fp w)):=zh fun X2 out ad2 c2 q1 q2 q3 q4 w h1 h2=>by
    have hm:X2.S.most=X.S.most:=(HX9.out.2.1.trans q1).le.1;have hi:=HIN.out;obtain ⟨l1,l2⟩:=cmp_len (qs:=qs) hi.2.2.2.2.2.2.2.1;have hl:=q3.len;have hmul:out.length*txL (cmpW qs es)<=szL es*szL es:=Nat.mul_le_mul (by omega) l2;have h9:=hi.2.2.2.2.2.2.2.2.2.2;have:=normjoin_c (ad:=ad2) (c:=c2) q2 q3 (by omega) (cmp_chk hi.2.2.2.2.2.2.1 hi.2.2.2.2.2.2.2.1) hi.2.2.2.2.2.2.2.2.2.1 (by omega) (by rw [hm];omega) w h1 h2;rw [(HX9.out.2.1.trans q1).p] at this;refine this.mono ?_;rintro e w' ⟨X',v',ps',rfl,y1,y2,y3,y4,y5⟩;exact ⟨X',v',ps',rfl,y1,y2,y3,by omega,y5⟩
   clear hlt d5 d5n;go_loopg [19,68] k (fun m v1 v2 wr=>CoRel2 X1 N w b5 qs es n k m v1 v2 wr);case atStart=>exact ⟨0,X1,[],rfl,Nat.zero_le _,rfl,⟨trivial,.refl _,HX9.out.1,by omega⟩,H.picks (.cons pk (.cons pk (.cons pk .nil)))⟩
   case round =>
    clear H;obtain ⟨j,X2,out,rfl,hjk,rfl,hrel,H⟩:=hrel;have HRL:=zh hrel;have HOL:Hid (out.length<=1024):=zh (by
     have h1:=hrel.1.len;obtain ⟨l1,l2⟩:=cmp_len (qs:=qs) (es:=es.take j) (s:=szL qs) fun e he=>HIN.out.2.2.2.2.2.2.2.1 e (List.mem_of_mem_take he)
     have h2:=szL_take es j;have h3:=HIN.out.2.2.2.2.2.2.2.2.2.2.1;omega)
    have hol:=HOL.out;obtain ⟨ad2,c2,rfl,_⟩:=rowsA_shape (H.get (A:=rowsA encPi 98 4 _ out) pk);by_cases hlt:j<k
    ·have d5:decide ((j:Int)<(k:Int))=true:=(by simp;omega);have d5n:decide (j<k)=true:=(by simp;omega);obtain ⟨p,hp⟩:∃ a,ms[j]?=some a:=⟨_,zg (by rw [HIN.out.2.2.2.2.1];exact hlt)⟩
     obtain ⟨q,hq,hpq⟩:=HIN.out.2.2.2.1.get hp;obtain ⟨g,rfl,hcell⟩:=HRM.out j p hp;have hck:=HIN.out.2.2.2.2.2.2.2.1 q (List.mem_of_getElem? hq);have HRX:=zh hcell;have HTK:=zh (cmp_take_succ (qs:=qs) hq);have hjm:(j+1)*(2*txL qs)<=k*(2*txL qs):=Nat.mul_le_mul_right _ (by omega);have hrm:X2.S.list.length+2*txL qs<=X.S.most:=by
      have h1:=hrel.2.2.2;have h2:=HX9.out.2.2;have h3:=HIN.out;rw [Nat.add_mul,Nat.one_mul] at hjm;omega
     have HRM2:=zh hrm;obtain ⟨pc,pf,pn,pid⟩:=p;obtain ⟨qc,qf,qn,qt⟩:=q;obtain ⟨g1,g2,g3,g4⟩:=hpq;simp only at g1 g2 g3 g4 HRX;subst g1 g2 g3;have HPK:Hid (PiOk X.S ⟨pc,pf,pn,pid⟩ ⟨pc,pf,pn,qt⟩):=zh ⟨rfl,rfl,rfl,g4⟩;cases pc with
     |true =>
      obtain ⟨e1,e2⟩:=chk_pos hck;obtain ⟨e3,e4,e5⟩:=e2 rfl;simp only at e1 e3 e4 e5;obtain ⟨f1,rfl⟩:∃ f:Nat,pf=f:=⟨pf.toNat,by omega⟩
      obtain ⟨m1,rfl⟩:∃ f:Nat,pn=f:=⟨pn.toNat,by omega⟩
      have HFM:Hid (f1+m1<=szL qs):=zh (by omega);clear hrel hp hq hcell hck hjm hrm g4 e1 e2 e3 e4 e5;go_wp2_with (first|refine sL ?_|(refine sS ?_;clear H;intros;rename_i H)|((with_reducible refine isLoad ?_);refine AtLoad.rngT rfl rfl rfl (HRX.out _ (H.known HK pk)) rfl ?_;simp only [Act.put,puA,puB,puC])|(go_at_call 66;with_reducible refine zm (HWI.out X2 out (cmpW qs (es.take j)) (.slice ad2 out.length c2) f1 m1 pid HRL.out.2.1 HRL.out.2.2.1 HRL.out.1 (by omega) HFM.out HRM2.out _ ((H.pick2 (A:=pA X2) (B:=rowsA encPi 98 4 (.slice ad2 out.length c2) out) pk pk).join.sepK (A:=(pA X2).sep (rowsA encPi 98 4 (.slice ad2 out.length c2) out)) HK pk pk) ((H.pick2 (A:=pA X2) (B:=rowsA encPi 98 4 (.slice ad2 out.length c2) out) pk pk).join.sepK (A:=(pA X2).sep (rowsA encPi 98 4 (.slice ad2 out.length c2) out)) HK pk pk) ((H.pick2 (A:=pA X2) (B:=rowsA encPi 98 4 (.slice ad2 out.length c2) out) pk pk).join.sepO (A:=(pA X2).sep (rowsA encPi 98 4 (.slice ad2 out.length c2) out)) pk pk)) ?_;rintro e9 wc ⟨X3,v3,out3,rfl,y1,y2,y3,y4,y5,hb⟩;have HZ:=zh (za y1 (za y2 (za y3 (za y4 y5))));clear y1 y2 y3 y4 y5;replace H:=zn (((H.pick2 pk pk).join).call hb);clear hb));go_roundg (k-(j+1));case measure=>omega
      case rel =>
       have h1:=HRL.out;have h2:=HZ.out;refine ⟨j+1,X3,out3,rfl,by omega,by go_num,⟨by rw [HTK.out];exact h2.2.2.1,h1.2.1.trans h2.1,h2.2.1,?_⟩,H.picks (.cons pk (.cons pk (.cons pk .nil)))⟩;rw [Nat.add_mul,Nat.one_mul];omega
     |false =>
      clear hrel hp hq hcell hck hjm hrm g4;go_wp2_with (first|refine sL ?_|(refine sS ?_;clear H;intros;rename_i H)|((with_reducible refine isLoad ?_);refine AtLoad.rngT rfl rfl rfl (HRX.out _ (H.known HK pk)) rfl ?_;simp only [Act.put,puA,puB,puC])|((with_reducible refine isSlice ?_);refine AtSlice.one H rfl rfl rfl rfl rfl rfl rfl rfl rfl ?_;clear H;intro b8 _ H;simp only [Act.put,puA,puB,puC])|((with_reducible refine isAppend ?_);refine AtAppend.go (enc:=encPi) H rfl rfl rfl rfl rfl (by decide) (by decide) rfl pk rfl (H.at pk) [(⟨false,pf,pn,pid⟩:Pi)] rfl (by simp [flatG,encPi]) encPi_len encPi_one (by simp;omega) ?_;clear H;intro ad9 cp9 _ H;simp only [Act.put,puA,puB,puC]));go_roundg (k-(j+1));case measure=>omega
      case rel =>
       have h1:=HRL.out;refine ⟨j+1,X2,out++[⟨false,pf,pn,pid⟩],rfl,by omega,by go_num,⟨?_,h1.2.1,h1.2.2.1,?_⟩,H.picks (.cons pk (.cons pk (.cons pk .nil)))⟩
       ·rw [HTK.out];exact h1.1.append ⟨HPK.out.le HIN.out.2.2.2.2.2.2.2.2.1.ok (HX9.out.2.1.trans h1.2.1).le,trivial⟩
       ·rw [Nat.add_mul,Nat.one_mul];omega
    ·have d5:decide ((j:Int)<(k:Int))=false:=(by simp;omega);have d5n:decide (j<k)=false:=(by simp;omega);have hjk9:k=j:=(by omega);subst hjk9;have HPL:Hid (PiL X2.S out (cmpW qs es)∧X2.S.list.length<=X.S.list.length+C1+C2):=zh ⟨by
      have:=hrel.1;rwa [List.take_of_length_le (by rw [HIN.out.2.2.2.2.2.1];exact Nat.le_refl _)] at this,by
      have h1:=hrel.2.2.2;have h2:=HX9.out.2.2;have h3:=HIN.out;omega⟩
     clear hrel hlt;go_wp2_with (first|refine sL ?_|(refine sS ?_;clear H;intros;rename_i H)|(go_at_call 65;with_reducible refine zm (HJN.out X2 out ad2 c2 HRL.out.2.1 HRL.out.2.2.1 HPL.out.1 HPL.out.2 _ (H.sepK HK pk pk) (H.sepO pk pk)) ?_;rintro e9 wc ⟨X3,v3,ps3,rfl,y1,y2,y3,y4,hb⟩;have HZ:=zh (za y1 (za y2 (za y3 y4)));clear y1 y2 y3 y4;replace H:=zn ((H.pick pk).call hb);clear hb));go_ret2;have h1:=HRL.out;have h2:=HZ.out;have h3:=HPL.out.2;exact ⟨X3,v3,ps3,rfl,(HX9.out.2.1.trans h1.2.1).trans h2.1,h2.2.1,h2.2.2.1,by omega,H.picks (.cons pk (.cons pk .nil))⟩
end
end Go.Proofs.YtgnppnokkdghcaaGreatDoor
