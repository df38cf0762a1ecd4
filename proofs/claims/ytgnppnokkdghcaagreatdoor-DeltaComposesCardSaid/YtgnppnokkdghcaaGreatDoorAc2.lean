/-
  Part 2 of the texts behind the statements of this seat: walks and laws Fd, Fe, Ff, Fg, Fu, Gc, Fv, Fx, Gd. Conditions: as each states.
-/
import Derived.Test.YtgnppnokkdghcaaGreatDoorAc1
import Derived.Laws.Concat
import Derived.Laws.IdiomStrings
set_option linter.unusedSimpArgs false
set_option linter.unusedVariables false
set_option maxRecDepth 100000
set_option maxHeartbeats 80000000
namespace Go.Proofs.YtgnppnokkdghcaaGreatDoor
section
open Go.RowKit Go.Maps
attribute [local go_sem] InGr
theorem chk_pos {size:Nat} {q:Pz} (h:chkP size q=0):0<=q.n∧(q.c=true->1<=q.n∧0<=q.f∧q.f+q.n<=size):=by
 unfold chkP at h;split at h
 ·split at h
  ·omega
  ·split at h
   ·rename_i h1 h2 h3;exact ⟨by omega,fun _=>⟨by omega,by omega,by omega⟩⟩
   ·omega
 ·split at h
  ·omega
  ·rename_i h1 h2;exact ⟨by omega,fun h=>absurd h h1⟩
theorem szL_take_succ {l:List Pz} {i:Nat} {q:Pz} (h:l[i]?=some q):szL (l.take (i+1))=szL (l.take i)+szP q:=by
 unfold szL;rw [List.take_add_one,h];simp
theorem szL_take (l:List Pz) (i:Nat):szL (l.take i)<=szL l:=by
 unfold szL;have h:l.take i++l.drop i=l:=List.take_append_drop i l;have h2:=congrArg (fun l:List Pz=>(l.map szP).sum) h;simp only [List.map_append,List.sum_append] at h2;omega
def CkRel1 (X:Px) (N:List Nat) (w:World) (qs:List Pz) (size n m:Nat) (v:Value) (wr:World):Prop :=
 ∃ (i:Nat) (X1:Px),m=n-i∧i<=n∧v=.int .i64 i∧(X.Ext X1∧PxOk X1∧X1.S=X.S∧∀ j q,j<i->qs[j]?=some q->chkP size q=0)∧St w N [pA X1] wr
def CkRel2 (X:Px) (N:List Nat) (w:World) (qs:List Pz) (n m:Nat) (v1 v:Value) (wr:World):Prop :=
 ∃ (i sm:Nat),m=n-i∧i<=n∧v1=.int .i64 sm∧v=.int .i64 i∧sm=szL (qs.take i)∧St w N [pA X] wr
theorem check_d {X:Px} {b:Nat} {s:List Tr} {ps:List Pi} {qs:List Pz} {ad:Option Addr} {c:Nat} (hX:PxOk X) (hd:IdIs X.S b s) (hps:PiL X.S ps qs) (hn:ps.length<=65536) (hs:s.length<=1048576) (htot:chkL s.length qs=0->szL qs<=1048576) (w:World) (h:PH X w) (hr:((pA X).sep (rowsA encPi 98 4 (.slice ad ps.length c) ps)).ho w) :
  Calls Tryz.prog 21 #[.pointer (some ⟨X.p,0,none⟩),.int .i64 b,.slice ad ps.length c] w (PPost X (erN (chkL s.length qs)) (pA X).fp w):=by
 have h:((pA X).sep deA).ho w:=h;rw [sep_ho] at h hr;have H:=St.one h.1;have HK:Ks w (pA X).fp [deA,(rowsA encPi 98 4 (.slice ad ps.length c) ps)]:=⟨fun A hA=>by
   simp at hA;rcases hA with rfl|rfl
   ·exact h.2.1
   ·exact hr.2.1,fun A hA b hbA hm=>by
   simp at hA;rcases hA with rfl|rfl
   ·exact h.2.2 b hm hbA
   ·exact hr.2.2 b hm hbA⟩
 generalize (pA X).fp=N at *;clear h hr;obtain ⟨n,hnn⟩:∃ n,ps.length=n:=⟨_,rfl⟩
 have hsl:=hps.len;rw [hnn] at hsl hn HK ⊢;have HRW:Hid (∀ (i:Nat) (a:Pi),ps[i]?=some a->∃ g,ad=some ⟨g,0,none⟩∧∀ w,(rowsA encPi 98 4 (.slice ad n c) ps).ho w->w.rangeAt g (i*4) [.bool a.c,.int .i64 a.f,.int .i64 a.n,.int .i64 a.id]):=zh fun i a hi=>by
  obtain ⟨g,c8,e1,_⟩:=rowsA_cases (HK.ho (rowsA encPi 98 4 (.slice ad n c) ps) (by simp)) (by have:=gelt hi;omega);injection e1 with e1 _ _
  exact ⟨g,e1,fun w h=>by rw [e1] at h;exact rowsA_rng h encPi_len hi⟩
 obtain ⟨size,hsz⟩:∃ n,s.length=n:=⟨_,rfl⟩
 rw [hsz] at hs htot ⊢;have HBS:Hid (∀ w,((pA X).sep deA).ho w->Calls Tryz.prog 59 #[.pointer (some ⟨X.p,0,none⟩),.int .i64 b] w fun e w'=>∃ X':Px,e=.returned (.tuple #[.int .i64 (size:Nat),.nilIface])∧X.Ext X'∧PxOk X'∧X'.S=X.S∧St w (pA X).fp [pA X'] w'):=zh fun w h=>by
  refine (baseSize_c hX hd w h).mono ?_;rintro e w' ⟨X',y1,y2,y3,rfl,y5⟩;exact ⟨X',by rw [hsz],y1,y2,y3,y5⟩
 have HCP:Hid (∀ (X1:Px) (p:Pi) (q:Pz) (k:Nat),X.Ext X1->PxOk X1->X1.S=X.S->PiOk X.S p q->chkP size q=k->∀ w,((pA X1).sep deA).ho w->Calls Tryz.prog 60 #[.pointer (some ⟨X.p,0,none⟩),.int .i64 (size:Nat),.agg #[.bool p.c,.int .i64 p.f,.int .i64 p.n,.int .i64 p.id]] w fun e w'=>∃ X':Px,e=.returned (erN k)∧X1.Ext X'∧PxOk X'∧X'.S=X1.S∧St w (pA X1).fp [pA X'] w'):=zh fun X1 p q k q1 q2 q3 q4 q5 w h=>by
  have:=checkPiece_c (size:=size) q2 (by rw [q3];exact q4) hs w h;rw [q1.p,q5] at this;refine this.mono ?_;rintro e w' ⟨X',y1,y2,y3,rfl,y5⟩;exact ⟨X',rfl,y1,y2,y3,y5⟩
 have HPS:Hid (∀ (X1:Px) (p:Pi) (q:Pz) (k:Nat),X.Ext X1->PxOk X1->X1.S=X.S->PiOk X.S p q->0<=q.n->szP q=k->∀ w,(pA X1).ho w->Calls Tryz.prog 58 #[.pointer (some ⟨X.p,0,none⟩),.agg #[.bool p.c,.int .i64 p.f,.int .i64 p.n,.int .i64 p.id]] w fun e w'=>e=.returned (.tuple #[.int .i64 (k:Nat),.nilIface])∧St w [] [] w'):=zh fun X1 p q k q1 q2 q3 q4 q5 q6 w h=>by
  have:=pieceSize_c q2 (by rw [q3];exact q4) q5 w h;rwa [q1.p,q6] at this
 have HAD:Hid (∀ (a b s:Nat),a+b=s->s<=1048576->∀ w,Calls Tryz.prog 61 #[.int .i64 (a:Nat),.int .i64 (b:Nat)] w fun e w'=>e=.returned (.tuple #[.int .i64 (s:Nat),.nilIface])∧w'=w):=zh fun a b s e hs w=>by rw [← e];exact add_ok_e a b w (show a+b<=1152921504606846976 by omega)
 have HIN:Hid (PiL X.S ps qs∧ps.length=n∧qs.length=n∧(chkL size qs=0->szL qs<=1048576)∧PxOk X):=zh ⟨hps,hnn,by omega,htot,hX⟩;clear hX hd hps htot hnn hsl hsz;go_enter Tryz.func21,Tryz.ntmps21;go_wp2_with (first|refine sL ?_|(refine sS ?_;clear H;intros;rename_i H)|(go_at_call 59;with_reducible refine zm (HBS.out _ (H.sepK HK pk pk)) ?_;rintro e9 wc ⟨X0,rfl,y1,y2,y3,hb⟩;have HX0:=zh (za y1 (za y2 y3));clear y1 y2 y3;replace H:=zn ((H.pick pk).call hb);clear hb));go_loopg [28] n (fun m v1 wr=>CkRel1 X N w qs size n m v1 wr);case atStart=>exact ⟨0,X0,rfl,Nat.zero_le _,rfl,⟨HX0.out.1,HX0.out.2.1,HX0.out.2.2,fun j q hj=>absurd hj (Nat.not_lt_zero _)⟩,H.picks (.cons pk .nil)⟩
 case round =>
  clear H;obtain ⟨i,X1,rfl,hik,rfl,hrel,H⟩:=hrel;have HX1:=zh hrel;by_cases hlt:i<n
  ·obtain ⟨p,hp⟩:∃ a,ps[i]?=some a:=⟨_,zg (by rw [HIN.out.2.1];exact hlt)⟩
   obtain ⟨q,hq,hpq⟩:=HIN.out.1.get hp;obtain ⟨g,rfl,hcell⟩:=HRW.out i p hp;have d5:decide ((i:Int)<(n:Int))=true:=(by simp;omega);have d5n:decide (i<n)=true:=(by simp;omega);have HRX:=zh hcell;obtain ⟨k,hk⟩:∃ k,chkP size q=k:=⟨_,rfl⟩
   have HCX:=zh (HCP.out X1 p q k HX1.out.1 HX1.out.2.1 HX1.out.2.2.1 hpq hk);have HKQ:Hid (qs[i]?=some q∧chkP size q=k):=zh ⟨hq,hk⟩;obtain ⟨pc,pf,pn,id⟩:=p;simp only at HRX HCX;clear hrel hp hq hpq hcell hk;unfold erN at HCX;by_cases hk0:k=0
   ·rw [if_pos hk0] at HCX;subst hk0;go_wp2_with (first|refine sL ?_|(refine sS ?_;clear H;intros;rename_i H)|(go_at_call 60;with_reducible refine zm (HCX.out _ (H.sepK HK pk pk)) ?_;rintro e9 wc ⟨X2,rfl,y1,y2,y3,hb⟩;have HZ:=zh (za y1 (za y2 y3));clear y1 y2 y3;replace H:=zn ((H.pick pk).call hb);clear hb)|((with_reducible refine isLoad ?_);refine AtLoad.rngT rfl rfl rfl (HRX.out _ (H.known HK pk)) rfl ?_;simp only [Act.put,puA,puB,puC]));go_roundg (n-(i+1));case measure=>omega
    case rel =>
     refine ⟨i+1,X2,rfl,by omega,rfl,⟨HX1.out.1.trans HZ.out.1,HZ.out.2.1,HZ.out.2.2.trans HX1.out.2.2.1,fun j q' hj hq'=>?_⟩,H.picks (.cons pk .nil)⟩;rcases Nat.lt_or_ge j i with h9|h9
     ·exact HX1.out.2.2.2 j q' h9 hq'
     ·obtain rfl:j=i:=by omega
      rw [HKQ.out.1] at hq';injection hq' with hq'
      rw [← hq'];exact HKQ.out.2
   ·rw [if_neg hk0] at HCX;have HFI:Hid (chkL size qs=k):=zh (by
     rw [← HKQ.out.2];exact chkL_first HX1.out.2.2.2 HKQ.out.1 (by rw [HKQ.out.2];exact hk0))
    have HER:Hid (erN (chkL size qs)=.iface 73 (.int .i64 (k:Nat))):=zh (by rw [HFI.out];simp [erN,hk0]);rw [HER.out];clear hk0;go_wp2_with (first|refine sL ?_|(refine sS ?_;clear H;intros;rename_i H)|(go_at_call 60;with_reducible refine zm (HCX.out _ (H.sepK HK pk pk)) ?_;rintro e9 wc ⟨X2,rfl,y1,y2,y3,hb⟩;have HZ:=zh (za y1 (za y2 y3));clear y1 y2 y3;replace H:=zn ((H.pick pk).call hb);clear hb)|((with_reducible refine isLoad ?_);refine AtLoad.rngT rfl rfl rfl (HRX.out _ (H.known HK pk)) rfl ?_;simp only [Act.put,puA,puB,puC]));go_ret;exact ⟨X2,HX1.out.1.trans HZ.out.1,HZ.out.2.1,HZ.out.2.2.trans HX1.out.2.2.1,rfl,H.picks (.cons pk .nil)⟩
  ·have d5:decide ((i:Int)<(n:Int))=false:=(by simp;omega);have d5n:decide (i<n)=false:=(by simp;omega);have hall:∀ q∈qs,chkP size q=0:=fun q hq=>by
    obtain ⟨j,hj,e⟩:=List.getElem_of_mem hq;exact HX1.out.2.2.2 j q (by have:=HIN.out.2.2.1;omega) (by rw [zg hj,e])
   have hz:=chkL_zero.2 hall;have HALL:Hid ((∀ q∈qs,chkP size q=0)∧szL qs<=1048576):=zh ⟨hall,HIN.out.2.2.2.1 hz⟩;have HE0:Hid (erN (chkL size qs)=.nilIface):=zh (by rw [hz];rfl);clear hrel hall hz;go_wp2_with (first|refine sL ?_|(refine sS ?_;clear H;intros;rename_i H));go_loopg [12,42] n (fun m v1 v2 wr=>CkRel2 X1 N w qs n m v1 v2 wr);case atStart=>exact ⟨0,0,rfl,Nat.zero_le _,rfl,rfl,by simp [szL],H.picks (.cons pk .nil)⟩
   case round =>
    clear H d5 d5n hlt hik;obtain ⟨i,sm,rfl,hik,rfl,rfl,hsm,H⟩:=hrel;by_cases hlt:i<n
    ·obtain ⟨p,hp⟩:∃ a,ps[i]?=some a:=⟨_,zg (by rw [HIN.out.2.1];exact hlt)⟩
     obtain ⟨q,hq,hpq⟩:=HIN.out.1.get hp;obtain ⟨g,rfl,hcell⟩:=HRW.out i p hp;have d5:decide ((i:Int)<(n:Int))=true:=(by simp;omega);have d5n:decide (i<n)=true:=(by simp;omega);have HRX:=zh hcell;obtain ⟨k,hk⟩:∃ k,szP q=k:=⟨_,rfl⟩
     have HCX:=zh (HPS.out X1 p q k HX1.out.1 HX1.out.2.1 HX1.out.2.2.1 hpq (chk_pos (HALL.out.1 q (List.mem_of_getElem? hq))).1 hk);obtain ⟨sm2,hsm2⟩:∃ n,sm+k=n:=⟨_,rfl⟩
     have HS2:Hid (sm+k=sm2∧sm2<=1048576∧sm2=szL (qs.take (i+1))):=zh (by
      have h1:=szL_take_succ hq;have h2:=szL_take qs (i+1);have h3:=HALL.out.2;omega)
     obtain ⟨pc,pf,pn,id⟩:=p;simp only at HRX HCX;clear hp hq hpq hcell hk hsm2 hsm;go_wp2_with (first|refine sL ?_|(refine sS ?_;clear H;intros;rename_i H)|(go_at_call 58;with_reducible refine zm (HCX.out _ (H.get pk)) ?_;rintro e9 wc ⟨rfl,hb⟩;replace H:=H.grew hb.below;clear hb)|(go_at_call 61;with_reducible refine same (HAD.out sm k sm2 HS2.out.1 HS2.out.2.1 _) ?_)|((with_reducible refine isLoad ?_);refine AtLoad.rngT rfl rfl rfl (HRX.out _ (H.known HK pk)) rfl ?_;simp only [Act.put,puA,puB,puC]));go_roundg (n-(i+1));case measure=>omega
     case rel=>exact ⟨i+1,sm2,rfl,by omega,rfl,rfl,HS2.out.2.2,H.picks (.cons pk .nil)⟩
    ·have d5:decide ((i:Int)<(n:Int))=false:=(by simp;omega);have d5n:decide (i<n)=false:=(by simp;omega);clear hsm;go_wp2_with (first|refine sL ?_|(refine sS ?_;clear H;intros;rename_i H));go_ret;exact ⟨X1,HX1.out.1,HX1.out.2.1,HX1.out.2.2.1,by rw [HE0.out];rfl,H.picks (.cons pk .nil)⟩
def apP (base:List Nat) (q:Pz):List Nat:=if q.c then (base.drop q.f.toNat).take q.n.toNat else q.t
def apL (base:List Nat) (qs:List Pz):List Nat:=qs.flatMap (apP base)
theorem apP_len {base:List Nat} {q:Pz} (h:chkP base.length q=0):(apP base q).length=szP q:=by
 have:=chk_pos h;unfold apP szP;split
 ·rename_i hc;have:=this.2 hc;simp;omega
 ·rfl
theorem apL_len {base:List Nat}:∀ {qs:List Pz},(∀ q∈qs,chkP base.length q=0)->(apL base qs).length=szL qs
 |[],_=>rfl
 |q::r,h=>by
  have h1:=apL_len (base:=base) (qs:=r) fun x hx=>h x (by simp [hx])
  have h2:=apP_len (h q (by simp));unfold apL szL at h1 ⊢;simp [h1,h2]
def apS (base:List Nat) (qs:List Pz):List (List Tr):=qs.map fun q=>(apP base q).map Tr.leaf
theorem apS_flat (base:List Nat):∀ qs:List Pz,(apS base qs).flatten=(apL base qs).map Tr.leaf
 |[]=>rfl
 |q::r=>by
  have:=apS_flat base r;unfold apS apL at this ⊢;simp [this]
def ApRel (X:Px) (N:List Nat) (w:World) (base:List Nat) (qs:List Pz) (n m:Nat) (v1 v:Value) (wr:World):Prop :=
 ∃ (i:Nat) (X1:Px) (ids:List Nat),m=n-i∧i<=n∧v=.int .i64 i∧(ids.length=i∧IdL X1.S ids (apS base (qs.take i))∧X.Ext X1∧PxOk X1∧X1.S.list.length<=X.S.list.length+i*(2*base.length))∧St w N [pA X1,rowsA encI 26 1 v1 ids] wr
theorem apply_no {X:Px} {b:Nat} {s:List Tr} {ps:List Pi} {qs:List Pz} {ad:Option Addr} {c:Nat} (hX:PxOk X) (hd:IdIs X.S b s) (hps:PiL X.S ps qs) (hn:ps.length<=65536) (hs:s.length<=1048576) (hk:chkL s.length qs≠0) (w:World) (h:PH X w) (hr:((pA X).sep (rowsA encPi 98 4 (.slice ad ps.length c) ps)).ho w) :
  Calls Tryz.prog 18 #[.pointer (some ⟨X.p,0,none⟩),.int .i64 b,.slice ad ps.length c] w (PPost X (.tuple #[.int .i64 0,.iface 73 (.int .i64 (chkL s.length qs:Nat))]) (pA X).fp w):=by
 obtain ⟨k,hk9⟩:∃ k,chkL s.length qs=k:=⟨_,rfl⟩
 have h:((pA X).sep deA).ho w:=h;rw [sep_ho] at h hr;have H:=St.one h.1;have HK:Ks w (pA X).fp [deA,(rowsA encPi 98 4 (.slice ad ps.length c) ps)]:=⟨fun A hA=>by
   simp at hA;rcases hA with rfl|rfl
   ·exact h.2.1
   ·exact hr.2.1,fun A hA b hbA hm=>by
   simp at hA;rcases hA with rfl|rfl
   ·exact h.2.2 b hm hbA
   ·exact hr.2.2 b hm hbA⟩
 generalize (pA X).fp=N at *;clear h hr;obtain ⟨n,hnn⟩:∃ n,ps.length=n:=⟨_,rfl⟩
 have hsl:=hps.len;rw [hnn] at hsl hn HK ⊢;have HCK:Hid (∀ w,((pA X).sep deA).ho w->((pA X).sep (rowsA encPi 98 4 (.slice ad n c) ps)).ho w->Calls Tryz.prog 21 #[.pointer (some ⟨X.p,0,none⟩),.int .i64 b,.slice ad n c] w (PPost X (.iface 73 (.int .i64 (k:Nat))) (pA X).fp w)):=zh fun w h h2=>by
  rw [← hnn] at h2 hn ⊢;have:=check_d hX hd hps hn hs (fun h=>absurd h hk) w h h2;rw [hk9] at this hk;simpa [erN,hk] using this
 have HRW:Hid (∀ (i:Nat) (a:Pi),ps[i]?=some a->∃ g,ad=some ⟨g,0,none⟩∧∀ w,(rowsA encPi 98 4 (.slice ad n c) ps).ho w->w.rangeAt g (i*4) [.bool a.c,.int .i64 a.f,.int .i64 a.n,.int .i64 a.id]):=zh fun i a hi=>by
  obtain ⟨g,c8,e1,_⟩:=rowsA_cases (HK.ho (rowsA encPi 98 4 (.slice ad n c) ps) (by simp)) (by have:=gelt hi;omega);injection e1 with e1 _ _
  exact ⟨g,e1,fun w h=>by rw [e1] at h;exact rowsA_rng h encPi_len hi⟩
 rw [hk9];clear hX hd hps hnn hsl hk hk9 HRW;go_enter Tryz.func18,Tryz.ntmps18;go_wp2_with (first|refine sL ?_|(refine sS ?_;clear H;intros;rename_i H)|(go_at_call 21;with_reducible refine zm (HCK.out _ (H.sepK HK pk pk) (H.sepK HK pk pk)) ?_;rintro e9 wc ⟨X0,y1,y2,y3,rfl,hb⟩;have HX0:=zh (za y1 (za y2 y3));clear y1 y2 y3;replace H:=zn ((H.pick pk).call hb);clear hb));go_ret2;exact ⟨X0,HX0.out.1,HX0.out.2.1,HX0.out.2.2,rfl,H.picks (.cons pk .nil)⟩
end
section
open Go.RowKit Go.Maps
attribute [local go_sem] InGr
theorem apply_c {X:Px} {b:Nat} {base:List Nat} {ps:List Pi} {qs:List Pz} {ad:Option Addr} {c:Nat} (hX:PxOk X) (hd:IdIs X.S b (base.map Tr.leaf)) (hps:PiL X.S ps qs) (hn:ps.length<=1024) (hs:base.length<=1048576) (hz:chkL base.length qs=0) (htot:szL qs<=1048576) (hroom:X.S.list.length+ps.length*(2*base.length)+ps.length*szL qs<=X.S.most) (w:World) (h:PH X w) (hr:((pA X).sep (rowsA encPi 98 4 (.slice ad ps.length c) ps)).ho w) :
  Calls Tryz.prog 18 #[.pointer (some ⟨X.p,0,none⟩),.int .i64 b,.slice ad ps.length c] w (IdPost X ((apL base qs).map Tr.leaf) (ps.length*(2*base.length)+ps.length*szL qs) (pA X).fp w):=by
 have h:((pA X).sep deA).ho w:=h;rw [sep_ho] at h hr;have H:=St.one h.1;have HK:Ks w (pA X).fp [deA,(rowsA encPi 98 4 (.slice ad ps.length c) ps)]:=⟨fun A hA=>by
   simp at hA;rcases hA with rfl|rfl
   ·exact h.2.1
   ·exact hr.2.1,fun A hA b hbA hm=>by
   simp at hA;rcases hA with rfl|rfl
   ·exact h.2.2 b hm hbA
   ·exact hr.2.2 b hm hbA⟩
 generalize (pA X).fp=N at *;clear h hr;obtain ⟨n,hnn⟩:∃ n,ps.length=n:=⟨_,rfl⟩
 have hsl:=hps.len;rw [hnn] at hsl hn HK ⊢;have HCK:Hid (∀ w,((pA X).sep deA).ho w->((pA X).sep (rowsA encPi 98 4 (.slice ad n c) ps)).ho w->Calls Tryz.prog 21 #[.pointer (some ⟨X.p,0,none⟩),.int .i64 b,.slice ad n c] w (PPost X .nilIface (pA X).fp w)):=zh fun w h h2=>by
  rw [← hnn] at h2 hn ⊢;have:=check_d hX hd hps (by omega) (by simp;exact hs) (fun _=>htot) w h h2;rw [List.length_map,hz] at this;simpa [erN] using this
 have HRW:Hid (∀ (i:Nat) (a:Pi),ps[i]?=some a->∃ g,ad=some ⟨g,0,none⟩∧∀ w,(rowsA encPi 98 4 (.slice ad n c) ps).ho w->w.rangeAt g (i*4) [.bool a.c,.int .i64 a.f,.int .i64 a.n,.int .i64 a.id]):=zh fun i a hi=>by
  obtain ⟨g,c8,e1,_⟩:=rowsA_cases (HK.ho (rowsA encPi 98 4 (.slice ad n c) ps) (by simp)) (by have:=gelt hi;omega);injection e1 with e1 _ _
  exact ⟨g,e1,fun w h=>by rw [e1] at h;exact rowsA_rng h encPi_len hi⟩
 have hall:=chkL_zero.1 hz;obtain ⟨bl,hbl⟩:∃ n,base.length=n:=⟨_,rfl⟩
 obtain ⟨tot,htt⟩:∃ n,szL qs=n:=⟨_,rfl⟩
 rw [hnn,hbl,htt] at hroom;rw [hbl,htt];rw [hbl] at hs;rw [htt] at htot;have HSE:Hid (∀ (X2:Px) (f m:Nat),X.Ext X2->PxOk X2->f+m<=bl->X2.S.list.length+2*bl<=X.S.most->∀ w,((pA X2).sep deA).ho w->Calls Tryz.prog 56 #[.pointer (some ⟨X.p,0,none⟩),.int .i64 b,.int .i64 (f:Nat),.int .i64 (m:Nat)] w (IdPost X2 (((base.drop f).take m).map Tr.leaf) (2*bl) (pA X2).fp w)):=zh fun X2 f m q1 q2 q3 q4 w h=>by
  have hm:X2.S.most=X.S.most:=q1.le.1;have:=Section_ok q2 (hd.le hX.ok q1.le) (from_:=f) (n:=m) (by simp;omega) (by simp;omega) (by rw [hm];simp;omega) w h;rw [q1.p,List.length_map,hbl,← List.map_drop,← List.map_take] at this;exact this
 have HCC:Hid (∀ (X2:Px) (ids:List Nat) (ad2:Option Addr) (c2:Nat),X.Ext X2->PxOk X2->ids.length=n->IdL X2.S ids (apS base qs)->X2.S.list.length+n*tot<=X.S.most->∀ w,((pA X2).sep deA).ho w->((pA X2).sep (rowsA encI 26 1 (.slice ad2 n c2) ids)).ho w->Calls Tryz.prog 57 #[.pointer (some ⟨X.p,0,none⟩),.slice ad2 n c2] w (IdPost X2 ((apL base qs).map Tr.leaf) (n*tot) (pA X2).fp w)):=zh fun X2 ids ad2 c2 q1 q2 q3 q4 q5 w h h2=>by
  have hm:X2.S.most=X.S.most:=q1.le.1;have htl:totL (apS base qs)=tot:=by
   unfold totL;rw [apS_flat,List.length_map,apL_len hall,htt]
  have:=concat_c (ad:=ad2) (c:=c2) q2 q4 (by omega) (by rw [htl];omega) (by rw [htl,q3,hm];exact q5) w h (by rw [q3];exact h2);rw [q1.p,q3,htl,apS_flat] at this;exact this
 have HIN:Hid (PiL X.S ps qs∧ps.length=n∧qs.length=n∧(∀ q∈qs,chkP base.length q=0)∧PxOk X∧base.length=bl∧X.S.list.length+n*(2*bl)+n*tot<=X.S.most):=zh ⟨hps,hnn,by omega,hall,hX,hbl,hroom⟩;clear hX hd hps hz htot hnn hsl hall hbl htt hroom;go_enter Tryz.func18,Tryz.ntmps18;go_wp2_with (first|refine sL ?_|(refine sS ?_;clear H;intros;rename_i H)|(go_at_call 21;with_reducible refine zm (HCK.out _ (H.sepK HK pk pk) (H.sepK HK pk pk)) ?_;rintro e9 wc ⟨X0,y1,y2,y3,rfl,hb⟩;have HX0:=zh (za y1 (za y2 y3));clear y1 y2 y3;replace H:=zn ((H.pick pk).call hb);clear hb));replace H:=H.empty (A:=rowsA encI 26 1 (.slice none 0 0) []) (rowsA_nil _) (by rw [rowsA_fp'];rfl);go_loopg [9,23] n (fun m v1 v2 wr=>ApRel X N w base qs n m v1 v2 wr);case atStart=>exact ⟨0,X0,[],rfl,Nat.zero_le _,rfl,⟨rfl,trivial,HX0.out.1,HX0.out.2.1,by rw [HX0.out.2.2];omega⟩,H.picks (.cons pk (.cons pk .nil))⟩
 case round =>
  clear H;obtain ⟨i,X1,ids,rfl,hik,rfl,hrel,H⟩:=hrel;have HX1:=zh hrel;obtain ⟨ad2,c2,rfl,_⟩:=rowsA_shape (H.get (A:=rowsA encI 26 1 _ ids) pk);by_cases hlt:i<n
  ·obtain ⟨p,hp⟩:∃ a,ps[i]?=some a:=⟨_,zg (by rw [HIN.out.2.1];exact hlt)⟩
   obtain ⟨q,hq,hpq⟩:=HIN.out.1.get hp;obtain ⟨g,rfl,hcell⟩:=HRW.out i p hp;have hck:=HIN.out.2.2.2.1 q (List.mem_of_getElem? hq);have d5:decide ((i:Int)<(n:Int))=true:=(by simp;omega);have d5n:decide (i<n)=true:=(by simp;omega);have HRX:=zh hcell;have hlim:X1.S.list.length+2*bl<=X.S.most∧i<=65536:=by
    have h1:=hrel.2.2.2.2;have h2:=HIN.out.2.2.2.2.2.2;have h3:(i+1)*(2*bl)<=n*(2*bl):=Nat.mul_le_mul_right _ (by omega);rw [HIN.out.2.2.2.2.2.1] at h1;rw [Nat.add_mul,Nat.one_mul] at h3;exact ⟨by omega,by omega⟩
   have HLI:=zh hlim;have hiL:=hlim.2;have htk:apS base (qs.take (i+1))=apS base (qs.take i)++[(apP base q).map Tr.leaf]:=by
    unfold apS;rw [List.take_add_one,hq];simp
   have HTK:=zh htk;obtain ⟨i1,hi1⟩:∃ n,i+1=n:=⟨_,rfl⟩
   have HI1:=zh hi1;obtain ⟨pc,pf,pn,id⟩:=p;obtain ⟨qc,qf,qn,qt⟩:=q;obtain ⟨g1,g2,g3,g4⟩:=hpq;simp only at g1 g2 g3 g4 HRX;subst g1 g2 g3;cases pc with
   |true =>
    obtain ⟨e1,e2⟩:=chk_pos hck;obtain ⟨e3,e4,e5⟩:=e2 rfl;simp only at e1 e3 e4 e5;rw [HIN.out.2.2.2.2.2.1] at e5;obtain ⟨f,rfl⟩:∃ f:Nat,pf=f:=⟨pf.toNat,by omega⟩
    obtain ⟨m,rfl⟩:∃ f:Nat,pn=f:=⟨pn.toNat,by omega⟩
    have HFM:Hid (f+m<=bl∧apP base ⟨true,(f:Int),(m:Int),qt⟩=(base.drop f).take m):=zh ⟨by omega,by simp [apP]⟩;clear hrel hp hq hcell hck hlim htk hi1 e1 e2 e3 e4 e5 g4;go_wp2_with (first|refine sL ?_|(refine sS ?_;clear H;intros;rename_i H)|(go_at_call 56;with_reducible refine zm (HSE.out X1 f m HX1.out.2.2.1 HX1.out.2.2.2.1 HFM.out.1 HLI.out.1 _ (H.sepK HK pk pk)) ?_;rintro e9 wc ⟨X2,id2,rfl,y1,y2,y3,y4,hb⟩;have HZ:=zh (za y1 (za y2 (za y3 y4)));clear y1 y2 y3 y4;replace H:=zn ((H.pick pk).call hb);clear hb)|((with_reducible refine isLoad ?_);refine AtLoad.rngT rfl rfl rfl (HRX.out _ (H.known HK pk)) rfl ?_;simp only [Act.put,puA,puB,puC])|((with_reducible refine isSlice ?_);refine AtSlice.one H rfl rfl rfl rfl rfl rfl rfl rfl rfl ?_;clear H;intro b _ H;simp only [Act.put,puA,puB,puC])|((with_reducible refine isAppend ?_);refine AtAppend.go (enc:=encI) H rfl rfl rfl rfl rfl (by decide) (by decide) rfl pk rfl (H.at pk) [id2] rfl (by simp [flatG,encI]) encI_len encI_one (by have h1:=HX1.out.1;simp;omega) ?_;clear H;intro ad9 cp9 _ H;simp only [Act.put,puA,puB,puC]));go_roundg (n-(i+1));case measure=>omega
    case rel =>
     have h1:=HX1.out;have h2:=HIN.out.2.2.2.2.2.1;have h3:=HI1.out;refine ⟨i1,X2,ids++[id2],by rw [h3],by omega,by rw [← h3];go_num,⟨by simp [h1.1,h3],?_,h1.2.2.1.trans HZ.out.1,HZ.out.2.1,?_⟩,H.picks (.cons pk (.cons pk .nil))⟩
     ·rw [← h3,HTK.out,HFM.out.2];exact (h1.2.1.le h1.2.2.2.1.ok HZ.out.1.le).snoc HZ.out.2.2.1
     ·have h4:=HZ.out.2.2.2;have h5:=h1.2.2.2.2;rw [← h3,Nat.add_mul,Nat.one_mul,h2];rw [h2] at h5;omega
   |false =>
    have HID:Hid (IdIs X1.S id ((apP base ⟨false,pf,pn,qt⟩).map Tr.leaf)):=zh (by
     simp only [apP];exact g4.le HIN.out.2.2.2.2.1.ok hrel.2.2.1.le)
    clear hrel hp hq hcell hck hlim htk hi1 g4;go_wp2_with (first|refine sL ?_|(refine sS ?_;clear H;intros;rename_i H)|((with_reducible refine isLoad ?_);refine AtLoad.rngT rfl rfl rfl (HRX.out _ (H.known HK pk)) rfl ?_;simp only [Act.put,puA,puB,puC])|((with_reducible refine isSlice ?_);refine AtSlice.one H rfl rfl rfl rfl rfl rfl rfl rfl rfl ?_;clear H;intro b _ H;simp only [Act.put,puA,puB,puC])|((with_reducible refine isAppend ?_);refine AtAppend.go (enc:=encI) H rfl rfl rfl rfl rfl (by decide) (by decide) rfl pk rfl (H.at pk) [id] rfl (by simp [flatG,encI]) encI_len encI_one (by have h1:=HX1.out.1;simp;omega) ?_;clear H;intro ad9 cp9 _ H;simp only [Act.put,puA,puB,puC]));go_roundg (n-(i+1));case measure=>omega
    case rel =>
     have h1:=HX1.out;have h3:=HI1.out;refine ⟨i1,X1,ids++[id],by rw [h3],by omega,by rw [← h3];go_num,⟨by simp [h1.1,h3],?_,h1.2.2.1,h1.2.2.2.1,?_⟩,H.picks (.cons pk (.cons pk .nil))⟩
     ·rw [← h3,HTK.out];exact h1.2.1.snoc HID.out
     ·have h5:=h1.2.2.2.2;rw [← h3,Nat.add_mul,Nat.one_mul];omega
  ·have d5:decide ((i:Int)<(n:Int))=false:=(by simp;omega);have d5n:decide (i<n)=false:=(by simp;omega);have hin:i=n:=(by omega);subst hin;have HCX:=zh (HCC.out X1 ids ad2 c2 hrel.2.2.1 hrel.2.2.2.1 hrel.1 (by
    have:=hrel.2.1;rwa [List.take_of_length_le (by rw [HIN.out.2.2.1];exact Nat.le_refl _)] at this) (by
    have h1:=hrel.2.2.2.2;have h2:=HIN.out.2.2.2.2.2.2;rw [HIN.out.2.2.2.2.2.1] at h1;omega))
   rw [hrel.1] at H ⊢;clear hrel hlt;go_wp2_with (first|refine sL ?_|(refine sS ?_;clear H;intros;rename_i H)|(go_at_call 57;with_reducible refine zm (HCX.out _ (H.sepK HK pk pk) (H.sepO pk pk)) ?_;rintro e9 wc ⟨X2,id2,rfl,y1,y2,y3,y4,hb⟩;have HZ:=zh (za y1 (za y2 (za y3 y4)));clear y1 y2 y3 y4;replace H:=zn ((H.pick pk).call hb);clear hb));go_ret2;refine ⟨X2,id2,rfl,HX1.out.2.2.1.trans HZ.out.1,HZ.out.2.1,HZ.out.2.2.1,?_,H.picks (.cons pk .nil)⟩;have h4:=HZ.out.2.2.2;have h5:=HX1.out.2.2.2.2;rw [HIN.out.2.2.2.2.2.1] at h5;omega
end
section
open Go.RowKit Go.Maps
attribute [local go_sem] InGr
def strB (l:List Nat):ByteArray:=⟨(l.map UInt8.ofNat).toArray⟩
theorem strB_append (a b:List Nat):strB a++strB b=strB (a++b):=by
 apply ByteArray.ext;simp [strB,ByteArray.data_append]
theorem strB_size (l:List Nat):(strB l).size=l.length:=by simp [strB,ByteArray.size]
theorem strB_nil:strB []=⟨#[]⟩:=rfl
theorem strB_extract (l:List Nat) (a b:Nat):(strB l).extract a b=strB ((l.drop a).take (b-a)):=by
 unfold strB;rw [ByteArray.extract_mk,List.map_take,List.map_drop]
theorem strB_cells {l:List Nat} (hl:∀ x∈l,x<256) (cap:Nat):∀ (j:Nat) (u:Value),(flatG encT l)[j]?=some u->(bytesRow (strB l) cap)[j]?=some u:=by
 intro j u hj;have hf:flatG encT l=l.map fun x=>(.int .u8 (x:Nat):Value):=by
  unfold flatG encT;clear hj hl;induction l with
  |nil=>rfl
  |cons x l ih=>rw [List.flatMap_cons,List.map_cons,ih];rfl
 rw [hf,List.getElem?_map] at hj;cases hx:l[j]? with
 |none=>rw [hx] at hj;simp at hj
 |some x =>
  rw [hx] at hj;simp at hj;subst hj;have hjl:=gelt hx;have hx2:x<256:=hl x (List.mem_of_getElem? hx);unfold bytesRow;rw [Array.getElem?_append_left (by simp [strB];exact hjl)];simp only [strB,Array.getElem?_map,List.getElem?_toArray,List.getElem?_map,hx,Option.map_some];simp [UInt8.toNat_ofNat',Nat.mod_eq_of_lt hx2]
section
variable {ops:Array Oper} {Q:Exit->Act->World->Prop} {rest:List Oper} {a:Act} {w w0:World} {M:List Nat} {L R:List As} {o1:Oper} {dst:Option Tmp} {ty0:TypeId} {pos:String} {aft:Array Edge} {gd:Option (Nat×Bool)}
def AtBytes (P:Program) (ops:Array Oper) (Q:Exit->Act->World->Prop) (o:Oper) (_ _:TypeId) (_:Operand) (rest:List Oper) (a:Act) (w:World):Prop:=wpList P ops Q (o::rest) a w
theorem isBytes {P:Program} {x:Operand} (h:AtBytes P ops Q ⟨dst,.convert 9 42 x,ty0,pos,aft,gd⟩ 9 42 x rest a w):wpList P ops Q (⟨dst,.convert 9 42 x,ty0,pos,aft,gd⟩::rest) a w:=h
theorem St.ofBytes {w0 w:World} {M:List Nat} {L:List As} {l:List Nat} {cap:Nat} {fr:Nat×Nat} (H:St w0 M L w) (hl:∀ x∈l,x<256):St w0 M (poolA [(w.heap.size,0,flatG encT l)]::L) (w.drew.alloc (.cells (bytesRow (strB l) cap) 5 fr)):=by
 have h1:St w0 M L w.drew:=⟨H.os,H.tape,H.output,H.size,H.keep,fun A hA=>A.loc w _ (fun _ _=>rfl) (H.ho A hA),H.own,H.dis⟩
 have h2:=h1.alloc (.cells (bytesRow (strB l) cap) 5 fr);refine h2.conv (by rw [poolA_fp,blk_fp];rfl) fun hb=>?_
 rw [blk_ho] at hb;rw [poolA_ho];intro x hx;simp only [List.mem_cons,List.not_mem_nil,or_false] at hx;subst hx;refine ⟨lt_of_block hb,fun j u hj=>?_⟩;show (w.drew.alloc (.cells (bytesRow (strB l) cap) 5 fr)).cell? ⟨w.drew.heap.size,0+j,none⟩=some u
 rw [cell_of_row _ _ (0+j) _ _ fr hb,Nat.zero_add];exact strB_cells hl cap j u hj
theorem AtBytes.go {x:Operand} (H:St w0 M L w) (hw:Region.wanted o1 (yielded ops a.tmps)=true) (ho:o1.op=.convert 9 42 x) (l:List Nat) (hx:evalO a x=some (.string (strB l))) (hl:∀ x∈l,x<256) {n:Nat} (hn:l.length=n) (hm:n<=maxLen)
  (h:∀ g c w',RowIn [(g,0,flatG encT l)] encT 1 (.slice (some ⟨g,0,none⟩) n c) l->St w0 M (poolA [(g,0,flatG encT l)]::L) w'->wpList Tryz.prog ops Q rest (a.put o1.dst (.slice (some ⟨g,0,none⟩) n c)) w'):AtBytes Tryz.prog ops Q o1 9 42 x rest a w :=
 wpList_step fun _ hK=>by
  rw [if_pos hw];subst hn;have hr:=run_bytes_of_string (P:=Tryz.prog) w 9 42 5 (strB l) (by kernel_rfl) (by kernel_rfl) (by kernel_rfl);rw [strB_size] at hr;unfold Oper.wp execOp;simp only [ho,evalO_eq hx,Sem.run_bind,hr,Result.andThen_ok,Sem.run_pure];exact hK _ _ (h _ _ _ ⟨_,_,rfl,hm,fun _=>⟨w.heap.size,0,rfl,by simp⟩⟩ (H.ofBytes hl))
end
attribute [irreducible] strB
attribute [local go_sem] strB_size
abbrev ParsePost (text:List Nat) (w:World) (e:Ending) (w':World):Prop :=
 ∃ (X:Px) (id:Nat),e=.returned (.tuple #[.pointer (some ⟨X.p,0,none⟩),.int .i64 id,.bool true])∧PxOk X∧X.S.most=1048576∧IdIs X.S id (text.map Tr.leaf)∧X.S.list.length<=2*text.length∧St w [] [pA X] w'
theorem parse_c {text:List Nat} (hb:∀ x∈text,x<256) (hlen:text.length<=1000) (w:World) (hde:deA.ho w) :
    Calls Tryz.prog 15 #[.string (strB text)] w (ParsePost text w):=by
  have H:=St.nil w [];have HK:Ks w [] [deA]:=Ks.one hde;clear hde;have HNW:Hid (∀ w,Calls Tryz.prog 55 #[.int .i64 1048576] w fun e w'=>∃ p m,e=.returned (.pointer (some ⟨p,0,none⟩))∧St w [] [stoA p (.slice none 0 0) m ⟨1048576,[]⟩] w'):=zh fun w=>new_c 1048576 (Nat.le_refl _) 1048576 rfl w
  have HSN:Hid (∀ ps pm w,(stoA ps (.slice none 0 0) pm ⟨1048576,[]⟩).ho w->Calls Tryz.prog 54 #[.pointer (some ⟨ps,0,none⟩)] w fun e w'=>∃ X:Px,X.s=ps∧X.S=⟨1048576,[]⟩∧PxOk X∧e=.returned (.pointer (some ⟨X.p,0,none⟩))∧St w (stoA ps (.slice none 0 0) pm ⟨1048576,[]⟩).fp [pA X] w'):=zh fun ps pm w h=>snew_c sto_nil_ok w h
  obtain ⟨n,hn⟩:∃ n,text.length=n:=⟨_,rfl⟩
  have hsz:(strB text).size=n:=(by rw [strB_size];exact hn);have HOF:Hid (∀ (X:Px) (g c:Nat),PxOk X->X.S=⟨1048576,[]⟩->RowIn [(g,0,flatG encT text)] encT 1 (.slice (some ⟨g,0,none⟩) n c) text->∀ w,((pA X).sep deA).ho w->((pA X).sep (poolA [(g,0,flatG encT text)])).ho w->Calls Tryz.prog 22 #[.pointer (some ⟨X.p,0,none⟩),.slice (some ⟨g,0,none⟩) n c] w (IdPost X (text.map Tr.leaf) (2*n) (pA X).fp w)):=zh fun X g c q1 q2 q3 w h1 h2=>by
    have:=of_any q1 q3 hb (by omega) (by rw [q2];simp;omega) w h1 h2;rw [hn] at this;exact this
  have HB:Hid ((∀ x∈text,x<256)∧text.length=n∧n<=1000):=zh ⟨hb,hn,by omega⟩;have HZ0:Hid (∀ (S:Sto) (id:Nat),IdIs S id (text.map Tr.leaf)->(id=0↔n=0)):=zh fun S id h=>by
    rw [idIs_zero h,← hn];exact ⟨fun h=>by rw [h];rfl,List.eq_nil_of_length_eq_zero⟩
  unfold ParsePost;rw [hn];clear hb hlen hn;go_enter Tryz.func15,Tryz.ntmps15;go_wp2_with (first|refine sL ?_|(refine sS ?_;clear H;intros;rename_i H)|(go_at_call 55;with_reducible refine zm (HNW.out _) ?_;rintro e9 wc ⟨ps,pm,rfl,hb⟩;replace H:=zn (H.call0 hb);clear hb)|(go_at_call 54;with_reducible refine zm (HSN.out _ _ _ (H.get pk)) ?_;rintro e9 wc ⟨X,hxs,hxS,hxo,rfl,hb⟩;have HXN:=zh (za hxS hxo);clear hxs hxS hxo;replace H:=zn ((H.pick pk).call hb);clear hb)|((with_reducible refine isBytes ?_);refine AtBytes.go H rfl rfl text rfl HB.out.1 HB.out.2.1 (by have:=HB.out.2.2;unfold maxLen;omega) ?_;clear H;intro gb cb _ hrb H;have HRB:=zh hrb;clear hrb;simp only [Act.put,puA,puB,puC]));go_at_call 22
  with_reducible refine zm (HOF.out X gb cb HXN.out.2 HXN.out.1 HRB.out _ (H.sepK HK pk pk) (H.sepO pk pk)) ?_
  rintro e9 wc ⟨X2,id2,rfl,y1,y2,y3,y4,hb⟩;have hz:=HZ0.out _ _ y3;have HY:=zh (za y1 (za y2 (za y3 y4)));clear y1 y2 y3 y4;replace H:=zn ((H.pick pk).call hb);clear hb;rcases Nat.eq_zero_or_pos n with h0|h0
  case' inl =>
    have d1:decide ((0:Int)<(id2:Int))=false:=(by have:=hz.2 h0;simp;omega);have d1n:decide (0<id2)=false:=(by have:=hz.2 h0;simp;omega);have d2:decide ((0:Int)<(n:Int))=false:=(by simp;omega);have d2n:decide (0<n)=false:=by simp;omega
  case' inr =>
    have d1 : decide ((0 : Int) < (id2 : Int)) = true := by have : id2 ≠ 0 := fun h => by have := hz.1 h; omega
                                                            simp;omega
    have d1n : decide (0 < id2) = true := by have : id2 ≠ 0 := fun h => by have := hz.1 h; omega
                                             simp;omega
    have d2:decide ((0:Int)<(n:Int))=true:=(by simp;omega);have d2n:decide (0<n)=true:=by simp;omega
  all_goals
    clear hz h0;go_wp2_with (first|refine sL ?_|(refine sS ?_;clear H;intros;rename_i H))
    go_ret3
    exact ⟨X2,id2,by rw [HY.out.1.p];rfl,HY.out.2.1,by rw [HY.out.1.le.1,HXN.out.1],HY.out.2.2.1,by have:=HY.out.2.2.2;rw [HXN.out.1] at this;simpa using this,H.picks (.cons pk .nil)⟩
end
section
open Go.RowKit Go.Maps
attribute [local go_sem] InGr strB_size
def encR (q:Pz):List Value:=[.bool q.c,.int .i64 q.f,.int .i64 q.n,.string (strB q.t)]
theorem encR_len (q:Pz):(encR q).length=4:=rfl
def txL (l:List Pz):Nat:=(l.map fun q=>q.t.length).sum
theorem txL_take_succ {l:List Pz} {i:Nat} {q:Pz} (h:l[i]?=some q):txL (l.take (i+1))=txL (l.take i)+q.t.length:=by
 unfold txL;rw [List.take_add_one,h];simp
theorem txL_take (l:List Pz) (i:Nat):txL (l.take i)<=txL l:=by
 unfold txL;have h:l.take i++l.drop i=l:=List.take_append_drop i l;have h2:=congrArg (fun l:List Pz=>(l.map fun q=>q.t.length).sum) h;simp only [List.map_append,List.sum_append] at h2;omega
theorem row_cells {P:PoolT} {qs:List Pz} {g o n c i:Nat} {q:Pz} (hr:RowIn P encR 4 (.slice (some ⟨g,o,none⟩) n c) qs) (hq:qs[i]?=some q):∀ w,(poolA P).ho w->w.cell? ⟨g,o+i*4,none⟩=some (.bool q.c)∧w.cell? ⟨g,o+i*4+1,none⟩=some (.int .i64 q.f)∧w.cell? ⟨g,o+i*4+2,none⟩=some (.int .i64 q.n)∧w.cell? ⟨g,o+i*4+3,none⟩=some (.string (strB q.t)):=fun w h=>by
 have h1:=hr.rng h encR_len hq;exact ⟨h1 0 _ rfl,h1 1 _ rfl,h1 2 _ rfl,h1 3 _ rfl⟩
abbrev PcsPost (X:Px) (qs:List Pz) (M:List Nat) (w:World) (e:Ending) (w':World):Prop :=
 ∃ (X':Px) (v':Value) (ps:List Pi),e=.returned (.tuple #[v',.bool true])∧X.Ext X'∧PxOk X'∧PiL X'.S ps qs∧X'.S.list.length<=X.S.list.length+2*txL qs∧St w M [pA X',rowsA encPi 98 4 v' ps] w'
def PcRel (X:Px) (N:List Nat) (w:World) (qs:List Pz) (n m:Nat) (v1 v:Value) (wr:World):Prop :=
 ∃ (i:Nat) (X1:Px) (ps:List Pi),m=n-i∧i<=n∧v=.int .i64 i∧(ps.length=i∧PiL X1.S ps (qs.take i)∧X.Ext X1∧PxOk X1∧X1.S.list.length<=X.S.list.length+2*txL (qs.take i))∧St w N [pA X1,rowsA encPi 98 4 v1 ps] wr
theorem pieces_c {X:Px} {P:PoolT} {qs:List Pz} {v:Value} (hX:PxOk X) (hr:RowIn P encR 4 v qs) (hb:∀ q∈qs,∀ x∈q.t,x<256) (hn:qs.length<=1024) (htx:txL qs<=65536) (hroom:X.S.list.length+2*txL qs<X.S.most) (w:World) (h:PH X w) (hp:((pA X).sep (poolA P)).ho w) :
  Calls Tryz.prog 16 #[.pointer (some ⟨X.p,0,none⟩),v] w (PcsPost X qs (pA X).fp w):=by
 have h:((pA X).sep deA).ho w:=h;rw [sep_ho] at h hp;have H:=St.one h.1;have HK:Ks w (pA X).fp [deA,poolA P]:=⟨fun A hA=>by
   simp at hA;rcases hA with rfl|rfl
   ·exact h.2.1
   ·exact hp.2.1,fun A hA b hbA hm=>by
   simp at hA;rcases hA with rfl|rfl
   ·exact h.2.2 b hm hbA
   ·exact hp.2.2 b hm hbA⟩
 generalize (pA X).fp=N at *;clear h hp;obtain ⟨n,hnn⟩:∃ n,qs.length=n:=⟨_,rfl⟩
 obtain ⟨ad,c,rfl,_⟩:=hr.shape;have HCL:Hid (∀ (i:Nat) (q:Pz),qs[i]?=some q->∃ g o,ad=some ⟨g,o,none⟩∧∀ w,(poolA P).ho w->w.cell? ⟨g,o+i*4,none⟩=some (.bool q.c)∧w.cell? ⟨g,o+i*4+1,none⟩=some (.int .i64 q.f)∧w.cell? ⟨g,o+i*4+2,none⟩=some (.int .i64 q.n)∧w.cell? ⟨g,o+i*4+3,none⟩=some (.string (strB q.t))):=zh fun i q hq=>by
  obtain ⟨ad',c',e1,_,h3⟩:=id hr;obtain ⟨g,o,rfl,_⟩:=h3 (by have:=gelt hq;omega);injection e1 with e1 _ _
  subst e1;exact ⟨g,o,rfl,row_cells hr hq⟩
 have HOF:Hid (∀ (X1:Px) (t:List Nat) (k g c:Nat),X.Ext X1->PxOk X1->(∀ x∈t,x<256)->t.length=k->k<=65536->X1.S.list.length+2*k<X.S.most->RowIn [(g,0,flatG encT t)] encT 1 (.slice (some ⟨g,0,none⟩) k c) t->∀ w,((pA X1).sep deA).ho w->((pA X1).sep (poolA [(g,0,flatG encT t)])).ho w->Calls Tryz.prog 22 #[.pointer (some ⟨X.p,0,none⟩),.slice (some ⟨g,0,none⟩) k c] w (IdPost X1 (t.map Tr.leaf) (2*k) (pA X1).fp w)):=zh fun X1 t k g c q1 q2 q3 q4 q5 q6 q7 w h1 h2=>by
  have:=of_any q2 q7 q3 (by omega) (by rw [q1.le.1];omega) w h1 h2;rw [q1.p,q4] at this;exact this
 rw [hnn] at hn ⊢;have HIN:Hid ((∀ q∈qs,∀ x∈q.t,x<256)∧qs.length=n∧txL qs<=65536∧X.S.list.length+2*txL qs<X.S.most∧PxOk X):=zh ⟨hb,hnn,htx,hroom,hX⟩;clear hX hr hb htx hroom hnn;go_enter Tryz.func16,Tryz.ntmps16;go_wp2_with (first|refine sL ?_|(refine sS ?_;clear H;intros;rename_i H));replace H:=H.empty (A:=rowsA encPi 98 4 (.slice none 0 0) []) (rowsA_nil _) (by rw [rowsA_fp'];rfl);go_loopg [6,7] n (fun m v1 v2 wr=>PcRel X N w qs n m v1 v2 wr);case atStart=>exact ⟨0,X,[],rfl,Nat.zero_le _,rfl,⟨rfl,trivial,.refl _,HIN.out.2.2.2.2,by omega⟩,H.picks (.cons pk (.cons pk .nil))⟩
 case round =>
  clear H;obtain ⟨i,X1,ps,rfl,hik,rfl,hrel,H⟩:=hrel;have HX1:=zh hrel;obtain ⟨ad2,c2,rfl,_⟩:=rowsA_shape (H.get (A:=rowsA encPi 98 4 _ ps) pk);by_cases hlt:i<n
  ·obtain ⟨q,hq⟩:∃ a,qs[i]?=some a:=⟨_,zg (by rw [HIN.out.2.1];exact hlt)⟩
   obtain ⟨g,o,rfl,hcell⟩:=HCL.out i q hq;have d5:decide ((i:Int)<(n:Int))=true:=(by simp;omega);have d5n:decide (i<n)=true:=(by simp;omega);obtain ⟨k,hk⟩:∃ k,q.t.length=k:=⟨_,rfl⟩
   have htk:=txL_take_succ hq;have htk2:=txL_take qs (i+1);have htq:qs.take (i+1)=qs.take i++[q]:=(by rw [List.take_add_one,hq];rfl);have HLI:Hid (k<=65536∧X1.S.list.length+2*k<X.S.most∧q.t.length=k∧(∀ x∈q.t,x<256)∧txL (qs.take (i+1))=txL (qs.take i)+k∧qs.take (i+1)=qs.take i++[q]∧i<=1024):=zh (by
    have h1:=hrel.2.2.2.2;have h2:=HIN.out;exact ⟨by omega,by omega,hk,h2.1 q (List.mem_of_getElem? hq),by omega,htq,by omega⟩)
   have hkb:=HLI.out.1;have hib:=HLI.out.2.2.2.2.2.2;obtain ⟨qc,qf,qn,qt⟩:=q;simp only at hcell hk HLI;have HC0:Hid (∀ w,(poolA P).ho w->w.cell? ⟨g,o+i*4,none⟩=some (.bool qc)):=zh fun w h=>(hcell w h).1
   have HC1:Hid (∀ w,(poolA P).ho w->w.cell? ⟨g,o+i*4+1,none⟩=some (.int .i64 qf)):=zh fun w h=>(hcell w h).2.1
   have HC2:Hid (∀ w,(poolA P).ho w->w.cell? ⟨g,o+i*4+2,none⟩=some (.int .i64 qn)):=zh fun w h=>(hcell w h).2.2.1
   have HC3:Hid (∀ w,(poolA P).ho w->w.cell? ⟨g,o+i*4+3,none⟩=some (.string (strB qt))):=zh fun w h=>(hcell w h).2.2.2
   have hil:i<n:=hlt;clear hrel hq hcell hk htk htk2 htq;go_wp2_with (first|refine sL ?_|(refine sS ?_;clear H;intros;rename_i H)|((with_reducible refine isBytes ?_);refine AtBytes.go H rfl rfl qt rfl HLI.out.2.2.2.1 HLI.out.2.2.1 (by have:=HLI.out.1;unfold maxLen;omega) ?_;clear H;intro gb cb _ hrb H;have HRB:=zh hrb;clear hrb;simp only [Act.put,puA,puB,puC]));go_at_call 22
   with_reducible refine zm (HOF.out X1 qt k gb cb HX1.out.2.2.1 HX1.out.2.2.2.1 HLI.out.2.2.2.1 HLI.out.2.2.1 HLI.out.1 HLI.out.2.1 HRB.out _ (H.sepK HK pk pk) (H.sepO pk pk)) ?_
   rintro e9 wc ⟨X2,id2,rfl,y1,y2,y3,y4,hb⟩;have HY:=zh (za y1 (za y2 (za y3 y4)));clear y1 y2 y3 y4;replace H:=zn ((H.pick pk).call hb);clear hb;go_wp2_with (first|refine sL ?_|(refine sS ?_;clear H;intros;rename_i H));refine wp_region_h H 19 [(18,98,#[.bool qc,.int .i64 qf,.int .i64 qn,.int .i64 id2],some 1)] [(18,47)] (by kernel_rfl) (by kernel_rfl) ?_;apply Exists.intro;refine ⟨fun w1 hw1 HX=>?_,fun bs wr Hr=>?_⟩
   ·refine sG ?_;repeat (first|refine sQ ?_|go_big_quiet_step (fail))
    apply wpQuiet_nil;first|refine ⟨fstep_allocT rfl rfl hw1 rfl rfl,?_⟩|refine ⟨fstep_slice1 rfl rfl rfl rfl rfl rfl rfl rfl rfl hw1,?_⟩
    simp only [Act.put,puA,puB,puC];repeat (first|refine sQ ?_|go_big_quiet_step (fail))
    exact wpQuiet_nil rfl
   clear H;have H:=Hr;clear Hr;replace H:=sH H;refine sT ?_;go_wp2_with (first|refine sL ?_|(refine sS ?_;clear H;intros;rename_i H)|((with_reducible refine isAppend ?_);refine AtAppend.go (enc:=encPi) H rfl rfl rfl rfl rfl (by decide) (by decide) rfl pk rfl (H.at pk) [⟨qc,qf,qn,id2⟩] rfl (by simp [flatG,encPi]) encPi_len encPi_one (by have h1:=HX1.out.1;have h2:=HLI.out.2.2.2.2.2.2;simp;omega) ?_;clear H;intro ad9 cp9 _ H;simp only [Act.put,puA,puB,puC]));go_roundg (n-(i+1));case measure=>omega
   case rel =>
    have h1:=HX1.out;have h2:=HLI.out;refine ⟨i+1,X2,ps++[⟨qc,qf,qn,id2⟩],rfl,by omega,rfl,⟨by simp [h1.1],?_,h1.2.2.1.trans HY.out.1,HY.out.2.1,?_⟩,H.picks (.cons pk (.cons pk .nil))⟩
    ·rw [h2.2.2.2.2.2.1];exact (h1.2.1.le h1.2.2.2.1.ok HY.out.1.le).append ⟨⟨rfl,rfl,rfl,HY.out.2.2.1⟩,trivial⟩
    ·have h3:=h1.2.2.2.2;have h4:=HY.out.2.2.2;rw [h2.2.2.2.2.1];omega
  ·have d5:decide ((i:Int)<(n:Int))=false:=(by simp;omega);have d5n:decide (i<n)=false:=(by simp;omega);have hin:i=n:=(by omega);subst hin;have HE:Hid (qs.take i=qs):=zh (List.take_of_length_le (by rw [HIN.out.2.1];exact Nat.le_refl _));clear hrel hlt;go_wp2_with (first|refine sL ?_|(refine sS ?_;clear H;intros;rename_i H));go_ret2;exact ⟨X1,_,ps,rfl,HX1.out.2.2.1,HX1.out.2.2.2.1,by have:=HX1.out.2.1;rwa [HE.out] at this,by have:=HX1.out.2.2.2.2;rwa [HE.out] at this,H.picks (.cons pk (.cons pk .nil))⟩
end
section
def jn (k q:Pz):Option Pz :=
 if k.c=true∧q.c=true∧k.f+k.n=q.f then some ⟨k.c,k.f,k.n+q.n,k.t⟩ else if k.c=false∧q.c=false then some ⟨k.c,k.f,k.n,k.t++q.t⟩ else none
def nst (out:List Pz) (q:Pz):List Pz:=match out.getLast? with
 |none=>[q]
 |some k=>match jn k q with
  |some k'=>out.dropLast++[k']
  |none=>out++[q]
def nrm (qs:List Pz):List Pz:=qs.foldl nst []
theorem nst_nil (q:Pz):nst [] q=[q]:=rfl
theorem nst_join {L:List Pz} {k q k':Pz} (h:jn k q=some k'):nst (L++[k]) q=L++[k']:=by
 unfold nst;simp [h]
theorem nst_none {L:List Pz} {k q:Pz} (h:jn k q=none):nst (L++[k]) q=L++[k]++[q]:=by
 unfold nst;simp [h]
theorem nrm_take_succ {l:List Pz} {i:Nat} {q:Pz} (h:l[i]?=some q):nrm (l.take (i+1))=nst (nrm (l.take i)) q:=by
 unfold nrm;rw [List.take_add_one,h];simp [List.foldl_append]
theorem jn_cf {k q k':Pz} (h:jn k q=some k'):k'.c=k.c∧k'.f=k.f:=by
 unfold jn at h;split at h
 ·cases h;exact ⟨rfl,rfl⟩
 ·split at h
  ·cases h;exact ⟨rfl,rfl⟩
  ·cases h
theorem jn_none_of {x k k':Pz} (hc:k'.c=k.c) (hf:k'.f=k.f) (h:jn x k=none):jn x k'=none:=by
 unfold jn at h ⊢;rw [hc,hf];split at h
 ·cases h
 ·rename_i h1;rw [if_neg h1];split at h
  ·cases h
  ·rename_i h2;rw [if_neg h2]
theorem snoc_pz (l:List Pz):l=[]∨∃ L k,l=L++[k]:=by
 rcases List.eq_nil_or_concat l with h|⟨L,k,h⟩
 ·exact .inl h
 ·exact .inr ⟨L,k,by simpa using h⟩
theorem jn_chk {s:Nat} {k q k':Pz} (h:jn k q=some k') (h1:chkP s k=0) (h2:chkP s q=0):chkP s k'=0:=by
 unfold jn at h;obtain ⟨kc,kf,kn,kt⟩:=k;obtain ⟨qc,qf,qn,qt⟩:=q;simp only at h;unfold chkP at h1 h2 ⊢;split at h
 ·rename_i hc;obtain ⟨rfl,rfl,h3⟩:=hc;cases h
  simp only [if_true] at h1 h2 ⊢;have a1:¬ (kt≠[]∨kn<1):=(by intro h;rw [if_pos h] at h1;cases h1);rw [if_neg a1] at h1;have a2:¬ (qt≠[]∨qn<1):=(by intro h;rw [if_pos h] at h2;cases h2);rw [if_neg a2] at h2;have b1:0<=kf∧kf+kn<=s:=by
   by_cases hb:0<=kf∧kf+kn<=s
   ·exact hb
   ·rw [if_neg hb] at h1;cases h1
  have b2:0<=qf∧qf+qn<=s:=by
   by_cases hb:0<=qf∧qf+qn<=s
   ·exact hb
   ·rw [if_neg hb] at h2;cases h2
  rw [if_neg (fun h=>by
   rcases h with h|h
   ·exact a1 (.inl h)
   ·have a3:¬ kn<1:=fun h=>a1 (.inr h)
    have a4:¬ qn<1:=fun h=>a2 (.inr h)
    omega),if_pos ⟨b1.1,by omega⟩]
 ·split at h
  ·rename_i hc;obtain ⟨rfl,rfl⟩:=hc;cases h
   simp only [Bool.false_eq_true,if_false] at h1 h2 ⊢;have a1:¬ (kf≠0∨kn≠0∨kt=[]):=(by intro h;rw [if_pos h] at h1;cases h1);rw [if_neg (fun h=>a1 (by
    rcases h with h|h|h
    ·exact .inl h
    ·exact .inr (.inl h)
    ·exact .inr (.inr (List.append_eq_nil_iff.1 h).1)))]
  ·cases h
theorem nst_chk {s:Nat} {out:List Pz} {q:Pz} (h:∀ x∈out,chkP s x=0) (hq:chkP s q=0):∀ x∈nst out q,chkP s x=0:=by
 rcases snoc_pz out with rfl|⟨L,k,rfl⟩
 ·intro x hx;simp [nst_nil] at hx;subst hx;exact hq
 ·have hk:=h k (by simp);cases hj:jn k q with
  |none =>
   rw [nst_none hj];intro x hx;rcases List.mem_append.1 hx with hx|hx
   ·exact h x hx
   ·simp at hx;subst hx;exact hq
  |some k' =>
   rw [nst_join hj];intro x hx;rcases List.mem_append.1 hx with hx|hx
   ·exact h x (by simp [hx])
   ·simp at hx;subst hx;exact jn_chk hj hk hq
theorem foldl_nst_chk {s:Nat} {qs:List Pz}:∀ {out:List Pz},(∀ x∈out,chkP s x=0)->(∀ q∈qs,chkP s q=0)->∀ x∈qs.foldl nst out,chkP s x=0:=by
 induction qs with
 |nil=>intro out h _;exact h
 |cons q r ih=>intro out h hq;exact ih (nst_chk h (hq q (by simp))) fun x hx=>hq x (by simp [hx])
theorem nrm_chk {s:Nat} {qs:List Pz} (h:∀ q∈qs,chkP s q=0):∀ q∈nrm qs,chkP s q=0:=foldl_nst_chk (by simp) h
theorem nst_len (out:List Pz) (q:Pz):(nst out q).length<=out.length+1:=by
 rcases snoc_pz out with rfl|⟨L,k,rfl⟩
 ·simp [nst_nil]
 ·cases hj:jn k q with
  |none=>rw [nst_none hj];simp
  |some k'=>rw [nst_join hj];simp
theorem foldl_nst_len {qs:List Pz}:∀ {out:List Pz},(qs.foldl nst out).length<=out.length+qs.length:=by
 induction qs with
 |nil=>intro out;simp
 |cons q r ih=>intro out;have h1:=ih (out:=nst out q);have h2:=nst_len out q;simp only [List.foldl_cons,List.length_cons];omega
theorem nrm_len (qs:List Pz):(nrm qs).length<=qs.length:=by have:=foldl_nst_len (qs:=qs) (out:=[]);simpa [nrm] using this
theorem txL_app (a b:List Pz):txL (a++b)=txL a+txL b:=by simp [txL]
theorem jn_tx {s:Nat} {k q k':Pz} (h:jn k q=some k') (hq:chkP s q=0):k'.t.length=k.t.length+q.t.length:=by
 unfold jn at h;split at h
 ·rename_i hc;cases h
  have:q.t=[]:=by
   unfold chkP at hq;rw [if_pos hc.2.1] at hq;by_cases ht:q.t≠[]∨q.n<1
   ·rw [if_pos ht] at hq;cases hq
   ·by_cases h9:q.t=[]
    ·exact h9
    ·exact absurd (.inl h9) ht
  simp [this]
 ·split at h
  ·cases h;simp
  ·cases h
theorem nst_tx {s:Nat} {out:List Pz} {q:Pz} (hq:chkP s q=0):txL (nst out q)=txL out+q.t.length:=by
 rcases snoc_pz out with rfl|⟨L,k,rfl⟩
 ·simp [nst_nil,txL]
 ·cases hj:jn k q with
  |none=>rw [nst_none hj,txL_app _ [q]];simp [txL]
  |some k' =>
   rw [nst_join hj,txL_app,txL_app];have:=jn_tx hj hq;simp [txL,this];omega
theorem foldl_nst_tx {s:Nat} {qs:List Pz}:∀ {out:List Pz},(∀ q∈qs,chkP s q=0)->txL (qs.foldl nst out)=txL out+txL qs:=by
 induction qs with
 |nil=>intro out _;simp [txL]
 |cons q r ih =>
  intro out h;have h1:=ih (out:=nst out q) fun x hx=>h x (by simp [hx])
  have h2:=nst_tx (out:=out) (h q (by simp));have h3:txL (q::r)=q.t.length+txL r:=(by simp [txL]);simp only [List.foldl_cons];omega
theorem nrm_tx {s:Nat} {qs:List Pz} (h:∀ q∈qs,chkP s q=0):txL (nrm qs)=txL qs:=by have:=foldl_nst_tx (out:=[]) h;simpa [nrm,txL] using this
theorem nst_lt {out:List Pz} {q:Pz} (h:∀ x∈out,∀ b∈x.t,b<256) (hq:∀ b∈q.t,b<256):∀ x∈nst out q,∀ b∈x.t,b<256:=by
 rcases snoc_pz out with rfl|⟨L,k,rfl⟩
 ·intro x hx;simp [nst_nil] at hx;subst hx;exact hq
 ·have hk:=h k (by simp);cases hj:jn k q with
  |none =>
   rw [nst_none hj];intro x hx;rcases List.mem_append.1 hx with hx|hx
   ·exact h x hx
   ·simp at hx;subst hx;exact hq
  |some k' =>
   rw [nst_join hj];intro x hx;rcases List.mem_append.1 hx with hx|hx
   ·exact h x (by simp [hx])
   ·simp at hx;subst hx;unfold jn at hj;split at hj
    ·cases hj;exact hk
    ·split at hj
     ·cases hj
      intro b hb;rcases List.mem_append.1 hb with hb|hb
      ·exact hk b hb
      ·exact hq b hb
     ·cases hj
theorem foldl_nst_lt {qs:List Pz}:∀ {out:List Pz},(∀ x∈out,∀ b∈x.t,b<256)->(∀ q∈qs,∀ b∈q.t,b<256)->∀ x∈qs.foldl nst out,∀ b∈x.t,b<256:=by
 induction qs with
 |nil=>intro out h _;exact h
 |cons q r ih=>intro out h hq;exact ih (nst_lt h (hq q (by simp))) fun x hx=>hq x (by simp [hx])
theorem nrm_lt {qs:List Pz} (h:∀ q∈qs,∀ b∈q.t,b<256):∀ q∈nrm qs,∀ b∈q.t,b<256:=foldl_nst_lt (by simp) h
end
section
def sgP (q:Pz) (a k:Nat):Pz:=if q.c then ⟨true,q.f+a,k,[]⟩ else ⟨false,0,0,(q.t.drop a).take k⟩
def lts (q:Pz) (a k:Nat):List Pz:=(List.range k).map fun i=>sgP q (a+i) 1
def prt (qs:List Pz) (f n:Nat):List Pz:=((qs.flatMap fun q=>lts q 0 (szP q)).drop f).take n
def win:List Pz->Nat->Nat->List Pz
 |[],_,_=>[]
 |q::r,f,n=>if n=0 then [] else if szP q<=f then win r (f-szP q) n else sgP q f (min n (szP q-f))::win r 0 (n-min n (szP q-f))
def cmpL (qs es:List Pz):List Pz:=es.flatMap fun e=>if e.c then prt qs e.f.toNat e.n.toNat else [e]
def cmpW (qs es:List Pz):List Pz:=es.flatMap fun e=>if e.c then win qs e.f.toNat e.n.toNat else [e]
theorem nst_assoc {out:List Pz} {b c bc:Pz} (h:jn b c=some bc):nst (nst out b) c=nst out bc:=by
 rcases snoc_pz out with rfl|⟨L,a,rfl⟩
 ·rw [nst_nil,nst_nil];exact nst_join (L:=[]) h
 ·cases hj:jn a b with
  |none =>
   have h1:=jn_cf h;rw [nst_none hj,nst_join h,nst_none (jn_none_of h1.1 h1.2 hj)]
  |some ab =>
   rw [nst_join hj];obtain ⟨ac,af,an,at_⟩:=a;obtain ⟨bc_,bf,bn,bt⟩:=b;obtain ⟨cc,cf,cn,ct⟩:=c;cases ac <;> cases bc_ <;> cases cc <;> simp only [jn,Bool.false_eq_true,if_false,if_true,true_and,false_and,and_false,and_true,reduceCtorEq,and_self] at h hj
   ·cases h;cases hj
    rw [nst_join (k':=⟨false,af,an,at_++bt++ct⟩) (by simp [jn]),nst_join (k':=⟨false,af,an,at_++(bt++ct)⟩) (by simp [jn]),List.append_assoc]
   ·split at h
    ·rename_i e1;split at hj
     ·rename_i e2;cases h;cases hj
      rw [nst_join (k':=⟨true,af,an+bn+cn,at_⟩) (by simp [jn];omega),nst_join (k':=⟨true,af,an+(bn+cn),at_⟩) (by simp [jn,e2]),Int.add_assoc]
     ·cases hj
    ·cases h
theorem jn_sg (q:Pz) (a k:Nat):jn (sgP q a k) (sgP q (a+k) 1)=some (sgP q a (k+1)):=by
 obtain ⟨c,f,n,t⟩:=q;cases c
 ·simp only [sgP,jn,Bool.false_eq_true,if_false,false_and,and_self,if_true];rw [List.take_add,List.drop_drop]
 ·simp only [sgP,jn,if_true,true_and];rw [if_pos (by simp;omega)];simp
theorem lts_succ (q:Pz) (a k:Nat):lts q a (k+1)=lts q a k++[sgP q (a+k) 1]:=by simp [lts,List.range_succ]
theorem foldl_lts (q:Pz) (a:Nat):∀ (k:Nat) (out:List Pz),(lts q a (k+1)).foldl nst out=nst out (sgP q a (k+1))
 |0,out=>by simp [lts,List.range_succ]
 |k+1,out=>by
  rw [lts_succ,List.foldl_append,foldl_lts q a k out];exact nst_assoc (jn_sg q a (k+1))
theorem lts_drop (q:Pz) (s f:Nat):(lts q 0 s).drop f=lts q f (s-f):=by
 apply List.ext_getElem?;intro i;simp only [lts,List.getElem?_drop,List.getElem?_map,List.getElem?_range'];by_cases h:f+i<s
 ·rw [List.getElem?_range h,List.getElem?_range (by omega)];simp
 ·rw [List.getElem?_eq_none (by simp;omega),List.getElem?_eq_none (by simp;omega)];rfl
theorem lts_take (q:Pz) (a s n:Nat):(lts q a s).take n=lts q a (min n s):=by
 apply List.ext_getElem?;intro i;by_cases h:i<n
 ·rw [List.getElem?_take_of_lt h];simp only [lts,List.getElem?_map];by_cases h1:i<s
  ·rw [List.getElem?_range h1,List.getElem?_range (by omega)]
  ·rw [List.getElem?_eq_none (by simp;omega),List.getElem?_eq_none (by simp;omega)]
 ·rw [List.getElem?_eq_none (by simp [lts];omega),List.getElem?_eq_none (by simp [lts];omega)]
theorem lts_len (q:Pz) (a s:Nat):(lts q a s).length=s:=by simp [lts]
theorem prt_win:∀ (qs:List Pz) (f n:Nat) (out:List Pz),(prt qs f n).foldl nst out=(win qs f n).foldl nst out
 |[],f,n,out=>by simp [prt,win]
 |q::r,f,n,out=>by
  rw [win];split
  ·rename_i h;subst h;simp [prt]
  ·split
   ·rename_i h1 h2;rw [← prt_win r (f-szP q) n out];unfold prt;rw [List.flatMap_cons,List.drop_append,List.drop_eq_nil_of_le (by rw [lts_len];exact h2),lts_len,List.nil_append]
   ·rename_i h1 h2;obtain ⟨k,hk⟩:∃ k,min n (szP q-f)=k+1:=⟨min n (szP q-f)-1,by omega⟩
    rw [List.foldl_cons,← prt_win r 0 (n-min n (szP q-f)),hk,← foldl_lts,← List.foldl_append];congr 1
    unfold prt;rw [List.flatMap_cons,List.drop_append,lts_drop,List.take_append,lts_take,lts_len,lts_len,hk,List.drop_zero,show f-szP q=0 by omega,List.drop_zero];congr 2
    omega
theorem cmp_foldl (qs:List Pz):∀ (es out:List Pz),(cmpL qs es).foldl nst out=(cmpW qs es).foldl nst out
 |[],out=>rfl
 |e::r,out=>by
  have h1:cmpL qs (e::r)=(if e.c then prt qs e.f.toNat e.n.toNat else [e])++cmpL qs r:=(by simp [cmpL]);have h2:cmpW qs (e::r)=(if e.c then win qs e.f.toNat e.n.toNat else [e])++cmpW qs r:=(by simp [cmpW]);rw [h1,h2,List.foldl_append,List.foldl_append,cmp_foldl qs r];split
  ·rw [prt_win]
  ·rfl
theorem nrm_cmp (qs es:List Pz):nrm (cmpL qs es)=nrm (cmpW qs es):=cmp_foldl qs es []
theorem sg_tx (q:Pz) (a k:Nat):(sgP q a k).t.length<=k:=by
 unfold sgP;split
 ·simp
 ·simp;omega
theorem sg_lt {q:Pz} {a k:Nat} (h:∀ b∈q.t,b<256):∀ b∈(sgP q a k).t,b<256:=by
 intro b hb;unfold sgP at hb;split at hb
 ·simp at hb
 ·exact h b (List.mem_of_mem_drop (List.mem_of_mem_take hb))
theorem sg_chk {s:Nat} {q:Pz} {a k:Nat} (h:chkP s q=0) (hk:1<=k) (ha:a+k<=szP q):chkP s (sgP q a k)=0:=by
 have h1:=chk_pos h;unfold szP at ha;unfold sgP chkP;split
 ·rename_i hc;have h2:=h1.2 hc;rw [if_pos hc] at ha;simp only [if_true];rw [if_neg (by simp;omega),if_pos (by omega)]
 ·rename_i hc;rw [if_neg hc] at ha;simp only [Bool.false_eq_true,if_false];rw [if_neg];simp;omega
theorem win_chk {s:Nat}:∀ {qs:List Pz} {f n:Nat},(∀ q∈qs,chkP s q=0)->∀ x∈win qs f n,chkP s x=0
 |[],f,n,_,x,hx=>by simp [win] at hx
 |q::r,f,n,h,x,hx=>by
  rw [win] at hx;split at hx
  ·simp at hx
  ·split at hx
   ·exact win_chk (fun y hy=>h y (by simp [hy])) x hx
   ·rcases List.mem_cons.1 hx with rfl|hx
    ·exact sg_chk (h q (by simp)) (by omega) (by omega)
    ·exact win_chk (fun y hy=>h y (by simp [hy])) x hx
theorem win_lt:∀ {qs:List Pz} {f n:Nat},(∀ q∈qs,∀ b∈q.t,b<256)->∀ x∈win qs f n,∀ b∈x.t,b<256
 |[],f,n,_,x,hx=>by simp [win] at hx
 |q::r,f,n,h,x,hx=>by
  rw [win] at hx;split at hx
  ·simp at hx
  ·split at hx
   ·exact win_lt (fun y hy=>h y (by simp [hy])) x hx
   ·rcases List.mem_cons.1 hx with rfl|hx
    ·exact sg_lt (h q (by simp))
    ·exact win_lt (fun y hy=>h y (by simp [hy])) x hx
theorem win_len:∀ (qs:List Pz) (f n:Nat),(win qs f n).length<=n∧txL (win qs f n)<=n
 |[],f,n=>by simp [win,txL]
 |q::r,f,n=>by
  rw [win];split
  ·simp [txL]
  ·split
   ·exact win_len r _ n
   ·have h1:=win_len r 0 (n-min n (szP q-f));have h2:=sg_tx q f (min n (szP q-f));unfold txL at h1 ⊢;simp only [List.length_cons,List.map_cons,List.sum_cons];omega
theorem chk_one {s:Nat} {q:Pz} (h:chkP s q=0):1<=szP q:=by
 obtain ⟨c,f,n,t⟩:=q;have h1:=chk_pos h;unfold chkP at h;unfold szP;cases c
 ·simp only [Bool.false_eq_true,if_false] at h ⊢;cases t with
  |nil=>simp at h
  |cons x t=>simp
 ·have:=h1.2 rfl;simp only [if_true] at this ⊢;omega
theorem cmp_cons (qs:List Pz) (e:Pz) (r:List Pz):cmpW qs (e::r)=(if e.c then win qs e.f.toNat e.n.toNat else [e])++cmpW qs r:=by simp [cmpW]
theorem cmp_app (qs a b:List Pz):cmpW qs (a++b)=cmpW qs a++cmpW qs b:=by simp [cmpW]
theorem cmp_take_succ {qs es:List Pz} {i:Nat} {e:Pz} (h:es[i]?=some e):cmpW qs (es.take (i+1))=cmpW qs (es.take i)++(if e.c then win qs e.f.toNat e.n.toNat else [e]):=by
 rw [List.take_add_one,h,Option.toList_some,cmp_app,cmp_cons];simp [cmpW]
theorem chk_text_any {s s':Nat} {q:Pz} (hc:q.c=false) (h:chkP s q=0):chkP s' q=0:=by
 unfold chkP at h ⊢;rw [hc] at h ⊢;exact h
theorem cmp_chk {s s':Nat} {qs:List Pz} (h:∀ q∈qs,chkP s q=0):∀ {es:List Pz},(∀ e∈es,chkP s' e=0)->∀ x∈cmpW qs es,chkP s x=0
 |[],_,x,hx=>by simp [cmpW] at hx
 |e::r,h2,x,hx=>by
  rw [cmp_cons] at hx;rcases List.mem_append.1 hx with hx|hx
  ·split at hx
   ·exact win_chk h x hx
   ·rename_i hc;simp at hx;subst hx;exact chk_text_any (by simpa using hc) (h2 x (by simp))
  ·exact cmp_chk h (fun y hy=>h2 y (by simp [hy])) x hx
theorem cmp_lt {qs:List Pz} (h:∀ q∈qs,∀ b∈q.t,b<256):∀ {es:List Pz},(∀ q∈es,∀ b∈q.t,b<256)->∀ x∈cmpW qs es,∀ b∈x.t,b<256
 |[],_,x,hx=>by simp [cmpW] at hx
 |e::r,h2,x,hx=>by
  rw [cmp_cons] at hx;rcases List.mem_append.1 hx with hx|hx
  ·split at hx
   ·exact win_lt h x hx
   ·simp at hx;subst hx;exact h2 x (by simp)
  ·exact cmp_lt h (fun y hy=>h2 y (by simp [hy])) x hx
theorem cmp_len {s:Nat} {qs:List Pz}:∀ {es:List Pz},(∀ e∈es,chkP s e=0)->(cmpW qs es).length<=szL es∧txL (cmpW qs es)<=szL es
 |[],_=>by simp [cmpW,szL,txL]
 |e::r,h=>by
  have h0:szL (e::r)=szP e+szL r:=(by simp [szL]);have h1:=cmp_len (qs:=qs) (es:=r) fun y hy=>h y (by simp [hy])
  have h2:=chk_one (h e (by simp));rw [cmp_cons,txL_app,List.length_append];split
  ·rename_i hc;have h3:=win_len qs e.f.toNat e.n.toNat;have h4:szP e=e.n.toNat:=(by simp [szP,hc]);omega
  ·rename_i hc;have h4:szP e=e.t.length:=(by simp [szP,hc]);have h5:txL [e]=e.t.length:=(by simp [txL]);simp only [List.length_cons,List.length_nil];omega
theorem prt_chk {s:Nat} {qs:List Pz} {f n:Nat} (h:∀ q∈qs,chkP s q=0):∀ x∈prt qs f n,chkP s x=0:=by
 intro x hx;have hx:=List.mem_of_mem_drop (List.mem_of_mem_take hx);obtain ⟨q,hq,hx⟩:=List.mem_flatMap.1 hx;obtain ⟨i,hi,rfl⟩:=List.mem_map.1 hx;exact sg_chk (h q hq) (by omega) (by have:=List.mem_range.1 hi;omega)
theorem tx_le_len {l:List Pz} {k:Nat} (h:∀ x∈l,x.t.length<=k):txL l<=l.length*k:=by
 induction l with
 |nil=>simp [txL]
 |cons x r ih =>
  have h1:=ih fun y hy=>h y (by simp [hy])
  have h2:=h x (by simp);unfold txL at h1 ⊢;simp only [List.map_cons,List.sum_cons,List.length_cons,Nat.add_mul,Nat.one_mul];omega
theorem prt_len (qs:List Pz) (f n:Nat):(prt qs f n).length<=n∧txL (prt qs f n)<=n:=by
 have h1:(prt qs f n).length<=n:=(by unfold prt;rw [List.length_take];omega);have h2:=tx_le_len (l:=prt qs f n) (k:=1) fun x hx=>by
  have hx:=List.mem_of_mem_drop (List.mem_of_mem_take hx);obtain ⟨q,hq,hx⟩:=List.mem_flatMap.1 hx;obtain ⟨i,hi,rfl⟩:=List.mem_map.1 hx;exact sg_tx q _ 1
 omega
theorem cmpL_cons (qs:List Pz) (e:Pz) (r:List Pz):cmpL qs (e::r)=(if e.c then prt qs e.f.toNat e.n.toNat else [e])++cmpL qs r:=by simp [cmpL]
theorem cmpL_take_succ {qs es:List Pz} {i:Nat} {e:Pz} (h:es[i]?=some e):cmpL qs (es.take (i+1))=cmpL qs (es.take i)++(if e.c then prt qs e.f.toNat e.n.toNat else [e]):=by
 rw [List.take_add_one,h];simp [cmpL]
theorem cmpL_chk {s s':Nat} {qs:List Pz} (h:∀ q∈qs,chkP s q=0):∀ {es:List Pz},(∀ e∈es,chkP s' e=0)->∀ x∈cmpL qs es,chkP s x=0
 |[],_,x,hx=>by simp [cmpL] at hx
 |e::r,h2,x,hx=>by
  rw [cmpL_cons] at hx;rcases List.mem_append.1 hx with hx|hx
  ·split at hx
   ·exact prt_chk h x hx
   ·rename_i hc;simp at hx;subst hx;exact chk_text_any (by simpa using hc) (h2 x (by simp))
  ·exact cmpL_chk h (fun y hy=>h2 y (by simp [hy])) x hx
theorem cmpL_len {s:Nat} {qs:List Pz}:∀ {es:List Pz},(∀ e∈es,chkP s e=0)->(cmpL qs es).length<=szL es∧txL (cmpL qs es)<=szL es
 |[],_=>by simp [cmpL,szL,txL]
 |e::r,h=>by
  have h0:szL (e::r)=szP e+szL r:=(by simp [szL]);have h1:=cmpL_len (qs:=qs) (es:=r) fun y hy=>h y (by simp [hy])
  have h2:=chk_one (h e (by simp));rw [cmpL_cons,txL_app,List.length_append];split
  ·rename_i hc;have h3:=prt_len qs e.f.toNat e.n.toNat;have h4:szP e=e.n.toNat:=(by simp [szP,hc]);omega
  ·rename_i hc;have h4:szP e=e.t.length:=(by simp [szP,hc]);have h5:txL [e]=e.t.length:=(by simp [txL]);simp only [List.length_cons,List.length_nil];omega
end
section
open Go.RowKit Go.Maps
attribute [local go_sem] InGr strB_size
theorem same_c {v1 v2:Value} {ps:List Pi} (hn:ps.length<=65536) (w:World) (h1:(rowsA encPi 98 4 v1 ps).ho w) (h2:(rowsA encPi 98 4 v2 ps).ho w) :
  Calls Tryz.prog 28 #[v1,v2] w fun e w'=>e=.returned (.bool true)∧St w [] [] w':=by
 have H:=St.nil w [];obtain ⟨n,hnn⟩:∃ n,ps.length=n:=⟨_,rfl⟩
 obtain ⟨ad1,c1,rfl,_⟩:=rowsA_shape h1;obtain ⟨ad2,c2,rfl,_⟩:=rowsA_shape h2;rw [hnn] at h1 h2 hn ⊢;have HRW:Hid (∀ (i:Nat) (a:Pi),ps[i]?=some a->∃ g1 g2,ad1=some ⟨g1,0,none⟩∧ad2=some ⟨g2,0,none⟩∧(∀ w,(rowsA encPi 98 4 (.slice ad1 n c1) ps).ho w->w.rangeAt g1 (i*4) [.bool a.c,.int .i64 a.f,.int .i64 a.n,.int .i64 a.id])∧∀ w,(rowsA encPi 98 4 (.slice ad2 n c2) ps).ho w->w.rangeAt g2 (i*4) [.bool a.c,.int .i64 a.f,.int .i64 a.n,.int .i64 a.id]):=zh fun i a hi=>by
  obtain ⟨g1,c8,e1,_⟩:=rowsA_cases h1 (by have:=gelt hi;omega);obtain ⟨g2,c9,e2,_⟩:=rowsA_cases h2 (by have:=gelt hi;omega);injection e1 with e1 _ _
  injection e2 with e2 _ _
  exact ⟨g1,g2,e1,e2,fun w h=>by rw [e1] at h;exact rowsA_rng h encPi_len hi,fun w h=>by rw [e2] at h;exact rowsA_rng h encPi_len hi⟩
 have HK:Ks w [] [rowsA encPi 98 4 (.slice ad1 n c1) ps,rowsA encPi 98 4 (.slice ad2 n c2) ps]:=Ks.two h1 h2;have HN:=zh hnn;clear h1 h2 hnn;go_enter Tryz.func28,Tryz.ntmps28;go_wp2_with (first|refine sL ?_|(refine sS ?_;clear H;intros;rename_i H));go_loopg [5] n (fun m v wr=>∃ i:Nat,m=n-i∧i<=n∧v=.int .i64 i∧St w [] [] wr);case atStart=>exact ⟨0,rfl,Nat.zero_le _,rfl,H.nix⟩
 case round =>
  clear H;obtain ⟨i,rfl,hik,rfl,H⟩:=hrel;by_cases hlt:i<n
  ·obtain ⟨p,hp⟩:∃ a,ps[i]?=some a:=⟨_,zg (by rw [HN.out];exact hlt)⟩
   obtain ⟨g1,g2,rfl,rfl,r1,r2⟩:=HRW.out i p hp;have d5:decide ((i:Int)<(n:Int))=true:=(by simp;omega);have d5n:decide (i<n)=true:=(by simp;omega);have R1:=zh r1;have R2:=zh r2;have hil:=hlt;obtain ⟨pc,pf,pn,pd⟩:=p;simp only at R1 R2;clear r1 r2 hp hlt;go_wp2_with (first|refine sL ?_|(refine sS ?_;clear H;intros;rename_i H));refine wp_region_h H 9 [] [] (by kernel_rfl) (by kernel_rfl) ?_;apply Exists.intro;refine ⟨fun w1 hw1 HX=>?_,fun bs wr Hr=>?_⟩
   ·refine sG ?_;repeat (first|refine sQ ?_|((with_reducible refine isQLoad ?_);first|(refine QtLoad.rngT rfl rfl rfl (fun y=>R1.out _ ((HX y).known (A:=rowsA encPi 98 4 (.slice (some ⟨g1,0,none⟩) n c1) ps) HK pk)) rfl ?_;simp only [Act.put,puA,puB,puC])|(refine QtLoad.rngT rfl rfl rfl (fun y=>R2.out _ ((HX y).known (A:=rowsA encPi 98 4 (.slice (some ⟨g2,0,none⟩) n c2) ps) HK pk)) rfl ?_;simp only [Act.put,puA,puB,puC]))|go_big_quiet_step (fail))
    exact wpQuiet_nil rfl
   clear H;have H:=Hr;clear Hr;replace H:=sH H;refine sT ?_;go_wp2_with (first|refine sL ?_|(refine sS ?_;clear H;intros;rename_i H));go_roundg (n-(i+1));case measure=>omega
   case rel=>exact ⟨i+1,rfl,by omega,rfl,H.nix⟩
  ·have d5:decide ((i:Int)<(n:Int))=false:=(by simp;omega);have d5n:decide (i<n)=false:=(by simp;omega);clear hlt;go_wp2_with (first|refine sL ?_|(refine sS ?_;clear H;intros;rename_i H));go_ret;exact ⟨rfl,H.nix⟩
end
section
open Go.RowKit Go.Maps
attribute [local go_sem] InGr strB_size
abbrev JnPost (X:Px) (qs:List Pz) (k:Nat) (M:List Nat) (w:World) (e:Ending) (w':World):Prop :=
 ∃ (X':Px) (v':Value) (ps:List Pi),e=.returned (.tuple #[v',.nilIface])∧X.Ext X'∧PxOk X'∧PiL X'.S ps qs∧X'.S.list.length<=X.S.list.length+k∧St w M [pA X',rowsA encPi 98 4 v' ps] w'
theorem chk_text {s:Nat} {f n:Int} {t:List Nat} (h:chkP s ⟨false,f,n,t⟩=0):f=0∧n=0:=by
 unfold chkP at h;simp only [Bool.false_eq_true,if_false] at h;by_cases h9:f≠0∨n≠0∨t=[]
 ·rw [if_pos h9] at h;cases h
 ·exact ⟨by by_cases h:f=0;exact h;exact absurd (.inl h) h9,by by_cases h:n=0;exact h;exact absurd (.inr (.inl h)) h9⟩
def JoRel (X:Px) (N:List Nat) (w:World) (qs:List Pz) (n T m:Nat) (v1 v:Value) (wr:World):Prop :=
 ∃ (i:Nat) (X1:Px) (out:List Pi),m=n-i∧i<=n∧v=.int .i64 i∧(PiL X1.S out (nrm (qs.take i))∧X.Ext X1∧PxOk X1∧X1.S.list.length<=X.S.list.length+i*T∧∀ q,qs[i]?=some q->nst (nrm (qs.take i)) q=nrm (qs.take i)++[q])∧St w N [pA X1,rowsA encPi 98 4 v1 out] wr
theorem normjoin_c {X:Px} {ps:List Pi} {qs:List Pz} {ad:Option Addr} {c s:Nat} (hX:PxOk X) (hps:PiL X.S ps qs) (hn:ps.length<=1024) (hall:∀ q∈qs,chkP s q=0) (hs:s<=1048576) (htx:txL qs<=1048576) (hroom:X.S.list.length+ps.length*txL qs<=X.S.most) (w:World) (h:PH X w) (hr:((pA X).sep (rowsA encPi 98 4 (.slice ad ps.length c) ps)).ho w) :
  Calls Tryz.prog 65 #[.pointer (some ⟨X.p,0,none⟩),.slice ad ps.length c] w (JnPost X (nrm qs) (ps.length*txL qs) (pA X).fp w):=by
 have h:((pA X).sep deA).ho w:=h;rw [sep_ho] at h hr;have H:=St.one h.1;have HK:Ks w (pA X).fp [deA,(rowsA encPi 98 4 (.slice ad ps.length c) ps)]:=⟨fun A hA=>by
   simp at hA;rcases hA with rfl|rfl
   ·exact h.2.1
   ·exact hr.2.1,fun A hA b hbA hm=>by
   simp at hA;rcases hA with rfl|rfl
   ·exact h.2.2 b hm hbA
   ·exact hr.2.2 b hm hbA⟩
 generalize (pA X).fp=N at *;clear h hr;obtain ⟨n,hnn⟩:∃ n,ps.length=n:=⟨_,rfl⟩
 have hsl:=hps.len;rw [hnn] at hsl hn HK ⊢;have HRW:Hid (∀ (i:Nat) (a:Pi),ps[i]?=some a->∃ g,ad=some ⟨g,0,none⟩∧∀ w,(rowsA encPi 98 4 (.slice ad n c) ps).ho w->w.rangeAt g (i*4) [.bool a.c,.int .i64 a.f,.int .i64 a.n,.int .i64 a.id]):=zh fun i a hi=>by
  obtain ⟨g,c8,e1,_⟩:=rowsA_cases (HK.ho (rowsA encPi 98 4 (.slice ad n c) ps) (by simp)) (by have:=gelt hi;omega);injection e1 with e1 _ _
  exact ⟨g,e1,fun w h=>by rw [e1] at h;exact rowsA_rng h encPi_len hi⟩
 obtain ⟨T,hT⟩:∃ m,txL qs=m:=⟨_,rfl⟩
 rw [hT] at hroom htx ⊢;rw [hnn] at hroom;have HIN:Hid (PiL X.S ps qs∧ps.length=n∧qs.length=n∧(∀ q∈qs,chkP s q=0)∧PxOk X∧s<=1048576∧txL qs=T∧T<=1048576∧X.S.list.length+n*T<=X.S.most):=zh ⟨hps,hnn,by omega,hall,hX,hs,hT,htx,hroom⟩;clear hX hps hall hs htx hroom hT hnn hsl;go_enter Tryz.func65,Tryz.ntmps65;go_wp2_with (first|refine sL ?_|(refine sS ?_;clear H;intros;rename_i H));replace H:=H.empty (A:=rowsA encPi 98 4 (.slice none 0 0) []) (rowsA_nil _) (by rw [rowsA_fp'];rfl);go_loopg [6,7] n (fun m v1 v2 wr=>JoRel X N w qs n T m v1 v2 wr);case atStart=>exact ⟨0,X,[],rfl,Nat.zero_le _,rfl,⟨trivial,.refl _,HIN.out.2.2.2.2.1,by omega,fun q _=>rfl⟩,H.picks (.cons pk (.cons pk .nil))⟩
 case round =>
  clear H;obtain ⟨i,X1,out,rfl,hik,rfl,hrel,H⟩:=hrel;have HX1:=zh hrel;obtain ⟨ad2,c2,rfl,_⟩:=rowsA_shape (H.get (A:=rowsA encPi 98 4 _ out) pk);by_cases hlt:i<n
  ·obtain ⟨p,hp⟩:∃ a,ps[i]?=some a:=⟨_,zg (by rw [HIN.out.2.1];exact hlt)⟩
   obtain ⟨q,hq,hpq⟩:=HIN.out.1.get hp;obtain ⟨g,rfl,hcell⟩:=HRW.out i p hp;have d5:decide ((i:Int)<(n:Int))=true:=(by simp;omega);have d5n:decide (i<n)=true:=(by simp;omega);have HRX:=zh hcell;have hiL:i<=1024:=(by omega);obtain ⟨i1,hi1⟩:∃ n,i+1=n:=⟨_,rfl⟩
   have HI1:=zh hi1;have hck:=HIN.out.2.2.2.1 q (List.mem_of_getElem? hq);have HNS:=zh (za hck (za (nrm_take_succ hq) (hrel.2.2.2.2 q hq)));obtain ⟨pc,pf,pn,id⟩:=p;obtain ⟨qc,qf,qn,qt⟩:=q;obtain ⟨g1,g2,g3,g4⟩:=hpq;simp only at g1 g2 g3 g4 HRX;subst g1 g2 g3;have HG4:=zh g4;clear hrel hp hq hcell hck g4 hi1;cases pc with
   |true =>
    go_wp2_with (first|refine sL ?_|(refine sS ?_;clear H;intros;rename_i H)|((with_reducible refine isLoad ?_);refine AtLoad.rngT rfl rfl rfl (HRX.out _ (H.known HK pk)) rfl ?_;simp only [Act.put,puA,puB,puC]))
    rename Nat=>b
    obtain ⟨e1,e2⟩:=chk_pos HNS.out.1;obtain ⟨e3,e4,e5⟩:=e2 rfl;simp only at e1 e3 e4 e5;obtain ⟨f,rfl⟩:∃ f:Nat,pf=f:=⟨pf.toNat,by omega⟩
    obtain ⟨m0,rfl⟩:∃ f:Nat,pn=f:=⟨pn.toNat,by omega⟩
    clear e1 e2 e3 e4 e5;have HOL:Hid (out.length<=1024):=zh (by have h1:=HX1.out.1.len;have h2:=nrm_len (qs.take i);rw [List.length_take] at h2;omega);go_loopg [7] n (fun m v wr=>∃ (j mm:Nat),m=n-(j-(i+1))∧j<=n∧v=.int .i64 j∧(i+1<=j∧nrm (qs.take j)=nrm (qs.take i)++[(⟨true,f,mm,qt⟩:Pz)])∧St w N [pA X1,rowsA encPi 98 4 (.slice ad2 out.length c2) out,blk b (.cells #[.bool true,.int .i64 f,.int .i64 mm,.int .i64 id] 98)] wr);case atStart=>exact ⟨i+1,m0,by omega,by omega,by go_num,⟨Nat.le_refl _,by rw [HNS.out.2.1,HNS.out.2.2]⟩,H.picks (.cons pk (.cons pk (.cons pk .nil)))⟩
    case round =>
     clear H;obtain ⟨j,mm,rfl,hjk,rfl,hrel,H⟩:=hrel;have HJR:=zh hrel;have hkc:chkP s ⟨true,f,mm,qt⟩=0:=nrm_chk (qs:=qs.take j) (fun q hq=>HIN.out.2.2.2.1 q (List.mem_of_mem_take hq)) _ (by rw [hrel.2];simp);obtain ⟨e1,e2⟩:=chk_pos hkc;obtain ⟨e3,e4,e5⟩:=e2 rfl;simp only at e1 e3 e4 e5;have hs9:=HIN.out.2.2.2.2.2.1;obtain ⟨z,hz⟩:∃ e,f+mm=e:=⟨_,rfl⟩
     have y1:(f:Int)+(mm:Int)=(z:Int):=(by omega);have y3:z<=1048576:=(by omega);have hjL:j<=1024:=(by omega);clear hrel hkc e1 e2 e3 e4 e5 hs9;by_cases hlj:j<n
     ·obtain ⟨p2,hp2⟩:∃ a,ps[j]?=some a:=⟨_,zg (by rw [HIN.out.2.1];exact hlj)⟩
      obtain ⟨q2,hq2,hpq2⟩:=HIN.out.1.get hp2;have d6:decide ((j:Int)<(n:Int))=true:=(by simp;omega);have d6n:decide (j<n)=true:=(by simp;omega);have hck2:=HIN.out.2.2.2.1 q2 (List.mem_of_getElem? hq2);have HN2:=zh (za hck2 (nrm_take_succ hq2));have HQ2:=zh hq2;obtain ⟨pc2,pf2,pn2,id2⟩:=p2;obtain ⟨qc2,qf2,qn2,qt2⟩:=q2;obtain ⟨g1,g2,g3,g4⟩:=hpq2;simp only at g1 g2 g3 g4;subst g1 g2 g3;have hcl:∀ w,(rowsA encPi 98 4 (.slice (some ⟨g,0,none⟩) n c) ps).ho w->w.cell? ⟨g,j*4,none⟩=some (.bool pc2)∧w.cell? ⟨g,j*4+1,none⟩=some (.int .i64 pf2)∧w.cell? ⟨g,j*4+2,none⟩=some (.int .i64 pn2):=fun w h=>⟨rowsA_cell h encPi_len hp2 (j:=0) rfl,rowsA_cell h encPi_len hp2 (j:=1) rfl,rowsA_cell h encPi_len hp2 (j:=2) rfl⟩
      have HO0:=zh fun w h=>(hcl w h).1
      have HO1:=zh fun w h=>(hcl w h).2.1
      have HO2:=zh fun w h=>(hcl w h).2.2
      clear hcl hp2 hq2 hck2 g4;cases pc2 with
      |false =>
       go_wp2_with (first|refine sL ?_|(refine sS ?_;clear H;intros;rename_i H));refine wp_region_h H 24 [] [] (by kernel_rfl) (by kernel_rfl) ?_;apply Exists.intro;refine ⟨fun w1 hw1 HX=>?_,fun bs wr Hr=>?_⟩
       ·refine sG ?_;repeat (first|go_big_quiet_skip|refine sQ ?_|go_big_quiet_step (fail))
        exact wpQuiet_nil rfl
       clear H;have H:=Hr;clear Hr;replace H:=sH H;refine sT ?_;go_wp2_with (first|refine sL ?_|(refine sS ?_;clear H;intros;rename_i H)|((with_reducible refine isSlice ?_);refine AtSlice.one H rfl rfl rfl rfl rfl rfl rfl rfl rfl ?_;clear H;intro b9 _ H;simp only [Act.put,puA,puB,puC])|((with_reducible refine isAppend ?_);refine AtAppend.go (enc:=encPi) H rfl rfl rfl rfl rfl (by decide) (by decide) rfl pk rfl (H.at pk) [(⟨true,f,mm,id⟩:Pi)] rfl (by simp [flatG,encPi]) encPi_len encPi_one (by have:=HOL.out;simp;omega) ?_;clear H;intro ad9 cp9 _ H;simp only [Act.put,puA,puB,puC]));go_roundg (n-j);case measure=>have:=HJR.out.1;omega
       case rel =>
        have h1:=HX1.out;have h5:i*T<=j*T:=Nat.mul_le_mul_right _ (by have:=HJR.out.1;omega);refine ⟨j,X1,out++[(⟨true,f,mm,id⟩:Pi)],rfl,by omega,rfl,⟨?_,h1.2.1,h1.2.2.1,by omega,?_⟩,H.picks (.cons pk (.cons pk .nil))⟩
        ·rw [HJR.out.2];exact h1.1.append ⟨⟨rfl,rfl,rfl,HG4.out.le HIN.out.2.2.2.2.1.ok h1.2.1.le⟩,trivial⟩
        ·intro q9 hq9;rw [HQ2.out] at hq9;cases hq9
         rw [HJR.out.2,nst_none (by simp [jn])]
      |true =>
       obtain ⟨e1,e2⟩:=chk_pos HN2.out.1;obtain ⟨e3,e4,e5⟩:=e2 rfl;simp only at e1 e3 e4 e5;obtain ⟨f2,rfl⟩:∃ f:Nat,pf2=f:=⟨pf2.toNat,by omega⟩
       obtain ⟨m2,rfl⟩:∃ f:Nat,pn2=f:=⟨pn2.toNat,by omega⟩
       have hs9:=HIN.out.2.2.2.2.2.1;obtain ⟨m3,hm3⟩:∃ e,mm+m2=e:=⟨_,rfl⟩
       have y2:(mm:Int)+(m2:Int)=(m3:Int):=(by omega);have y4:m3<=2097152:=(by omega);by_cases hzf:z=f2
       ·have HJ:Hid (jn ⟨true,f,mm,qt⟩ ⟨true,f2,m2,qt2⟩=some ⟨true,f,m3,qt⟩):=zh (by rw [← y2,← hzf,← y1];simp [jn]);subst hzf;have y5:((z:Int)==(z:Int))=true:=(by simp);clear e1 e2 e3 e4 e5 hs9 hz hm3;go_wp2_with (first|refine sL ?_|(refine sS ?_;clear H;intros;rename_i H));refine wp_region_h H 24 [] [] (by kernel_rfl) (by kernel_rfl) ?_;apply Exists.intro;refine ⟨fun w1 hw1 HX=>?_,fun bs wr Hr=>?_⟩
        ·refine sG ?_;repeat (first|go_big_quiet_skip|refine sQ ?_|go_big_quiet_step (fail))
         exact wpQuiet_nil rfl
        clear H;have H:=Hr;clear Hr;replace H:=sH H;refine sT ?_;go_wp2_with (first|refine sL ?_|(refine sS ?_;clear H;intros;rename_i H));refine wp_region_h H 9 [] [] (by kernel_rfl) (by kernel_rfl) ?_;apply Exists.intro;refine ⟨fun w1 hw1 HX=>?_,fun bs wr Hr=>?_⟩
        ·refine sG ?_;repeat (first|refine sQ ?_|go_big_quiet_step (fail))
         exact wpQuiet_nil rfl
        clear H;have H:=Hr;clear Hr;replace H:=sH H;refine sT ?_;go_wp2_with (first|refine sL ?_|(refine sS ?_;clear H;intros;rename_i H));go_roundg (n-(j+1-(i+1)));case measure=>have:=HJR.out.1;omega
        case rel =>
         have h1:=HJR.out;exact ⟨j+1,m3,rfl,by omega,rfl,⟨by omega,by rw [HN2.out.2,h1.2,nst_join HJ.out]⟩,H.picks (.cons pk (.cons pk (.cons pk .nil)))⟩
       ·have HJ:Hid (jn ⟨true,f,mm,qt⟩ ⟨true,f2,m2,qt2⟩=none):=zh (by
         unfold jn;rw [if_neg (fun h=>hzf (by have:=h.2.2;simp only at this;omega)),if_neg (by simp)])
        have y5:((f2:Int)==(z:Int))=false:=(by simp;omega);clear e1 e2 e3 e4 e5 hs9 hz hm3 hzf;go_wp2_with (first|refine sL ?_|(refine sS ?_;clear H;intros;rename_i H));refine wp_region_h H 24 [] [] (by kernel_rfl) (by kernel_rfl) ?_;apply Exists.intro;refine ⟨fun w1 hw1 HX=>?_,fun bs wr Hr=>?_⟩
        ·refine sG ?_;repeat (first|go_big_quiet_skip|refine sQ ?_|go_big_quiet_step (fail))
         exact wpQuiet_nil rfl
        clear H;have H:=Hr;clear Hr;replace H:=sH H;refine sT ?_;go_wp2_with (first|refine sL ?_|(refine sS ?_;clear H;intros;rename_i H)|((with_reducible refine isSlice ?_);refine AtSlice.one H rfl rfl rfl rfl rfl rfl rfl rfl rfl ?_;clear H;intro b9 _ H;simp only [Act.put,puA,puB,puC])|((with_reducible refine isAppend ?_);refine AtAppend.go (enc:=encPi) H rfl rfl rfl rfl rfl (by decide) (by decide) rfl pk rfl (H.at pk) [(⟨true,f,mm,id⟩:Pi)] rfl (by simp [flatG,encPi]) encPi_len encPi_one (by have:=HOL.out;simp;omega) ?_;clear H;intro ad9 cp9 _ H;simp only [Act.put,puA,puB,puC]));go_roundg (n-j);case measure=>have:=HJR.out.1;omega
        case rel =>
         have h1:=HX1.out;have h5:i*T<=j*T:=Nat.mul_le_mul_right _ (by have:=HJR.out.1;omega);refine ⟨j,X1,out++[(⟨true,f,mm,id⟩:Pi)],rfl,by omega,rfl,⟨?_,h1.2.1,h1.2.2.1,by omega,?_⟩,H.picks (.cons pk (.cons pk .nil))⟩
         ·rw [HJR.out.2];exact h1.1.append ⟨⟨rfl,rfl,rfl,HG4.out.le HIN.out.2.2.2.2.1.ok h1.2.1.le⟩,trivial⟩
         ·intro q9 hq9;rw [HQ2.out] at hq9;cases hq9
          rw [HJR.out.2,nst_none (HJ.out)]
     ·have d6:decide ((j:Int)<(n:Int))=false:=(by simp;omega);have d6n:decide (j<n)=false:=(by simp;omega);clear hz;go_wp2_with (first|refine sL ?_|(refine sS ?_;clear H;intros;rename_i H));refine wp_region_h H 24 [] [] (by kernel_rfl) (by kernel_rfl) ?_;apply Exists.intro;refine ⟨fun w1 hw1 HX=>?_,fun bs wr Hr=>?_⟩
      ·refine sG ?_;repeat (first|go_big_quiet_skip|refine sQ ?_|go_big_quiet_step (fail))
       exact wpQuiet_nil rfl
      clear H;have H:=Hr;clear Hr;replace H:=sH H;refine sT ?_;go_wp2_with (first|refine sL ?_|(refine sS ?_;clear H;intros;rename_i H)|((with_reducible refine isSlice ?_);refine AtSlice.one H rfl rfl rfl rfl rfl rfl rfl rfl rfl ?_;clear H;intro b9 _ H;simp only [Act.put,puA,puB,puC])|((with_reducible refine isAppend ?_);refine AtAppend.go (enc:=encPi) H rfl rfl rfl rfl rfl (by decide) (by decide) rfl pk rfl (H.at pk) [(⟨true,f,mm,id⟩:Pi)] rfl (by simp [flatG,encPi]) encPi_len encPi_one (by have:=HOL.out;simp;omega) ?_;clear H;intro ad9 cp9 _ H;simp only [Act.put,puA,puB,puC]));go_roundg (n-j);case measure=>have:=HJR.out.1;omega
      case rel =>
       have h1:=HX1.out;have h5:i*T<=j*T:=Nat.mul_le_mul_right _ (by have:=HJR.out.1;omega);refine ⟨j,X1,out++[(⟨true,f,mm,id⟩:Pi)],rfl,by omega,rfl,⟨?_,h1.2.1,h1.2.2.1,by omega,?_⟩,H.picks (.cons pk (.cons pk .nil))⟩
       ·rw [HJR.out.2];exact h1.1.append ⟨⟨rfl,rfl,rfl,HG4.out.le HIN.out.2.2.2.2.1.ok h1.2.1.le⟩,trivial⟩
       ·intro q9 hq9;exact absurd hq9 (by rw [List.getElem?_eq_none (by rw [HIN.out.2.2.1];omega)];simp)
   |false =>
    have hf0:pf=0∧pn=0:=by
     have:=HNS.out.1;unfold chkP at this;simp only [Bool.false_eq_true,if_false] at this;by_cases h9:pf≠0∨pn≠0∨qt=[]
     ·rw [if_pos h9] at this;cases this
     ·exact ⟨by by_cases h:pf=0;exact h;exact absurd (.inl h) h9,by by_cases h:pn=0;exact h;exact absurd (.inr (.inl h)) h9⟩
    obtain ⟨rfl,rfl⟩:=hf0;go_wp2_with (first|refine sL ?_|(refine sS ?_;clear H;intros;rename_i H)|((with_reducible refine isLoad ?_);refine AtLoad.rngT rfl rfl rfl (HRX.out _ (H.known HK pk)) rfl ?_;simp only [Act.put,puA,puB,puC])|((with_reducible refine isSlice ?_);rename Nat=>b;refine AtSlice.one H rfl rfl rfl rfl rfl rfl rfl rfl rfl ?_;clear H;intro b9 _ H;simp only [Act.put,puA,puB,puC]));replace H:=H.conv (A':=rowsA encI 26 1 (.slice (some ⟨b9,0,none⟩) 1 1) [id]) (by rw [rowsA_fp',blk_fp];rfl) fun hb=>rowsA_of_blk (xs:=[id]) (by rw [blk_ho] at hb;exact hb) (by simp [maxLen]) (by simp [flatG,encI]) encI_len
    have HG1:Hid (IdIs X1.S id (qt.map Tr.leaf)):=zh (HG4.out.le HIN.out.2.2.2.2.1.ok HX1.out.2.1.le);have HOL:Hid (out.length<=1024):=zh (by have h1:=HX1.out.1.len;have h2:=nrm_len (qs.take i);rw [List.length_take] at h2;omega);go_loopg [7,9] n (fun m v1 v2 wr=>∃ (j:Nat) (ids:List Nat) (ts:List (List Nat)),m=n-(j-(i+1))∧j<=n∧v1=.int .i64 j∧(i+1<=j∧ids.length=j-i∧ids.head?=some id∧IdL X1.S ids (ts.map (·.map Tr.leaf))∧nrm (qs.take j)=nrm (qs.take i)++[(⟨false,0,0,ts.flatten⟩:Pz)])∧St w N [pA X1,rowsA encPi 98 4 (.slice ad2 out.length c2) out,blk b (.cells #[.bool false,.int .i64 0,.int .i64 0,.int .i64 id] 98),rowsA encI 26 1 v2 ids] wr);case atStart=>exact ⟨i+1,[id],[qt],by omega,by omega,by go_num,⟨Nat.le_refl _,by simp,rfl,⟨HG1.out,trivial⟩,by rw [HNS.out.2.1,HNS.out.2.2];simp⟩,H.picks (.cons pk (.cons pk (.cons pk (.cons pk .nil))))⟩
    case round =>
     clear H;obtain ⟨j,ids,ts,rfl,hjk,rfl,hrel,H⟩:=hrel;have HJR:=zh hrel;obtain ⟨ad3,c3,rfl,_⟩:=rowsA_shape (H.get (A:=rowsA encI 26 1 _ ids) pk);have hjL:j<=1024:=(by omega);have HLI:Hid (ids.length<=1024):=zh (by have:=hrel.2.1;omega);clear hrel;by_cases hlj:j<n
     ·obtain ⟨p2,hp2⟩:∃ a,ps[j]?=some a:=⟨_,zg (by rw [HIN.out.2.1];exact hlj)⟩
      obtain ⟨q2,hq2,hpq2⟩:=HIN.out.1.get hp2;have d6:decide ((j:Int)<(n:Int))=true:=(by simp;omega);have d6n:decide (j<n)=true:=(by simp;omega);have hck2:=HIN.out.2.2.2.1 q2 (List.mem_of_getElem? hq2);have HN2:=zh (za hck2 (nrm_take_succ hq2));have HQ2:=zh hq2;obtain ⟨pc2,pf2,pn2,id2⟩:=p2;obtain ⟨qc2,qf2,qn2,qt2⟩:=q2;obtain ⟨g1,g2,g3,g4⟩:=hpq2;simp only at g1 g2 g3 g4;subst g1 g2 g3;have hcl:∀ w,(rowsA encPi 98 4 (.slice (some ⟨g,0,none⟩) n c) ps).ho w->w.cell? ⟨g,j*4,none⟩=some (.bool pc2)∧w.cell? ⟨g,j*4+3,none⟩=some (.int .i64 id2):=fun w h=>⟨rowsA_cell h encPi_len hp2 (j:=0) rfl,rowsA_cell h encPi_len hp2 (j:=3) rfl⟩
      have HO0:=zh fun w h=>(hcl w h).1
      have HO3:=zh fun w h=>(hcl w h).2
      have HID2:Hid (IdIs X1.S id2 (qt2.map Tr.leaf)):=zh (g4.le HIN.out.2.2.2.2.1.ok HX1.out.2.1.le);clear hcl hp2 hq2 hck2 g4;cases pc2 with
      |false =>
       obtain ⟨rfl,rfl⟩:=chk_text HN2.out.1;have HJ:Hid (jn ⟨false,0,0,ts.flatten⟩ ⟨false,0,0,qt2⟩=some ⟨false,0,0,ts.flatten++qt2⟩):=zh (by simp [jn]);go_wp2_with (first|refine sL ?_|(refine sS ?_;clear H;intros;rename_i H)|((with_reducible refine isSlice ?_);refine AtSlice.one H rfl rfl rfl rfl rfl rfl rfl rfl rfl ?_;clear H;intro b8 _ H;simp only [Act.put,puA,puB,puC])|((with_reducible refine isAppend ?_);refine AtAppend.go (enc:=encI) H rfl rfl rfl rfl rfl (by decide) (by decide) rfl pk rfl (H.at pk) [id2] rfl (by simp [flatG,encI]) encI_len encI_one (by have:=HLI.out;simp;omega) ?_;clear H;intro ad9 cp9 _ H;simp only [Act.put,puA,puB,puC]));go_roundg (n-(j+1-(i+1)));case measure=>have:=HJR.out.1;omega
       case rel =>
        have h1:=HJR.out;refine ⟨j+1,ids++[id2],ts++[qt2],rfl,by omega,rfl,⟨by omega,by rw [List.length_append];simp;omega,?_,?_,?_⟩,H.picks (.cons pk (.cons pk (.cons pk (.cons pk .nil))))⟩
        ·rw [List.head?_append,h1.2.2.1];rfl
        ·rw [List.map_append];exact h1.2.2.2.1.snoc HID2.out
        ·rw [HN2.out.2,h1.2.2.2.2,nst_join HJ.out,List.flatten_append];simp
      |true =>
       have HNJ:Hid (∀ q,qs[j]?=some q->nst (nrm (qs.take j)) q=nrm (qs.take j)++[q]):=zh fun q9 hq9=>by
        rw [HQ2.out] at hq9;cases hq9
        rw [HJR.out.2.2.2.2,nst_none (by simp [jn])]
       obtain ⟨l9,hl9⟩:∃ m,ids.length=m:=⟨_,rfl⟩
       have HSI:Hid (¬ 1<l9->IdIs X1.S id (ts.flatten.map Tr.leaf)):=zh fun h9=>by
        have h2:=HJR.out
        match ids,ts,h2.2.2.1,h2.2.2.2.1,hl9 with
        |[a],[t0],e1,e2,_=>cases e1;simpa using e2.1
        |[_],[],_,e2,_=>exact e2.elim
        |[_],_::_::_,_,e2,_=>exact e2.2.elim
        |_::_::_,_,_,_,e3=>simp at e3;omega
       have HRM:Hid ((l9=j-i)∧ts.flatten.length<=T∧X1.S.list.length+l9*ts.flatten.length<=X.S.list.length+j*T∧j*T<=n*T):=zh (by
        have h1:=HX1.out;have h2:=HJR.out;have h3:=nrm_tx (qs:=qs.take j) (s:=s) fun q hq=>HIN.out.2.2.2.1 q (List.mem_of_mem_take hq)
        rw [h2.2.2.2.2,txL_app] at h3;have h4:txL [(⟨false,0,0,ts.flatten⟩:Pz)]=ts.flatten.length:=(by simp [txL]);have h5:=txL_take qs j;have h6:=HIN.out.2.2.2.2.2.2.1;have h7:ts.flatten.length<=T:=(by omega);have h8:l9*ts.flatten.length<=(j-i)*T:=(by rw [← hl9,h2.2.1];exact Nat.mul_le_mul_left _ h7);have h10:(j-i)*T+i*T=j*T:=(by rw [← Nat.add_mul];congr 1;omega);have h11:j*T<=n*T:=Nat.mul_le_mul_right _ hjk;exact ⟨by omega,h7,by omega,h11⟩)
       have HCC:Hid (∀ w,((pA X1).sep deA).ho w->((pA X1).sep (rowsA encI 26 1 (.slice ad3 l9 c3) ids)).ho w->Calls Tryz.prog 57 #[.pointer (some ⟨X.p,0,none⟩),.slice ad3 l9 c3] w (IdPost X1 (ts.flatten.map Tr.leaf) (l9*ts.flatten.length) (pA X1).fp w)):=zh fun w h k=>by
        have h1:=HX1.out;have h2:=HJR.out;have h3:=HIN.out;have h4:=HRM.out;have e0:(ts.map (·.map Tr.leaf)).flatten=ts.flatten.map Tr.leaf:=(by rw [List.map_flatten]);have e1:totL (ts.map (·.map Tr.leaf))=ts.flatten.length:=(by unfold totL;rw [e0,List.length_map]);have:=concat_c (ad:=ad3) (c:=c3) h1.2.2.1 h2.2.2.2.1 (by omega) (by rw [e1];omega) (by rw [e1,hl9,h1.2.1.le.1];omega) w h (by rw [hl9];exact k);rwa [h1.2.1.p,hl9,e1,e0] at this
       have hl1:1<=l9:=(by have h2:=HJR.out;omega);have hl2:l9<=1024:=(by have:=HLI.out;omega);rw [hl9] at H ⊢;clear hl9;by_cases h9:1<l9
       ·have d8:decide ((1:Int)<(l9:Int))=true:=(by simp;omega);have d8n:decide (1<l9)=true:=(by simp;omega);go_wp2_with (first|refine sL ?_|(refine sS ?_;clear H;intros;rename_i H));go_at_call 57
        with_reducible refine zm (HCC.out _ (H.sepK HK pk pk) (H.sepO pk pk)) ?_
        rintro e9 wc ⟨X2,id3,rfl,y1,y2,y3,y4,hb⟩;have HZ:=zh (za y1 (za y2 (za y3 y4)));clear y1 y2 y3 y4;replace H:=zn ((H.pick pk).call hb);clear hb;go_wp2_with (first|refine sL ?_|(refine sS ?_;clear H;intros;rename_i H)|((with_reducible refine isSlice ?_);refine AtSlice.one H rfl rfl rfl rfl rfl rfl rfl rfl rfl ?_;clear H;intro b7 _ H;simp only [Act.put,puA,puB,puC])|((with_reducible refine isAppend ?_);refine AtAppend.go (enc:=encPi) H rfl rfl rfl rfl rfl (by decide) (by decide) rfl pk rfl (H.at pk) [(⟨false,0,0,id3⟩:Pi)] rfl (by simp [flatG,encPi]) encPi_len encPi_one (by have:=HOL.out;simp;omega) ?_;clear H;intro ad9 cp9 _ H;simp only [Act.put,puA,puB,puC]));go_roundg (n-j);case measure=>have:=HJR.out.1;omega
        case rel =>
         have h1:=HX1.out;have h2:=HJR.out;have h3:=HZ.out;have h4:=HRM.out;refine ⟨j,X2,out++[(⟨false,0,0,id3⟩:Pi)],rfl,by omega,rfl,⟨?_,h1.2.1.trans h3.1,h3.2.1,by omega,HNJ.out⟩,H.picks (.cons pk (.cons pk .nil))⟩;rw [h2.2.2.2.2];exact (h1.1.le h1.2.2.1.ok h3.1.le).append ⟨⟨rfl,rfl,rfl,h3.2.2.1⟩,trivial⟩
       ·have d8:decide ((1:Int)<(l9:Int))=false:=(by simp;omega);have d8n:decide (1<l9)=false:=(by simp;omega);go_wp2_with (first|refine sL ?_|(refine sS ?_;clear H;intros;rename_i H)|((with_reducible refine isSlice ?_);refine AtSlice.one H rfl rfl rfl rfl rfl rfl rfl rfl rfl ?_;clear H;intro b7 _ H;simp only [Act.put,puA,puB,puC])|((with_reducible refine isAppend ?_);refine AtAppend.go (enc:=encPi) H rfl rfl rfl rfl rfl (by decide) (by decide) rfl pk rfl (H.at pk) [(⟨false,0,0,id⟩:Pi)] rfl (by simp [flatG,encPi]) encPi_len encPi_one (by have:=HOL.out;simp;omega) ?_;clear H;intro ad9 cp9 _ H;simp only [Act.put,puA,puB,puC]));go_roundg (n-j);case measure=>have:=HJR.out.1;omega
        case rel =>
         have h1:=HX1.out;have h2:=HJR.out;have h5:i*T<=j*T:=Nat.mul_le_mul_right _ (by omega);refine ⟨j,X1,out++[(⟨false,0,0,id⟩:Pi)],rfl,by omega,rfl,⟨?_,h1.2.1,h1.2.2.1,by omega,HNJ.out⟩,H.picks (.cons pk (.cons pk .nil))⟩;rw [h2.2.2.2.2];exact h1.1.append ⟨⟨rfl,rfl,rfl,HSI.out h9⟩,trivial⟩
     ·have d6:decide ((j:Int)<(n:Int))=false:=(by simp;omega);have d6n:decide (j<n)=false:=(by simp;omega);have HNJ:Hid (∀ q,qs[j]?=some q->nst (nrm (qs.take j)) q=nrm (qs.take j)++[q]):=zh fun q9 hq9=>by
       exact absurd hq9 (by rw [List.getElem?_eq_none (by rw [HIN.out.2.2.1];omega)];simp)
      obtain ⟨l9,hl9⟩:∃ m,ids.length=m:=⟨_,rfl⟩
      have HSI:Hid (¬ 1<l9->IdIs X1.S id (ts.flatten.map Tr.leaf)):=zh fun h9=>by
       have h2:=HJR.out
       match ids,ts,h2.2.2.1,h2.2.2.2.1,hl9 with
       |[a],[t0],e1,e2,_=>cases e1;simpa using e2.1
       |[_],[],_,e2,_=>exact e2.elim
       |[_],_::_::_,_,e2,_=>exact e2.2.elim
       |_::_::_,_,_,_,e3=>simp at e3;omega
      have HRM:Hid ((l9=j-i)∧ts.flatten.length<=T∧X1.S.list.length+l9*ts.flatten.length<=X.S.list.length+j*T∧j*T<=n*T):=zh (by
       have h1:=HX1.out;have h2:=HJR.out;have h3:=nrm_tx (qs:=qs.take j) (s:=s) fun q hq=>HIN.out.2.2.2.1 q (List.mem_of_mem_take hq)
       rw [h2.2.2.2.2,txL_app] at h3;have h4:txL [(⟨false,0,0,ts.flatten⟩:Pz)]=ts.flatten.length:=(by simp [txL]);have h5:=txL_take qs j;have h6:=HIN.out.2.2.2.2.2.2.1;have h7:ts.flatten.length<=T:=(by omega);have h8:l9*ts.flatten.length<=(j-i)*T:=(by rw [← hl9,h2.2.1];exact Nat.mul_le_mul_left _ h7);have h10:(j-i)*T+i*T=j*T:=(by rw [← Nat.add_mul];congr 1;omega);have h11:j*T<=n*T:=Nat.mul_le_mul_right _ hjk;exact ⟨by omega,h7,by omega,h11⟩)
      have HCC:Hid (∀ w,((pA X1).sep deA).ho w->((pA X1).sep (rowsA encI 26 1 (.slice ad3 l9 c3) ids)).ho w->Calls Tryz.prog 57 #[.pointer (some ⟨X.p,0,none⟩),.slice ad3 l9 c3] w (IdPost X1 (ts.flatten.map Tr.leaf) (l9*ts.flatten.length) (pA X1).fp w)):=zh fun w h k=>by
       have h1:=HX1.out;have h2:=HJR.out;have h3:=HIN.out;have h4:=HRM.out;have e0:(ts.map (·.map Tr.leaf)).flatten=ts.flatten.map Tr.leaf:=(by rw [List.map_flatten]);have e1:totL (ts.map (·.map Tr.leaf))=ts.flatten.length:=(by unfold totL;rw [e0,List.length_map]);have:=concat_c (ad:=ad3) (c:=c3) h1.2.2.1 h2.2.2.2.1 (by omega) (by rw [e1];omega) (by rw [e1,hl9,h1.2.1.le.1];omega) w h (by rw [hl9];exact k);rwa [h1.2.1.p,hl9,e1,e0] at this
      have hl1:1<=l9:=(by have h2:=HJR.out;omega);have hl2:l9<=1024:=(by have:=HLI.out;omega);rw [hl9] at H ⊢;clear hl9;by_cases h9:1<l9
      ·have d8:decide ((1:Int)<(l9:Int))=true:=(by simp;omega);have d8n:decide (1<l9)=true:=(by simp;omega);go_wp2_with (first|refine sL ?_|(refine sS ?_;clear H;intros;rename_i H));go_at_call 57
       with_reducible refine zm (HCC.out _ (H.sepK HK pk pk) (H.sepO pk pk)) ?_
       rintro e9 wc ⟨X2,id3,rfl,y1,y2,y3,y4,hb⟩;have HZ:=zh (za y1 (za y2 (za y3 y4)));clear y1 y2 y3 y4;replace H:=zn ((H.pick pk).call hb);clear hb;go_wp2_with (first|refine sL ?_|(refine sS ?_;clear H;intros;rename_i H)|((with_reducible refine isSlice ?_);refine AtSlice.one H rfl rfl rfl rfl rfl rfl rfl rfl rfl ?_;clear H;intro b7 _ H;simp only [Act.put,puA,puB,puC])|((with_reducible refine isAppend ?_);refine AtAppend.go (enc:=encPi) H rfl rfl rfl rfl rfl (by decide) (by decide) rfl pk rfl (H.at pk) [(⟨false,0,0,id3⟩:Pi)] rfl (by simp [flatG,encPi]) encPi_len encPi_one (by have:=HOL.out;simp;omega) ?_;clear H;intro ad9 cp9 _ H;simp only [Act.put,puA,puB,puC]));go_roundg (n-j);case measure=>have:=HJR.out.1;omega
       case rel =>
        have h1:=HX1.out;have h2:=HJR.out;have h3:=HZ.out;have h4:=HRM.out;refine ⟨j,X2,out++[(⟨false,0,0,id3⟩:Pi)],rfl,by omega,rfl,⟨?_,h1.2.1.trans h3.1,h3.2.1,by omega,HNJ.out⟩,H.picks (.cons pk (.cons pk .nil))⟩;rw [h2.2.2.2.2];exact (h1.1.le h1.2.2.1.ok h3.1.le).append ⟨⟨rfl,rfl,rfl,h3.2.2.1⟩,trivial⟩
      ·have d8:decide ((1:Int)<(l9:Int))=false:=(by simp;omega);have d8n:decide (1<l9)=false:=(by simp;omega);go_wp2_with (first|refine sL ?_|(refine sS ?_;clear H;intros;rename_i H)|((with_reducible refine isSlice ?_);refine AtSlice.one H rfl rfl rfl rfl rfl rfl rfl rfl rfl ?_;clear H;intro b7 _ H;simp only [Act.put,puA,puB,puC])|((with_reducible refine isAppend ?_);refine AtAppend.go (enc:=encPi) H rfl rfl rfl rfl rfl (by decide) (by decide) rfl pk rfl (H.at pk) [(⟨false,0,0,id⟩:Pi)] rfl (by simp [flatG,encPi]) encPi_len encPi_one (by have:=HOL.out;simp;omega) ?_;clear H;intro ad9 cp9 _ H;simp only [Act.put,puA,puB,puC]));go_roundg (n-j);case measure=>have:=HJR.out.1;omega
       case rel =>
        have h1:=HX1.out;have h2:=HJR.out;have h5:i*T<=j*T:=Nat.mul_le_mul_right _ (by omega);refine ⟨j,X1,out++[(⟨false,0,0,id⟩:Pi)],rfl,by omega,rfl,⟨?_,h1.2.1,h1.2.2.1,by omega,HNJ.out⟩,H.picks (.cons pk (.cons pk .nil))⟩;rw [h2.2.2.2.2];exact h1.1.append ⟨⟨rfl,rfl,rfl,HSI.out h9⟩,trivial⟩
  ·have d5:decide ((i:Int)<(n:Int))=false:=(by simp;omega);have d5n:decide (i<n)=false:=(by simp;omega);have hin:i=n:=(by omega);subst hin;have HE:Hid (qs.take i=qs):=zh (List.take_of_length_le (by rw [HIN.out.2.2.1];exact Nat.le_refl _));clear hrel hlt;go_wp2_with (first|refine sL ?_|(refine sS ?_;clear H;intros;rename_i H));go_ret2;exact ⟨X1,_,out,rfl,HX1.out.2.1,HX1.out.2.2.1,by have:=HX1.out.1;rwa [HE.out] at this,HX1.out.2.2.2.1,H.picks (.cons pk (.cons pk .nil))⟩
end
section
open Go.RowKit Go.Maps
attribute [local go_sem] InGr strB_size
theorem sint_c {ns:List Nat} {g n c b5 b6 i x y:Nat} (hy:ns[i]?=some y) (hn:ns.length=n) (hn2:n<=65536) (w:World) (hk:Ks w [] [(blk b5 (.cells #[.slice (some ⟨g,0,none⟩) n c] 55)),(blk b6 (.cells #[.int .i64 (x:Nat)] 3)),(rowsA encI 3 1 (.slice (some ⟨g,0,none⟩) n c) ns)]) :
  Calls Tryz.prog 128 #[.int .i64 (i:Nat),.pointer (some ⟨b5,0,none⟩),.pointer (some ⟨b6,0,none⟩)] w fun e w'=>e=.returned (.bool (decide (x<=y)))∧St w [] [] w':=by
 have H:=St.nil w [];have HK:=hk;clear hk;have hil:i<n:=(by have:=gelt hy;omega);have HY:Hid (∀ w,(rowsA encI 3 1 (.slice (some ⟨g,0,none⟩) n c) ns).ho w->w.cell? ⟨g,i,none⟩=some (.int .i64 (y:Nat))):=zh fun w h=>by
  have:=rowsA_cell h encI_len hy (j:=0) rfl;simpa using this
 have hd:decide ((x:Int)<=(y:Int))=decide (x<=y):=(by simp);obtain ⟨bo,hbo⟩:∃ b,decide (x<=y)=b:=⟨_,rfl⟩
 rw [hbo] at hd;rw [hbo];clear hy hn;go_enter Tryz.func128,Tryz.ntmps128;go_wp2_with (first|refine sL ?_|(refine sS ?_;clear H;intros;rename_i H));refine wp_region_h H 7 [] [] (by kernel_rfl) (by kernel_rfl) ?_;apply Exists.intro;refine ⟨fun w1 hw1 HX=>?_,fun bs wr Hr=>?_⟩
 ·refine sG ?_;repeat (first|go_big_quiet_skip|refine sQ ?_|((with_reducible refine isQLoad ?_);refine QtLoad.cel rfl rfl rfl rfl (fun y=>HY.out _ ((HX y).known HK pk)) ?_;simp only [Act.put,puA,puB,puC])|go_big_quiet_step (fail))
  exact wpQuiet_nil rfl
 clear H;have H:=Hr;clear Hr;replace H:=sH H;refine sT ?_;go_wp2_with (first|refine sL ?_|(refine sS ?_;clear H;intros;rename_i H));go_ret;exact ⟨rfl,H.nix⟩
theorem Ks.three {w:World} {A B C:As} (h:Ks w [] [A,B]) (hc:C.ho w):Ks w [] [A,B,C]:=⟨fun D hD=>by simp at hD;rcases hD with rfl|rfl|rfl;exact h.ho _ (by simp);exact h.ho _ (by simp);exact hc,by simp⟩
structure First (ns:List Nat) (x k:Nat):Prop where
 le:k<=ns.length
 lt:∀ (i y:Nat),i<k->ns[i]?=some y->y<x
 ge:∀ (i y:Nat),k<=i->ns[i]?=some y->x<=y
def SeRel (w:World) (ns:List Nat) (n x m:Nat) (v1 v2:Value) (wr:World):Prop :=
 ∃ i j:Nat,m=j-i∧i<=j∧j<=n∧v1=.int .i64 i∧v2=.int .i64 j∧((∀ (k y:Nat),k<i->ns[k]?=some y->y<x)∧∀ (k y:Nat),j<=k->ns[k]?=some y->x<=y)∧St w [] [] wr
theorem search_c {ns:List Nat} {g n c b5 b6 x:Nat} (hs:∀ (i j a b:Nat),i<=j->ns[i]?=some a->ns[j]?=some b->a<=b) (hn:ns.length=n) (hn2:n<=65536) (w:World) (hk:Ks w [] [(blk b5 (.cells #[.slice (some ⟨g,0,none⟩) n c] 55)),(blk b6 (.cells #[.int .i64 (x:Nat)] 3)),(rowsA encI 3 1 (.slice (some ⟨g,0,none⟩) n c) ns)]) :
  Calls Tryz.prog 127 #[.int .i64 (n:Nat),.func (.func 128) #[] #[.pointer (some ⟨b5,0,none⟩),.pointer (some ⟨b6,0,none⟩)]] w fun e w'=>∃ k:Nat,e=.returned (.int .i64 k)∧First ns x k∧St w [] [] w':=by
 have H:=St.nil w [];have HK:=hk;clear hk;have HIN:Hid ((∀ (i j a b:Nat),i<=j->ns[i]?=some a->ns[j]?=some b->a<=b)∧ns.length=n):=zh ⟨hs,hn⟩;clear hs hn;go_enter Tryz.func127,Tryz.ntmps127;go_wp2_with (first|refine sL ?_|(refine sS ?_;clear H;intros;rename_i H));go_loopg [5,6] n (fun m v1 v2 wr=>SeRel w ns n x m v1 v2 wr);case atStart=>exact ⟨0,n,rfl,Nat.zero_le _,Nat.le_refl _,rfl,rfl,⟨fun k y h=>by omega,fun k y h hk=>by have:=gelt hk;have:=HIN.out.2;omega⟩,H⟩
 case round =>
  clear H;obtain ⟨i,j,rfl,hij,hjn,rfl,rfl,hrel,H⟩:=hrel;have HRL:=zh hrel;clear hrel;by_cases hlt:i<j
  ·have d5:decide ((i:Int)<(j:Int))=true:=(by simp;omega);have d5n:decide (i<j)=true:=(by simp;omega);go_wp2_with (first|refine sL ?_|(refine sS ?_;clear H;intros;rename_i H));obtain ⟨h,hh⟩:∃ h:Nat,((i:Int)+(j:Int))/2=(h:Int):=⟨(i+j)/2,by omega⟩
   have hih:i<=h∧h<j:=(by omega);rw [hh];clear hh;obtain ⟨y,hy⟩:∃ y,ns[h]?=some y:=⟨_,zg (by rw [HIN.out.2];omega)⟩
   have HY:=zh hy;have HSI:Hid (∀ w,Ks w [] [(blk b5 (.cells #[.slice (some ⟨g,0,none⟩) n c] 55)),(blk b6 (.cells #[.int .i64 (x:Nat)] 3)),(rowsA encI 3 1 (.slice (some ⟨g,0,none⟩) n c) ns)]->Calls Tryz.prog 128 #[.int .i64 (h:Nat),.pointer (some ⟨b5,0,none⟩),.pointer (some ⟨b6,0,none⟩)] w fun e w'=>e=.returned (.bool (decide (x<=y)))∧St w [] [] w'):=zh fun w hk=>sint_c HY.out HIN.out.2 hn2 w hk
   clear hy;with_reducible refine zm (HSI.out _ ((Ks.two (H.known HK (A:=(blk b5 (.cells #[.slice (some ⟨g,0,none⟩) n c] 55))) pk) (H.known HK (A:=(blk b6 (.cells #[.int .i64 (x:Nat)] 3))) pk)).three (H.known HK (A:=(rowsA encI 3 1 (.slice (some ⟨g,0,none⟩) n c) ns)) pk))) ?_
   rintro e9 wc ⟨rfl,hb⟩;replace H:=H.grew hb.below;clear hb;by_cases hxy:x<=y
   ·have d6:decide (x<=y)=true:=(by simpa using hxy);rw [d6];go_wp2_with (first|refine sL ?_|(refine sS ?_;clear H;intros;rename_i H));go_roundg (h-i);case measure=>omega
    case rel=>exact ⟨i,h,rfl,hih.1,by omega,rfl,rfl,⟨HRL.out.1,fun k z h1 h2=>Nat.le_trans hxy (HIN.out.1 h k y z h1 HY.out h2)⟩,H⟩
   ·have d6:decide (x<=y)=false:=(by simpa using hxy);rw [d6];go_wp2_with (first|refine sL ?_|(refine sS ?_;clear H;intros;rename_i H));go_roundg (j-(h+1));case measure=>omega
    case rel=>exact ⟨h+1,j,rfl,by omega,hjn,by go_num,rfl,⟨fun k z h1 h2=>by have:=HIN.out.1 k h z y (by omega) h2 HY.out;omega,HRL.out.2⟩,H⟩
  ·have d5:decide ((i:Int)<(j:Int))=false:=(by simp;omega);have d5n:decide (i<j)=false:=(by simp;omega);have hji:j=i:=(by omega);subst hji;go_wp2_with (first|refine sL ?_|(refine sS ?_;clear H;intros;rename_i H));go_ret;exact ⟨j,rfl,⟨by rw [HIN.out.2];exact hjn,HRL.out.1,HRL.out.2⟩,H⟩
theorem searchInts_c {ns:List Nat} {g n c x:Nat} (hs:∀ (i j a b:Nat),i<=j->ns[i]?=some a->ns[j]?=some b->a<=b) (hn:ns.length=n) (hn2:n<=65536) (w:World) (h:(rowsA encI 3 1 (.slice (some ⟨g,0,none⟩) n c) ns).ho w) :
  Calls Tryz.prog 100 #[.slice (some ⟨g,0,none⟩) n c,.int .i64 (x:Nat)] w fun e w'=>∃ k:Nat,e=.returned (.int .i64 k)∧First ns x k∧St w [] [] w':=by
 have H:=St.nil w [];have HK:=Ks.one h;have HSC:Hid (∀ b5 b6 w,Ks w [] [(blk b5 (.cells #[.slice (some ⟨g,0,none⟩) n c] 55)),(blk b6 (.cells #[.int .i64 (x:Nat)] 3)),(rowsA encI 3 1 (.slice (some ⟨g,0,none⟩) n c) ns)]->Calls Tryz.prog 127 #[.int .i64 (n:Nat),.func (.func 128) #[] #[.pointer (some ⟨b5,0,none⟩),.pointer (some ⟨b6,0,none⟩)]] w fun e w'=>∃ k:Nat,e=.returned (.int .i64 k)∧First ns x k∧St w [] [] w'):=zh fun b5 b6 w hk=>search_c hs hn hn2 w hk
 have hmf:∀ (fn:Fn) (first cap:Array Value) (w:World),(Instr.makeFunc fn first cap).run Tryz.prog w=.ok (.func fn first cap) w:=fun _ _ _ _=>rfl
 clear hs hn h;go_enter Tryz.func100,Tryz.ntmps100;go_wp2_with (first|refine sL ?_|(refine sS ?_;clear H;intros;rename_i H));with_reducible refine zm (HSC.out _ _ _ ((Ks.two (H.get (A:=blk _ (.cells #[.slice (some ⟨g,0,none⟩) n c] 55)) pk) (H.get (A:=blk _ (.cells #[.int .i64 (x:Nat)] 3)) pk)).three (H.known HK (A:=(rowsA encI 3 1 (.slice (some ⟨g,0,none⟩) n c) ns)) pk))) ?_
 rintro e9 wc ⟨k,rfl,hf,hb⟩;replace H:=H.grew hb.below;clear hb;go_wp2_with (first|refine sL ?_|(refine sS ?_;clear H;intros;rename_i H));go_ret;exact ⟨k,rfl,hf,H.nix⟩
end
end Go.Proofs.YtgnppnokkdghcaaGreatDoor
