/-
  Part 2 of the texts behind the statements of this seat: walks and laws Fd, Fe, Ff, Fg, Fh, Fi, Fj, Fm, Fu, Fv. Conditions: as each states.
-/
import Derived.Test.YtgnppnokkdghcaaGreatDoorAn1
import Derived.Laws.Concat
import Derived.Laws.IdiomStrings
set_option linter.unusedSimpArgs false
set_option linter.unusedVariables false
set_option maxRecDepth 100000
set_option maxHeartbeats 80000000
namespace Go.Proofs.YtgnppnokkdghcaaGreatDoor
section
open Go.RowKit Go.Maps
attribute [local go_sem] InGr
theorem chk_pos {size:Nat} {q:Pz} (h:chkP size q=0):0≤q.n∧(q.c=true→1≤q.n∧0≤q.f∧q.f+q.n≤size):=by
 unfold chkP at h
 split at h
 ·split at h
  ·omega
  ·split at h
   ·rename_i h1 h2 h3
    exact ⟨by omega,fun _=>⟨by omega,by omega,by omega⟩⟩
   ·omega
 ·split at h
  ·omega
  ·rename_i h1 h2
   exact ⟨by omega,fun h=>absurd h h1⟩
theorem szL_take_succ {l:List Pz} {i:Nat} {q:Pz} (h:l[i]?=some q):szL (l.take (i+1))=szL (l.take i)+szP q:=by
 unfold szL
 rw [List.take_add_one,h]
 simp
theorem szL_take (l:List Pz) (i:Nat):szL (l.take i)≤szL l:=by
 unfold szL
 have h:l.take i++l.drop i=l:=List.take_append_drop i l
 have h2:=congrArg (fun l:List Pz=>(l.map szP).sum) h
 simp only [List.map_append,List.sum_append] at h2
 omega
def CkRel1 (X:Px) (N:List Nat) (w:World) (qs:List Pz) (size n m:Nat) (v:Value) (wr:World):Prop :=
 ∃ (i:Nat) (X1:Px),m=n-i∧i≤n∧v=.int .i64 i∧(X.Ext X1∧PxOk X1∧X1.S=X.S∧∀ j q,j<i→qs[j]?=some q→chkP size q=0)∧St w N [pA X1] wr
def CkRel2 (X:Px) (N:List Nat) (w:World) (qs:List Pz) (n m:Nat) (v1 v:Value) (wr:World):Prop :=
 ∃ (i sm:Nat),m=n-i∧i≤n∧v1=.int .i64 sm∧v=.int .i64 i∧sm=szL (qs.take i)∧St w N [pA X] wr
theorem check_d {X:Px} {b:Nat} {s:List Tr} {ps:List Pi} {qs:List Pz} {ad:Option Addr} {c:Nat} (hX:PxOk X) (hd:IdIs X.S b s) (hps:PiL X.S ps qs) (hn:ps.length≤65536) (hs:s.length≤1048576) (htot:chkL s.length qs=0→szL qs≤1048576) (w:World) (h:PH X w) (hr:((pA X).sep (rowsA encPi 98 4 (.slice ad ps.length c) ps)).ho w) :
  Calls Tryz.prog 21 #[.pointer (some ⟨X.p,0,none⟩),.int .i64 b,.slice ad ps.length c] w (PPost X (erN (chkL s.length qs)) (pA X).fp w):=by
 have h:((pA X).sep deA).ho w:=h
 rw [sep_ho] at h hr
 have H:=St.one h.1
 have HK:Ks w (pA X).fp [deA,(rowsA encPi 98 4 (.slice ad ps.length c) ps)]:=⟨fun A hA=>by
   simp at hA
   rcases hA with rfl|rfl
   ·exact h.2.1
   ·exact hr.2.1,fun A hA b hbA hm=>by
   simp at hA
   rcases hA with rfl|rfl
   ·exact h.2.2 b hm hbA
   ·exact hr.2.2 b hm hbA⟩
 generalize (pA X).fp=N at *
 clear h hr
 obtain ⟨n,hnn⟩:∃ n,ps.length=n:=⟨_,rfl⟩
 have hsl:=hps.len
 rw [hnn] at hsl hn HK ⊢
 have HRW:Hid (∀ (i:Nat) (a:Pi),ps[i]?=some a→∃ g,ad=some ⟨g,0,none⟩∧∀ w,(rowsA encPi 98 4 (.slice ad n c) ps).ho w→w.rangeAt g (i*4) [.bool a.c,.int .i64 a.f,.int .i64 a.n,.int .i64 a.id]):=Lib.hid fun i a hi=>by
  obtain ⟨g,c8,e1,_⟩:=rowsA_cases (HK.ho (rowsA encPi 98 4 (.slice ad n c) ps) (by simp)) (by have:=gelt hi;omega)
  injection e1 with e1 _ _
  exact ⟨g,e1,fun w h=>by rw [e1] at h;exact rowsA_rng h encPi_len hi⟩
 obtain ⟨size,hsz⟩:∃ n,s.length=n:=⟨_,rfl⟩
 rw [hsz] at hs htot ⊢
 have HBS:Hid (∀ w,((pA X).sep deA).ho w→Calls Tryz.prog 59 #[.pointer (some ⟨X.p,0,none⟩),.int .i64 b] w fun e w'=>∃ X':Px,e=.returned (.tuple #[.int .i64 (size:Nat),.nilIface])∧X.Ext X'∧PxOk X'∧X'.S=X.S∧St w (pA X).fp [pA X'] w'):=Lib.hid fun w h=>by
  refine (baseSize_c hX hd w h).mono ?_
  rintro e w' ⟨X',y1,y2,y3,rfl,y5⟩
  exact ⟨X',by rw [hsz],y1,y2,y3,y5⟩
 have HCP:Hid (∀ (X1:Px) (p:Pi) (q:Pz) (k:Nat),X.Ext X1→PxOk X1→X1.S=X.S→PiOk X.S p q→chkP size q=k→∀ w,((pA X1).sep deA).ho w→Calls Tryz.prog 60 #[.pointer (some ⟨X.p,0,none⟩),.int .i64 (size:Nat),.agg #[.bool p.c,.int .i64 p.f,.int .i64 p.n,.int .i64 p.id]] w fun e w'=>∃ X':Px,e=.returned (erN k)∧X1.Ext X'∧PxOk X'∧X'.S=X1.S∧St w (pA X1).fp [pA X'] w'):=Lib.hid fun X1 p q k q1 q2 q3 q4 q5 w h=>by
  have:=checkPiece_c (size:=size) q2 (by rw [q3];exact q4) hs w h
  rw [q1.p,q5] at this
  refine this.mono ?_
  rintro e w' ⟨X',y1,y2,y3,rfl,y5⟩
  exact ⟨X',rfl,y1,y2,y3,y5⟩
 have HPS:Hid (∀ (X1:Px) (p:Pi) (q:Pz) (k:Nat),X.Ext X1→PxOk X1→X1.S=X.S→PiOk X.S p q→0≤q.n→szP q=k→∀ w,(pA X1).ho w→Calls Tryz.prog 58 #[.pointer (some ⟨X.p,0,none⟩),.agg #[.bool p.c,.int .i64 p.f,.int .i64 p.n,.int .i64 p.id]] w fun e w'=>e=.returned (.tuple #[.int .i64 (k:Nat),.nilIface])∧St w [] [] w'):=Lib.hid fun X1 p q k q1 q2 q3 q4 q5 q6 w h=>by
  have:=pieceSize_c q2 (by rw [q3];exact q4) q5 w h
  rwa [q1.p,q6] at this
 have HAD:Hid (∀ (a b s:Nat),a+b=s→s≤1048576→∀ w,Calls Tryz.prog 61 #[.int .i64 (a:Nat),.int .i64 (b:Nat)] w fun e w'=>e=.returned (.tuple #[.int .i64 (s:Nat),.nilIface])∧w'=w):=Lib.hid fun a b s e hs w=>by rw [← e];exact add_ok_e a b w (show a+b≤1152921504606846976 by omega)
 have HIN:Hid (PiL X.S ps qs∧ps.length=n∧qs.length=n∧(chkL size qs=0→szL qs≤1048576)∧PxOk X):=Lib.hid ⟨hps,hnn,by omega,htot,hX⟩
 clear hX hd hps htot hnn hsl hsz
 go_enter Tryz.func21,Tryz.ntmps21
 go_wp2_with (first|refine sL ?_|(refine sS ?_;clear H;intros;rename_i H)|(go_at_call 59;with_reducible refine Calls.mono (HBS.out _ (H.sepK (A:=pA X) HK pk pk)) ?_;rintro e9 wc ⟨X0,rfl,y1,y2,y3,hb⟩;have HX0:=Lib.hid (And.intro y1 (And.intro y2 y3));clear y1 y2 y3;replace H:=(H.pick (A:=pA X) pk).call hb;clear hb;simp only [List.cons_append,List.nil_append] at H))
 go_loopg [28] n (fun m v1 wr=>CkRel1 X N w qs size n m v1 wr)
 case atStart=>exact ⟨0,X0,rfl,Nat.zero_le _,rfl,⟨HX0.out.1,HX0.out.2.1,HX0.out.2.2,fun j q hj=>absurd hj (Nat.not_lt_zero _)⟩,H.picks (.cons (A:=pA X0) pk .nil)⟩
 case round =>
  clear H
  obtain ⟨i,X1,rfl,hik,rfl,hrel,H⟩:=hrel
  have HX1:=Lib.hid hrel
  by_cases hlt:i<n
  ·obtain ⟨p,hp⟩:∃ a,ps[i]?=some a:=⟨_,List.getElem?_eq_getElem (by rw [HIN.out.2.1];exact hlt)⟩
   obtain ⟨q,hq,hpq⟩:=HIN.out.1.get hp
   obtain ⟨g,rfl,hcell⟩:=HRW.out i p hp
   have d5:decide ((i:Int)<(n:Int))=true:=by simp;omega
   have d5n:decide (i<n)=true:=by simp;omega
   have HRX:=Lib.hid hcell
   obtain ⟨k,hk⟩:∃ k,chkP size q=k:=⟨_,rfl⟩
   have HCX:=Lib.hid (HCP.out X1 p q k HX1.out.1 HX1.out.2.1 HX1.out.2.2.1 hpq hk)
   have HKQ:Hid (qs[i]?=some q∧chkP size q=k):=Lib.hid ⟨hq,hk⟩
   obtain ⟨pc,pf,pn,id⟩:=p
   simp only at HRX HCX
   clear hrel hp hq hpq hcell hk
   unfold erN at HCX
   by_cases hk0:k=0
   ·rw [if_pos hk0] at HCX
    subst hk0
    go_wp2_with (first|refine sL ?_|(refine sS ?_;clear H;intros;rename_i H)|(go_at_call 60;with_reducible refine Calls.mono (HCX.out _ (H.sepK (A:=pA X1) HK pk pk)) ?_;rintro e9 wc ⟨X2,rfl,y1,y2,y3,hb⟩;have HZ:=Lib.hid (And.intro y1 (And.intro y2 y3));clear y1 y2 y3;replace H:=(H.pick (A:=pA X1) pk).call hb;clear hb;simp only [List.cons_append,List.nil_append] at H)|((with_reducible refine isLoad ?_);refine AtLoad.rngT rfl rfl rfl (HRX.out _ (H.known HK (A:=rowsA encPi 98 4 (.slice (some ⟨g,0,none⟩) n c) ps) pk)) rfl ?_;simp only [Act.put,puA,puB,puC]))
    go_roundg (n-(i+1))
    case measure=>omega
    case rel =>
     refine ⟨i+1,X2,rfl,by omega,rfl,⟨HX1.out.1.trans HZ.out.1,HZ.out.2.1,HZ.out.2.2.trans HX1.out.2.2.1,fun j q' hj hq'=>?_⟩,H.picks (.cons (A:=pA X2) pk .nil)⟩
     rcases Nat.lt_or_ge j i with h9|h9
     ·exact HX1.out.2.2.2 j q' h9 hq'
     ·obtain rfl:j=i:=by omega
      rw [HKQ.out.1] at hq'
      injection hq' with hq'
      rw [← hq'];exact HKQ.out.2
   ·rw [if_neg hk0] at HCX
    have HFI:Hid (chkL size qs=k):=Lib.hid (by
     rw [← HKQ.out.2]
     exact chkL_first HX1.out.2.2.2 HKQ.out.1 (by rw [HKQ.out.2];exact hk0))
    have HER:Hid (erN (chkL size qs)=.iface 73 (.int .i64 (k:Nat))):=Lib.hid (by rw [HFI.out];simp [erN,hk0])
    rw [HER.out]
    clear hk0
    go_wp2_with (first|refine sL ?_|(refine sS ?_;clear H;intros;rename_i H)|(go_at_call 60;with_reducible refine Calls.mono (HCX.out _ (H.sepK (A:=pA X1) HK pk pk)) ?_;rintro e9 wc ⟨X2,rfl,y1,y2,y3,hb⟩;have HZ:=Lib.hid (And.intro y1 (And.intro y2 y3));clear y1 y2 y3;replace H:=(H.pick (A:=pA X1) pk).call hb;clear hb;simp only [List.cons_append,List.nil_append] at H)|((with_reducible refine isLoad ?_);refine AtLoad.rngT rfl rfl rfl (HRX.out _ (H.known HK (A:=rowsA encPi 98 4 (.slice (some ⟨g,0,none⟩) n c) ps) pk)) rfl ?_;simp only [Act.put,puA,puB,puC]))
    go_ret
    exact ⟨X2,HX1.out.1.trans HZ.out.1,HZ.out.2.1,HZ.out.2.2.trans HX1.out.2.2.1,rfl,H.picks (.cons (A:=pA X2) pk .nil)⟩
  ·have d5:decide ((i:Int)<(n:Int))=false:=by simp;omega
   have d5n:decide (i<n)=false:=by simp;omega
   have hall:∀ q∈qs,chkP size q=0:=fun q hq=>by
    obtain ⟨j,hj,e⟩:=List.getElem_of_mem hq
    exact HX1.out.2.2.2 j q (by have:=HIN.out.2.2.1;omega) (by rw [List.getElem?_eq_getElem hj,e])
   have hz:=chkL_zero.2 hall
   have HALL:Hid ((∀ q∈qs,chkP size q=0)∧szL qs≤1048576):=Lib.hid ⟨hall,HIN.out.2.2.2.1 hz⟩
   have HE0:Hid (erN (chkL size qs)=.nilIface):=Lib.hid (by rw [hz];rfl)
   clear hrel hall hz
   go_wp2_with (first|refine sL ?_|(refine sS ?_;clear H;intros;rename_i H))
   go_loopg [12,42] n (fun m v1 v2 wr=>CkRel2 X1 N w qs n m v1 v2 wr)
   case atStart=>exact ⟨0,0,rfl,Nat.zero_le _,rfl,rfl,by simp [szL],H.picks (.cons (A:=pA X1) pk .nil)⟩
   case round =>
    clear H d5 d5n hlt hik
    obtain ⟨i,sm,rfl,hik,rfl,rfl,hsm,H⟩:=hrel
    by_cases hlt:i<n
    ·obtain ⟨p,hp⟩:∃ a,ps[i]?=some a:=⟨_,List.getElem?_eq_getElem (by rw [HIN.out.2.1];exact hlt)⟩
     obtain ⟨q,hq,hpq⟩:=HIN.out.1.get hp
     obtain ⟨g,rfl,hcell⟩:=HRW.out i p hp
     have d5:decide ((i:Int)<(n:Int))=true:=by simp;omega
     have d5n:decide (i<n)=true:=by simp;omega
     have HRX:=Lib.hid hcell
     obtain ⟨k,hk⟩:∃ k,szP q=k:=⟨_,rfl⟩
     have HCX:=Lib.hid (HPS.out X1 p q k HX1.out.1 HX1.out.2.1 HX1.out.2.2.1 hpq (chk_pos (HALL.out.1 q (List.mem_of_getElem? hq))).1 hk)
     obtain ⟨sm2,hsm2⟩:∃ n,sm+k=n:=⟨_,rfl⟩
     have HS2:Hid (sm+k=sm2∧sm2≤1048576∧sm2=szL (qs.take (i+1))):=Lib.hid (by
      have h1:=szL_take_succ hq
      have h2:=szL_take qs (i+1)
      have h3:=HALL.out.2
      omega)
     obtain ⟨pc,pf,pn,id⟩:=p
     simp only at HRX HCX
     clear hp hq hpq hcell hk hsm2 hsm
     go_wp2_with (first|refine sL ?_|(refine sS ?_;clear H;intros;rename_i H)|(go_at_call 58;with_reducible refine Calls.mono (HCX.out _ (H.get (A:=pA X1) pk)) ?_;rintro e9 wc ⟨rfl,hb⟩;replace H:=H.grew hb.below;clear hb)|(go_at_call 61;with_reducible refine same (HAD.out sm k sm2 HS2.out.1 HS2.out.2.1 _) ?_)|((with_reducible refine isLoad ?_);refine AtLoad.rngT rfl rfl rfl (HRX.out _ (H.known HK (A:=rowsA encPi 98 4 (.slice (some ⟨g,0,none⟩) n c) ps) pk)) rfl ?_;simp only [Act.put,puA,puB,puC]))
     go_roundg (n-(i+1))
     case measure=>omega
     case rel=>exact ⟨i+1,sm2,rfl,by omega,rfl,rfl,HS2.out.2.2,H.picks (.cons (A:=pA X1) pk .nil)⟩
    ·have d5:decide ((i:Int)<(n:Int))=false:=by simp;omega
     have d5n:decide (i<n)=false:=by simp;omega
     clear hsm
     go_wp2_with (first|refine sL ?_|(refine sS ?_;clear H;intros;rename_i H))
     go_ret
     exact ⟨X1,HX1.out.1,HX1.out.2.1,HX1.out.2.2.1,by rw [HE0.out];rfl,H.picks (.cons (A:=pA X1) pk .nil)⟩
def apP (base:List Nat) (q:Pz):List Nat:=if q.c then (base.drop q.f.toNat).take q.n.toNat else q.t
def apL (base:List Nat) (qs:List Pz):List Nat:=qs.flatMap (apP base)
theorem apP_len {base:List Nat} {q:Pz} (h:chkP base.length q=0):(apP base q).length=szP q:=by
 have:=chk_pos h
 unfold apP szP
 split
 ·rename_i hc
  have:=this.2 hc
  simp
  omega
 ·rfl
theorem apL_len {base:List Nat}:∀ {qs:List Pz},(∀ q∈qs,chkP base.length q=0)→(apL base qs).length=szL qs
 |[],_=>rfl
 |q::r,h=>by
  have h1:=apL_len (base:=base) (qs:=r) fun x hx=>h x (by simp [hx])
  have h2:=apP_len (h q (by simp))
  unfold apL szL at h1 ⊢
  simp [h1,h2]
def apS (base:List Nat) (qs:List Pz):List (List Tr):=qs.map fun q=>(apP base q).map Tr.leaf
theorem apS_flat (base:List Nat):∀ qs:List Pz,(apS base qs).flatten=(apL base qs).map Tr.leaf
 |[]=>rfl
 |q::r=>by
  have:=apS_flat base r
  unfold apS apL at this ⊢
  simp [this]
def ApRel (X:Px) (N:List Nat) (w:World) (base:List Nat) (qs:List Pz) (n m:Nat) (v1 v:Value) (wr:World):Prop :=
 ∃ (i:Nat) (X1:Px) (ids:List Nat),m=n-i∧i≤n∧v=.int .i64 i∧(ids.length=i∧IdL X1.S ids (apS base (qs.take i))∧X.Ext X1∧PxOk X1∧X1.S.list.length≤X.S.list.length+i*(2*base.length))∧St w N [pA X1,rowsA encI 26 1 v1 ids] wr
end
section
open Go.RowKit Go.Maps
attribute [local go_sem] InGr
theorem apply_c {X:Px} {b:Nat} {base:List Nat} {ps:List Pi} {qs:List Pz} {ad:Option Addr} {c:Nat} (hX:PxOk X) (hd:IdIs X.S b (base.map Tr.leaf)) (hps:PiL X.S ps qs) (hn:ps.length≤1024) (hs:base.length≤1048576) (hz:chkL base.length qs=0) (htot:szL qs≤1048576) (hroom:X.S.list.length+ps.length*(2*base.length)+ps.length*szL qs≤X.S.most) (w:World) (h:PH X w) (hr:((pA X).sep (rowsA encPi 98 4 (.slice ad ps.length c) ps)).ho w) :
  Calls Tryz.prog 18 #[.pointer (some ⟨X.p,0,none⟩),.int .i64 b,.slice ad ps.length c] w (IdPost X ((apL base qs).map Tr.leaf) (ps.length*(2*base.length)+ps.length*szL qs) (pA X).fp w):=by
 have h:((pA X).sep deA).ho w:=h
 rw [sep_ho] at h hr
 have H:=St.one h.1
 have HK:Ks w (pA X).fp [deA,(rowsA encPi 98 4 (.slice ad ps.length c) ps)]:=⟨fun A hA=>by
   simp at hA
   rcases hA with rfl|rfl
   ·exact h.2.1
   ·exact hr.2.1,fun A hA b hbA hm=>by
   simp at hA
   rcases hA with rfl|rfl
   ·exact h.2.2 b hm hbA
   ·exact hr.2.2 b hm hbA⟩
 generalize (pA X).fp=N at *
 clear h hr
 obtain ⟨n,hnn⟩:∃ n,ps.length=n:=⟨_,rfl⟩
 have hsl:=hps.len
 rw [hnn] at hsl hn HK ⊢
 have HCK:Hid (∀ w,((pA X).sep deA).ho w→((pA X).sep (rowsA encPi 98 4 (.slice ad n c) ps)).ho w→Calls Tryz.prog 21 #[.pointer (some ⟨X.p,0,none⟩),.int .i64 b,.slice ad n c] w (PPost X .nilIface (pA X).fp w)):=Lib.hid fun w h h2=>by
  rw [← hnn] at h2 hn ⊢
  have:=check_d hX hd hps (by omega) (by simp;exact hs) (fun _=>htot) w h h2
  rw [List.length_map,hz] at this
  simpa [erN] using this
 have HRW:Hid (∀ (i:Nat) (a:Pi),ps[i]?=some a→∃ g,ad=some ⟨g,0,none⟩∧∀ w,(rowsA encPi 98 4 (.slice ad n c) ps).ho w→w.rangeAt g (i*4) [.bool a.c,.int .i64 a.f,.int .i64 a.n,.int .i64 a.id]):=Lib.hid fun i a hi=>by
  obtain ⟨g,c8,e1,_⟩:=rowsA_cases (HK.ho (rowsA encPi 98 4 (.slice ad n c) ps) (by simp)) (by have:=gelt hi;omega)
  injection e1 with e1 _ _
  exact ⟨g,e1,fun w h=>by rw [e1] at h;exact rowsA_rng h encPi_len hi⟩
 have hall:=chkL_zero.1 hz
 obtain ⟨bl,hbl⟩:∃ n,base.length=n:=⟨_,rfl⟩
 obtain ⟨tot,htt⟩:∃ n,szL qs=n:=⟨_,rfl⟩
 rw [hnn,hbl,htt] at hroom
 rw [hbl,htt]
 rw [hbl] at hs
 rw [htt] at htot
 have HSE:Hid (∀ (X2:Px) (f m:Nat),X.Ext X2→PxOk X2→f+m≤bl→X2.S.list.length+2*bl≤X.S.most→∀ w,((pA X2).sep deA).ho w→Calls Tryz.prog 56 #[.pointer (some ⟨X.p,0,none⟩),.int .i64 b,.int .i64 (f:Nat),.int .i64 (m:Nat)] w (IdPost X2 (((base.drop f).take m).map Tr.leaf) (2*bl) (pA X2).fp w)):=Lib.hid fun X2 f m q1 q2 q3 q4 w h=>by
  have hm:X2.S.most=X.S.most:=q1.le.1
  have:=Section_ok q2 (hd.le hX.ok q1.le) (from_:=f) (n:=m) (by simp;omega) (by simp;omega) (by rw [hm];simp;omega) w h
  rw [q1.p,List.length_map,hbl,← List.map_drop,← List.map_take] at this
  exact this
 have HCC:Hid (∀ (X2:Px) (ids:List Nat) (ad2:Option Addr) (c2:Nat),X.Ext X2→PxOk X2→ids.length=n→IdL X2.S ids (apS base qs)→X2.S.list.length+n*tot≤X.S.most→∀ w,((pA X2).sep deA).ho w→((pA X2).sep (rowsA encI 26 1 (.slice ad2 n c2) ids)).ho w→Calls Tryz.prog 57 #[.pointer (some ⟨X.p,0,none⟩),.slice ad2 n c2] w (IdPost X2 ((apL base qs).map Tr.leaf) (n*tot) (pA X2).fp w)):=Lib.hid fun X2 ids ad2 c2 q1 q2 q3 q4 q5 w h h2=>by
  have hm:X2.S.most=X.S.most:=q1.le.1
  have htl:totL (apS base qs)=tot:=by
   unfold totL
   rw [apS_flat,List.length_map,apL_len hall,htt]
  have:=concat_c (ad:=ad2) (c:=c2) q2 q4 (by omega) (by rw [htl];omega) (by rw [htl,q3,hm];exact q5) w h (by rw [q3];exact h2)
  rw [q1.p,q3,htl,apS_flat] at this
  exact this
 have HIN:Hid (PiL X.S ps qs∧ps.length=n∧qs.length=n∧(∀ q∈qs,chkP base.length q=0)∧PxOk X∧base.length=bl∧X.S.list.length+n*(2*bl)+n*tot≤X.S.most):=Lib.hid ⟨hps,hnn,by omega,hall,hX,hbl,hroom⟩
 clear hX hd hps hz htot hnn hsl hall hbl htt hroom
 go_enter Tryz.func18,Tryz.ntmps18
 go_wp2_with (first|refine sL ?_|(refine sS ?_;clear H;intros;rename_i H)|(go_at_call 21;with_reducible refine Calls.mono (HCK.out _ (H.sepK (A:=pA X) HK pk pk) (H.sepK (A:=pA X) (B:=rowsA encPi 98 4 (.slice ad n c) ps) HK pk pk)) ?_;rintro e9 wc ⟨X0,y1,y2,y3,rfl,hb⟩;have HX0:=Lib.hid (And.intro y1 (And.intro y2 y3));clear y1 y2 y3;replace H:=(H.pick (A:=pA X) pk).call hb;clear hb;simp only [List.cons_append,List.nil_append] at H))
 replace H:=H.empty (A:=rowsA encI 26 1 (.slice none 0 0) []) (rowsA_nil _) (by rw [rowsA_fp'];rfl)
 go_loopg [9,23] n (fun m v1 v2 wr=>ApRel X N w base qs n m v1 v2 wr)
 case atStart=>exact ⟨0,X0,[],rfl,Nat.zero_le _,rfl,⟨rfl,trivial,HX0.out.1,HX0.out.2.1,by rw [HX0.out.2.2];omega⟩,H.picks (.cons (A:=pA X0) pk (.cons (A:=rowsA encI 26 1 (.slice none 0 0) []) pk .nil))⟩
 case round =>
  clear H
  obtain ⟨i,X1,ids,rfl,hik,rfl,hrel,H⟩:=hrel
  have HX1:=Lib.hid hrel
  obtain ⟨ad2,c2,rfl,_⟩:=rowsA_shape (H.get (A:=rowsA encI 26 1 _ ids) pk)
  by_cases hlt:i<n
  ·obtain ⟨p,hp⟩:∃ a,ps[i]?=some a:=⟨_,List.getElem?_eq_getElem (by rw [HIN.out.2.1];exact hlt)⟩
   obtain ⟨q,hq,hpq⟩:=HIN.out.1.get hp
   obtain ⟨g,rfl,hcell⟩:=HRW.out i p hp
   have hck:=HIN.out.2.2.2.1 q (List.mem_of_getElem? hq)
   have d5:decide ((i:Int)<(n:Int))=true:=by simp;omega
   have d5n:decide (i<n)=true:=by simp;omega
   have HRX:=Lib.hid hcell
   have hlim:X1.S.list.length+2*bl≤X.S.most∧i≤65536:=by
    have h1:=hrel.2.2.2.2
    have h2:=HIN.out.2.2.2.2.2.2
    have h3:(i+1)*(2*bl)≤n*(2*bl):=Nat.mul_le_mul_right _ (by omega)
    rw [HIN.out.2.2.2.2.2.1] at h1
    rw [Nat.add_mul,Nat.one_mul] at h3
    exact ⟨by omega,by omega⟩
   have HLI:=Lib.hid hlim
   have hiL:=hlim.2
   have htk:apS base (qs.take (i+1))=apS base (qs.take i)++[(apP base q).map Tr.leaf]:=by
    unfold apS
    rw [List.take_add_one,hq]
    simp
   have HTK:=Lib.hid htk
   obtain ⟨i1,hi1⟩:∃ n,i+1=n:=⟨_,rfl⟩
   have HI1:=Lib.hid hi1
   obtain ⟨pc,pf,pn,id⟩:=p
   obtain ⟨qc,qf,qn,qt⟩:=q
   obtain ⟨g1,g2,g3,g4⟩:=hpq
   simp only at g1 g2 g3 g4 HRX
   subst g1 g2 g3
   cases pc with
   |true =>
    obtain ⟨e1,e2⟩:=chk_pos hck
    obtain ⟨e3,e4,e5⟩:=e2 rfl
    simp only at e1 e3 e4 e5
    rw [HIN.out.2.2.2.2.2.1] at e5
    obtain ⟨f,rfl⟩:∃ f:Nat,pf=f:=⟨pf.toNat,by omega⟩
    obtain ⟨m,rfl⟩:∃ f:Nat,pn=f:=⟨pn.toNat,by omega⟩
    have HFM:Hid (f+m≤bl∧apP base ⟨true,(f:Int),(m:Int),qt⟩=(base.drop f).take m):=Lib.hid ⟨by omega,by simp [apP]⟩
    clear hrel hp hq hcell hck hlim htk hi1 e1 e2 e3 e4 e5 g4
    go_wp2_with (first|refine sL ?_|(refine sS ?_;clear H;intros;rename_i H)|(go_at_call 56;with_reducible refine Calls.mono (HSE.out X1 f m HX1.out.2.2.1 HX1.out.2.2.2.1 HFM.out.1 HLI.out.1 _ (H.sepK (A:=pA X1) HK pk pk)) ?_;rintro e9 wc ⟨X2,id2,rfl,y1,y2,y3,y4,hb⟩;have HZ:=Lib.hid (And.intro y1 (And.intro y2 (And.intro y3 y4)));clear y1 y2 y3 y4;replace H:=(H.pick (A:=pA X1) pk).call hb;clear hb;simp only [List.cons_append,List.nil_append] at H)|((with_reducible refine isLoad ?_);refine AtLoad.rngT rfl rfl rfl (HRX.out _ (H.known HK (A:=rowsA encPi 98 4 (.slice (some ⟨g,0,none⟩) n c) ps) pk)) rfl ?_;simp only [Act.put,puA,puB,puC])|((with_reducible refine isSlice ?_);refine AtSlice.one H rfl rfl rfl rfl rfl rfl rfl rfl rfl ?_;clear H;intro b _ H;simp only [Act.put,puA,puB,puC])|((with_reducible refine isAppend ?_);refine AtAppend.go (enc:=encI) H rfl rfl rfl rfl rfl (by decide) (by decide) rfl pk rfl (H.at pk) [id2] rfl (by simp [flatG,encI]) encI_len encI_one (by have h1:=HX1.out.1;simp;omega) ?_;clear H;intro ad9 cp9 _ H;simp only [Act.put,puA,puB,puC]))
    go_roundg (n-(i+1))
    case measure=>omega
    case rel =>
     have h1:=HX1.out
     have h2:=HIN.out.2.2.2.2.2.1
     have h3:=HI1.out
     refine ⟨i1,X2,ids++[id2],by rw [h3],by omega,by rw [← h3];go_num,⟨by simp [h1.1,h3],?_,h1.2.2.1.trans HZ.out.1,HZ.out.2.1,?_⟩,H.picks (.cons (A:=pA X2) pk (.cons (A:=rowsA encI 26 1 _ (ids++[id2])) pk .nil))⟩
     ·rw [← h3,HTK.out,HFM.out.2]
      exact (h1.2.1.le h1.2.2.2.1.ok HZ.out.1.le).snoc HZ.out.2.2.1
     ·have h4:=HZ.out.2.2.2
      have h5:=h1.2.2.2.2
      rw [← h3,Nat.add_mul,Nat.one_mul,h2]
      rw [h2] at h5
      omega
   |false =>
    have HID:Hid (IdIs X1.S id ((apP base ⟨false,pf,pn,qt⟩).map Tr.leaf)):=Lib.hid (by
     simp only [apP]
     exact g4.le HIN.out.2.2.2.2.1.ok hrel.2.2.1.le)
    clear hrel hp hq hcell hck hlim htk hi1 g4
    go_wp2_with (first|refine sL ?_|(refine sS ?_;clear H;intros;rename_i H)|((with_reducible refine isLoad ?_);refine AtLoad.rngT rfl rfl rfl (HRX.out _ (H.known HK (A:=rowsA encPi 98 4 (.slice (some ⟨g,0,none⟩) n c) ps) pk)) rfl ?_;simp only [Act.put,puA,puB,puC])|((with_reducible refine isSlice ?_);refine AtSlice.one H rfl rfl rfl rfl rfl rfl rfl rfl rfl ?_;clear H;intro b _ H;simp only [Act.put,puA,puB,puC])|((with_reducible refine isAppend ?_);refine AtAppend.go (enc:=encI) H rfl rfl rfl rfl rfl (by decide) (by decide) rfl pk rfl (H.at pk) [id] rfl (by simp [flatG,encI]) encI_len encI_one (by have h1:=HX1.out.1;simp;omega) ?_;clear H;intro ad9 cp9 _ H;simp only [Act.put,puA,puB,puC]))
    go_roundg (n-(i+1))
    case measure=>omega
    case rel =>
     have h1:=HX1.out
     have h3:=HI1.out
     refine ⟨i1,X1,ids++[id],by rw [h3],by omega,by rw [← h3];go_num,⟨by simp [h1.1,h3],?_,h1.2.2.1,h1.2.2.2.1,?_⟩,H.picks (.cons (A:=pA X1) pk (.cons (A:=rowsA encI 26 1 _ (ids++[id])) pk .nil))⟩
     ·rw [← h3,HTK.out]
      exact h1.2.1.snoc HID.out
     ·have h5:=h1.2.2.2.2
      rw [← h3,Nat.add_mul,Nat.one_mul]
      omega
  ·have d5:decide ((i:Int)<(n:Int))=false:=by simp;omega
   have d5n:decide (i<n)=false:=by simp;omega
   have hin:i=n:=by omega
   subst hin
   have HCX:=Lib.hid (HCC.out X1 ids ad2 c2 hrel.2.2.1 hrel.2.2.2.1 hrel.1 (by
    have:=hrel.2.1
    rwa [List.take_of_length_le (by rw [HIN.out.2.2.1];exact Nat.le_refl _)] at this) (by
    have h1:=hrel.2.2.2.2
    have h2:=HIN.out.2.2.2.2.2.2
    rw [HIN.out.2.2.2.2.2.1] at h1
    omega))
   rw [hrel.1] at H ⊢
   clear hrel hlt
   go_wp2_with (first|refine sL ?_|(refine sS ?_;clear H;intros;rename_i H)|(go_at_call 57;with_reducible refine Calls.mono (HCX.out _ (H.sepK (A:=pA X1) HK pk pk) (H.sepO (A:=pA X1) (B:=rowsA encI 26 1 (.slice ad2 i c2) ids) pk pk)) ?_;rintro e9 wc ⟨X2,id2,rfl,y1,y2,y3,y4,hb⟩;have HZ:=Lib.hid (And.intro y1 (And.intro y2 (And.intro y3 y4)));clear y1 y2 y3 y4;replace H:=(H.pick (A:=pA X1) pk).call hb;clear hb;simp only [List.cons_append,List.nil_append] at H))
   go_ret2
   refine ⟨X2,id2,rfl,HX1.out.2.2.1.trans HZ.out.1,HZ.out.2.1,HZ.out.2.2.1,?_,H.picks (.cons (A:=pA X2) pk .nil)⟩
   have h4:=HZ.out.2.2.2
   have h5:=HX1.out.2.2.2.2
   rw [HIN.out.2.2.2.2.2.1] at h5
   omega
end
section
open Go.RowKit Go.Maps
attribute [local go_sem] InGr
def strB (l:List Nat):ByteArray:=⟨(l.map UInt8.ofNat).toArray⟩
theorem strB_append (a b:List Nat):strB a++strB b=strB (a++b):=by
 apply ByteArray.ext
 simp [strB,ByteArray.data_append]
theorem strB_size (l:List Nat):(strB l).size=l.length:=by simp [strB,ByteArray.size]
theorem strB_cells {l:List Nat} (hl:∀ x∈l,x<256) (cap:Nat):∀ (j:Nat) (u:Value),(flatG encT l)[j]?=some u→(bytesRow (strB l) cap)[j]?=some u:=by
 intro j u hj
 have hf:flatG encT l=l.map fun x=>(.int .u8 (x:Nat):Value):=by
  unfold flatG encT
  clear hj hl
  induction l with
  |nil=>rfl
  |cons x l ih=>rw [List.flatMap_cons,List.map_cons,ih];rfl
 rw [hf,List.getElem?_map] at hj
 cases hx:l[j]? with
 |none=>rw [hx] at hj;simp at hj
 |some x =>
  rw [hx] at hj
  simp at hj
  subst hj
  have hjl:=gelt hx
  have hx2:x<256:=hl x (List.mem_of_getElem? hx)
  unfold bytesRow
  rw [Array.getElem?_append_left (by simp [strB];exact hjl)]
  simp only [strB,Array.getElem?_map,List.getElem?_toArray,List.getElem?_map,hx,Option.map_some]
  simp [UInt8.toNat_ofNat',Nat.mod_eq_of_lt hx2]
section
variable {ops:Array Oper} {Q:Exit→Act→World→Prop} {rest:List Oper} {a:Act} {w w0:World} {M:List Nat} {L R:List As} {o1:Oper} {dst:Option Tmp} {ty0:TypeId} {pos:String} {aft:Array Edge} {gd:Option (Nat×Bool)}
def AtBytes (P:Program) (ops:Array Oper) (Q:Exit→Act→World→Prop) (o:Oper) (_ _:TypeId) (_:Operand) (rest:List Oper) (a:Act) (w:World):Prop:=wpList P ops Q (o::rest) a w
theorem isBytes {P:Program} {x:Operand} (h:AtBytes P ops Q ⟨dst,.convert 9 42 x,ty0,pos,aft,gd⟩ 9 42 x rest a w):wpList P ops Q (⟨dst,.convert 9 42 x,ty0,pos,aft,gd⟩::rest) a w:=h
theorem St.ofBytes {w0 w:World} {M:List Nat} {L:List As} {l:List Nat} {cap:Nat} {fr:Nat×Nat} (H:St w0 M L w) (hl:∀ x∈l,x<256):St w0 M (poolA [(w.heap.size,0,flatG encT l)]::L) (w.drew.alloc (.cells (bytesRow (strB l) cap) 5 fr)):=by
 have h1:St w0 M L w.drew:=⟨H.os,H.tape,H.output,H.size,H.keep,fun A hA=>A.loc w _ (fun _ _=>rfl) (H.ho A hA),H.own,H.dis⟩
 have h2:=h1.alloc (.cells (bytesRow (strB l) cap) 5 fr)
 refine h2.conv (by rw [poolA_fp,blk_fp];rfl) fun hb=>?_
 rw [blk_ho] at hb
 rw [poolA_ho]
 intro x hx
 simp only [List.mem_cons,List.not_mem_nil,or_false] at hx
 subst hx
 refine ⟨lt_of_block hb,fun j u hj=>?_⟩
 show (w.drew.alloc (.cells (bytesRow (strB l) cap) 5 fr)).cell? ⟨w.drew.heap.size,0+j,none⟩=some u
 rw [cell_of_row _ _ (0+j) _ _ fr hb,Nat.zero_add]
 exact strB_cells hl cap j u hj
theorem AtBytes.go {x:Operand} (H:St w0 M L w) (hw:Region.wanted o1 (yielded ops a.tmps)=true) (ho:o1.op=.convert 9 42 x) (l:List Nat) (hx:evalO a x=some (.string (strB l))) (hl:∀ x∈l,x<256) {n:Nat} (hn:l.length=n) (hm:n≤maxLen)
  (h:∀ g c w',RowIn [(g,0,flatG encT l)] encT 1 (.slice (some ⟨g,0,none⟩) n c) l→St w0 M (poolA [(g,0,flatG encT l)]::L) w'→wpList Tryz.prog ops Q rest (a.put o1.dst (.slice (some ⟨g,0,none⟩) n c)) w'):AtBytes Tryz.prog ops Q o1 9 42 x rest a w :=
 wpList_step fun _ hK=>by
  rw [if_pos hw]
  subst hn
  have hr:=run_bytes_of_string (P:=Tryz.prog) w 9 42 5 (strB l) (by kernel_rfl) (by kernel_rfl) (by kernel_rfl)
  rw [strB_size] at hr
  unfold Oper.wp execOp
  simp only [ho,evalO_eq hx,Sem.run_bind,hr,Result.andThen_ok,Sem.run_pure]
  exact hK _ _ (h _ _ _ ⟨_,_,rfl,hm,fun _=>⟨w.heap.size,0,rfl,by simp⟩⟩ (H.ofBytes hl))
end
attribute [irreducible] strB
attribute [local go_sem] strB_size
abbrev ParsePost (text:List Nat) (w:World) (e:Ending) (w':World):Prop :=
 ∃ (X:Px) (id:Nat),e=.returned (.tuple #[.pointer (some ⟨X.p,0,none⟩),.int .i64 id,.bool true])∧PxOk X∧X.S.most=1048576∧IdIs X.S id (text.map Tr.leaf)∧X.S.list.length≤2*text.length∧St w [] [pA X] w'
theorem parse_c {text:List Nat} (hb:∀ x∈text,x<256) (hlen:text.length≤1000) (w:World) (hde:deA.ho w) :
    Calls Tryz.prog 15 #[.string (strB text)] w (ParsePost text w):=by
  have H:=St.nil w []
  have HK:Ks w [] [deA]:=Ks.one hde
  clear hde
  have HNW:Hid (∀ w,Calls Tryz.prog 55 #[.int .i64 1048576] w fun e w'=>∃ p m,e=.returned (.pointer (some ⟨p,0,none⟩))∧St w [] [stoA p (.slice none 0 0) m ⟨1048576,[]⟩] w'):=Lib.hid fun w=>new_c 1048576 (Nat.le_refl _) 1048576 rfl w
  have HSN:Hid (∀ ps pm w,(stoA ps (.slice none 0 0) pm ⟨1048576,[]⟩).ho w→Calls Tryz.prog 54 #[.pointer (some ⟨ps,0,none⟩)] w fun e w'=>∃ X:Px,X.s=ps∧X.S=⟨1048576,[]⟩∧PxOk X∧e=.returned (.pointer (some ⟨X.p,0,none⟩))∧St w (stoA ps (.slice none 0 0) pm ⟨1048576,[]⟩).fp [pA X] w'):=Lib.hid fun ps pm w h=>snew_c sto_nil_ok w h
  obtain ⟨n,hn⟩:∃ n,text.length=n:=⟨_,rfl⟩
  have hsz:(strB text).size=n:=by rw [strB_size];exact hn
  have HOF:Hid (∀ (X:Px) (g c:Nat),PxOk X→X.S=⟨1048576,[]⟩→RowIn [(g,0,flatG encT text)] encT 1 (.slice (some ⟨g,0,none⟩) n c) text→∀ w,((pA X).sep deA).ho w→((pA X).sep (poolA [(g,0,flatG encT text)])).ho w→Calls Tryz.prog 22 #[.pointer (some ⟨X.p,0,none⟩),.slice (some ⟨g,0,none⟩) n c] w (IdPost X (text.map Tr.leaf) (2*n) (pA X).fp w)):=Lib.hid fun X g c q1 q2 q3 w h1 h2=>by
    have:=of_any q1 q3 hb (by omega) (by rw [q2];simp;omega) w h1 h2
    rw [hn] at this
    exact this
  have HB:Hid ((∀ x∈text,x<256)∧text.length=n∧n≤1000):=Lib.hid ⟨hb,hn,by omega⟩
  have HZ0:Hid (∀ (S:Sto) (id:Nat),IdIs S id (text.map Tr.leaf)→(id=0↔n=0)):=Lib.hid fun S id h=>by
    rw [idIs_zero h,← hn]
    exact ⟨fun h=>by rw [h];rfl,List.eq_nil_of_length_eq_zero⟩
  unfold ParsePost
  rw [hn]
  clear hb hlen hn
  go_enter Tryz.func15,Tryz.ntmps15
  go_wp2_with (first|refine sL ?_|(refine sS ?_;clear H;intros;rename_i H)|(go_at_call 55;with_reducible refine Calls.mono (HNW.out _) ?_;rintro e9 wc ⟨ps,pm,rfl,hb⟩;replace H:=H.call0 hb;clear hb;simp only [List.cons_append,List.nil_append] at H)|(go_at_call 54;with_reducible refine Calls.mono (HSN.out _ _ _ (H.get (A:=stoA ps (.slice none 0 0) pm ⟨1048576,[]⟩) pk)) ?_;rintro e9 wc ⟨X,hxs,hxS,hxo,rfl,hb⟩;have HXN:=Lib.hid (And.intro hxS hxo);clear hxs hxS hxo;replace H:=(H.pick (A:=stoA ps (.slice none 0 0) pm ⟨1048576,[]⟩) pk).call hb;clear hb;simp only [List.cons_append,List.nil_append] at H)|((with_reducible refine isBytes ?_);refine AtBytes.go H rfl rfl text rfl HB.out.1 HB.out.2.1 (by have:=HB.out.2.2;unfold maxLen;omega) ?_;clear H;intro gb cb _ hrb H;have HRB:=Lib.hid hrb;clear hrb;simp only [Act.put,puA,puB,puC]))
  go_at_call 22
  with_reducible refine Calls.mono (HOF.out X gb cb HXN.out.2 HXN.out.1 HRB.out _ (H.sepK (A:=pA X) HK pk pk) (H.sepO (A:=pA X) (B:=poolA [(gb,0,flatG encT text)]) pk pk)) ?_
  rintro e9 wc ⟨X2,id2,rfl,y1,y2,y3,y4,hb⟩
  have hz:=HZ0.out _ _ y3
  have HY:=Lib.hid (And.intro y1 (And.intro y2 (And.intro y3 y4)))
  clear y1 y2 y3 y4
  replace H:=(H.pick (A:=pA X) pk).call hb
  clear hb
  simp only [List.cons_append,List.nil_append] at H
  rcases Nat.eq_zero_or_pos n with h0|h0
  case' inl =>
    have d1:decide ((0:Int)<(id2:Int))=false:=by have:=hz.2 h0;simp;omega
    have d1n:decide (0<id2)=false:=by have:=hz.2 h0;simp;omega
    have d2:decide ((0:Int)<(n:Int))=false:=by simp;omega
    have d2n:decide (0<n)=false:=by simp;omega
  case' inr =>
    have d1 : decide ((0 : Int) < (id2 : Int)) = true := by have : id2 ≠ 0 := fun h => by have := hz.1 h; omega
                                                            simp;omega
    have d1n : decide (0 < id2) = true := by have : id2 ≠ 0 := fun h => by have := hz.1 h; omega
                                             simp;omega
    have d2:decide ((0:Int)<(n:Int))=true:=by simp;omega
    have d2n:decide (0<n)=true:=by simp;omega
  all_goals
    clear hz h0
    go_wp2_with (first|refine sL ?_|(refine sS ?_;clear H;intros;rename_i H))
    go_ret3
    exact ⟨X2,id2,by rw [HY.out.1.p];rfl,HY.out.2.1,by rw [HY.out.1.le.1,HXN.out.1],HY.out.2.2.1,by have:=HY.out.2.2.2;rw [HXN.out.1] at this;simpa using this,H.picks (.cons (A:=pA X2) pk .nil)⟩
end
section
open Go.RowKit Go.Maps
attribute [local go_sem] InGr strB_size
def encR (q:Pz):List Value:=[.bool q.c,.int .i64 q.f,.int .i64 q.n,.string (strB q.t)]
theorem encR_len (q:Pz):(encR q).length=4:=rfl
def txL (l:List Pz):Nat:=(l.map fun q=>q.t.length).sum
theorem txL_take_succ {l:List Pz} {i:Nat} {q:Pz} (h:l[i]?=some q):txL (l.take (i+1))=txL (l.take i)+q.t.length:=by
 unfold txL
 rw [List.take_add_one,h]
 simp
theorem txL_take (l:List Pz) (i:Nat):txL (l.take i)≤txL l:=by
 unfold txL
 have h:l.take i++l.drop i=l:=List.take_append_drop i l
 have h2:=congrArg (fun l:List Pz=>(l.map fun q=>q.t.length).sum) h
 simp only [List.map_append,List.sum_append] at h2
 omega
theorem row_cells {P:PoolT} {qs:List Pz} {g o n c i:Nat} {q:Pz} (hr:RowIn P encR 4 (.slice (some ⟨g,o,none⟩) n c) qs) (hq:qs[i]?=some q):∀ w,(poolA P).ho w→w.cell? ⟨g,o+i*4,none⟩=some (.bool q.c)∧w.cell? ⟨g,o+i*4+1,none⟩=some (.int .i64 q.f)∧w.cell? ⟨g,o+i*4+2,none⟩=some (.int .i64 q.n)∧w.cell? ⟨g,o+i*4+3,none⟩=some (.string (strB q.t)):=fun w h=>by
 have h1:=hr.rng h encR_len hq
 exact ⟨h1 0 _ rfl,h1 1 _ rfl,h1 2 _ rfl,h1 3 _ rfl⟩
abbrev PcsPost (X:Px) (qs:List Pz) (M:List Nat) (w:World) (e:Ending) (w':World):Prop :=
 ∃ (X':Px) (v':Value) (ps:List Pi),e=.returned (.tuple #[v',.bool true])∧X.Ext X'∧PxOk X'∧PiL X'.S ps qs∧X'.S.list.length≤X.S.list.length+2*txL qs∧St w M [pA X',rowsA encPi 98 4 v' ps] w'
def PcRel (X:Px) (N:List Nat) (w:World) (qs:List Pz) (n m:Nat) (v1 v:Value) (wr:World):Prop :=
 ∃ (i:Nat) (X1:Px) (ps:List Pi),m=n-i∧i≤n∧v=.int .i64 i∧(ps.length=i∧PiL X1.S ps (qs.take i)∧X.Ext X1∧PxOk X1∧X1.S.list.length≤X.S.list.length+2*txL (qs.take i))∧St w N [pA X1,rowsA encPi 98 4 v1 ps] wr
theorem pieces_c {X:Px} {P:PoolT} {qs:List Pz} {v:Value} (hX:PxOk X) (hr:RowIn P encR 4 v qs) (hb:∀ q∈qs,∀ x∈q.t,x<256) (hn:qs.length≤1024) (htx:txL qs≤65536) (hroom:X.S.list.length+2*txL qs<X.S.most) (w:World) (h:PH X w) (hp:((pA X).sep (poolA P)).ho w) :
  Calls Tryz.prog 16 #[.pointer (some ⟨X.p,0,none⟩),v] w (PcsPost X qs (pA X).fp w):=by
 have h:((pA X).sep deA).ho w:=h
 rw [sep_ho] at h hp
 have H:=St.one h.1
 have HK:Ks w (pA X).fp [deA,poolA P]:=⟨fun A hA=>by
   simp at hA
   rcases hA with rfl|rfl
   ·exact h.2.1
   ·exact hp.2.1,fun A hA b hbA hm=>by
   simp at hA
   rcases hA with rfl|rfl
   ·exact h.2.2 b hm hbA
   ·exact hp.2.2 b hm hbA⟩
 generalize (pA X).fp=N at *
 clear h hp
 obtain ⟨n,hnn⟩:∃ n,qs.length=n:=⟨_,rfl⟩
 obtain ⟨ad,c,rfl,_⟩:=hr.shape
 have HCL:Hid (∀ (i:Nat) (q:Pz),qs[i]?=some q→∃ g o,ad=some ⟨g,o,none⟩∧∀ w,(poolA P).ho w→w.cell? ⟨g,o+i*4,none⟩=some (.bool q.c)∧w.cell? ⟨g,o+i*4+1,none⟩=some (.int .i64 q.f)∧w.cell? ⟨g,o+i*4+2,none⟩=some (.int .i64 q.n)∧w.cell? ⟨g,o+i*4+3,none⟩=some (.string (strB q.t))):=Lib.hid fun i q hq=>by
  obtain ⟨ad',c',e1,_,h3⟩:=id hr
  obtain ⟨g,o,rfl,_⟩:=h3 (by have:=gelt hq;omega)
  injection e1 with e1 _ _
  subst e1
  exact ⟨g,o,rfl,row_cells hr hq⟩
 have HOF:Hid (∀ (X1:Px) (t:List Nat) (k g c:Nat),X.Ext X1→PxOk X1→(∀ x∈t,x<256)→t.length=k→k≤65536→X1.S.list.length+2*k<X.S.most→RowIn [(g,0,flatG encT t)] encT 1 (.slice (some ⟨g,0,none⟩) k c) t→∀ w,((pA X1).sep deA).ho w→((pA X1).sep (poolA [(g,0,flatG encT t)])).ho w→Calls Tryz.prog 22 #[.pointer (some ⟨X.p,0,none⟩),.slice (some ⟨g,0,none⟩) k c] w (IdPost X1 (t.map Tr.leaf) (2*k) (pA X1).fp w)):=Lib.hid fun X1 t k g c q1 q2 q3 q4 q5 q6 q7 w h1 h2=>by
  have:=of_any q2 q7 q3 (by omega) (by rw [q1.le.1];omega) w h1 h2
  rw [q1.p,q4] at this
  exact this
 rw [hnn] at hn ⊢
 have HIN:Hid ((∀ q∈qs,∀ x∈q.t,x<256)∧qs.length=n∧txL qs≤65536∧X.S.list.length+2*txL qs<X.S.most∧PxOk X):=Lib.hid ⟨hb,hnn,htx,hroom,hX⟩
 clear hX hr hb htx hroom hnn
 go_enter Tryz.func16,Tryz.ntmps16
 go_wp2_with (first|refine sL ?_|(refine sS ?_;clear H;intros;rename_i H))
 replace H:=H.empty (A:=rowsA encPi 98 4 (.slice none 0 0) []) (rowsA_nil _) (by rw [rowsA_fp'];rfl)
 go_loopg [6,7] n (fun m v1 v2 wr=>PcRel X N w qs n m v1 v2 wr)
 case atStart=>exact ⟨0,X,[],rfl,Nat.zero_le _,rfl,⟨rfl,trivial,.refl _,HIN.out.2.2.2.2,by omega⟩,H.picks (.cons (A:=pA X) pk (.cons (A:=rowsA encPi 98 4 (.slice none 0 0) []) pk .nil))⟩
 case round =>
  clear H
  obtain ⟨i,X1,ps,rfl,hik,rfl,hrel,H⟩:=hrel
  have HX1:=Lib.hid hrel
  obtain ⟨ad2,c2,rfl,_⟩:=rowsA_shape (H.get (A:=rowsA encPi 98 4 _ ps) pk)
  by_cases hlt:i<n
  ·obtain ⟨q,hq⟩:∃ a,qs[i]?=some a:=⟨_,List.getElem?_eq_getElem (by rw [HIN.out.2.1];exact hlt)⟩
   obtain ⟨g,o,rfl,hcell⟩:=HCL.out i q hq
   have d5:decide ((i:Int)<(n:Int))=true:=by simp;omega
   have d5n:decide (i<n)=true:=by simp;omega
   obtain ⟨k,hk⟩:∃ k,q.t.length=k:=⟨_,rfl⟩
   have htk:=txL_take_succ hq
   have htk2:=txL_take qs (i+1)
   have htq:qs.take (i+1)=qs.take i++[q]:=by rw [List.take_add_one,hq];rfl
   have HLI:Hid (k≤65536∧X1.S.list.length+2*k<X.S.most∧q.t.length=k∧(∀ x∈q.t,x<256)∧txL (qs.take (i+1))=txL (qs.take i)+k∧qs.take (i+1)=qs.take i++[q]∧i≤1024):=Lib.hid (by
    have h1:=hrel.2.2.2.2
    have h2:=HIN.out
    exact ⟨by omega,by omega,hk,h2.1 q (List.mem_of_getElem? hq),by omega,htq,by omega⟩)
   have hkb:=HLI.out.1
   have hib:=HLI.out.2.2.2.2.2.2
   obtain ⟨qc,qf,qn,qt⟩:=q
   simp only at hcell hk HLI
   have HC0:Hid (∀ w,(poolA P).ho w→w.cell? ⟨g,o+i*4,none⟩=some (.bool qc)):=Lib.hid fun w h=>(hcell w h).1
   have HC1:Hid (∀ w,(poolA P).ho w→w.cell? ⟨g,o+i*4+1,none⟩=some (.int .i64 qf)):=Lib.hid fun w h=>(hcell w h).2.1
   have HC2:Hid (∀ w,(poolA P).ho w→w.cell? ⟨g,o+i*4+2,none⟩=some (.int .i64 qn)):=Lib.hid fun w h=>(hcell w h).2.2.1
   have HC3:Hid (∀ w,(poolA P).ho w→w.cell? ⟨g,o+i*4+3,none⟩=some (.string (strB qt))):=Lib.hid fun w h=>(hcell w h).2.2.2
   have hil:i<n:=hlt
   clear hrel hq hcell hk htk htk2 htq
   go_wp2_with (first|refine sL ?_|(refine sS ?_;clear H;intros;rename_i H)|((with_reducible refine isBytes ?_);refine AtBytes.go H rfl rfl qt rfl HLI.out.2.2.2.1 HLI.out.2.2.1 (by have:=HLI.out.1;unfold maxLen;omega) ?_;clear H;intro gb cb _ hrb H;have HRB:=Lib.hid hrb;clear hrb;simp only [Act.put,puA,puB,puC]))
   go_at_call 22
   with_reducible refine Calls.mono (HOF.out X1 qt k gb cb HX1.out.2.2.1 HX1.out.2.2.2.1 HLI.out.2.2.2.1 HLI.out.2.2.1 HLI.out.1 HLI.out.2.1 HRB.out _ (H.sepK (A:=pA X1) HK pk pk) (H.sepO (A:=pA X1) (B:=poolA [(gb,0,flatG encT qt)]) pk pk)) ?_
   rintro e9 wc ⟨X2,id2,rfl,y1,y2,y3,y4,hb⟩
   have HY:=Lib.hid (And.intro y1 (And.intro y2 (And.intro y3 y4)))
   clear y1 y2 y3 y4
   replace H:=(H.pick (A:=pA X1) pk).call hb
   clear hb
   simp only [List.cons_append,List.nil_append] at H
   go_wp2_with (first|refine sL ?_|(refine sS ?_;clear H;intros;rename_i H))
   refine wp_region_h H 19 [(18,98,#[.bool qc,.int .i64 qf,.int .i64 qn,.int .i64 id2],some 1)] [(18,47)] (by kernel_rfl) (by kernel_rfl) ?_
   apply Exists.intro
   refine ⟨fun w1 hw1 HX=>?_,fun bs wr Hr=>?_⟩
   ·refine sG ?_
    repeat (first|refine sQ ?_|go_big_quiet_step (fail))
    apply wpQuiet_nil
    first|refine ⟨fstep_allocT rfl rfl hw1 rfl rfl,?_⟩|refine ⟨fstep_slice1 rfl rfl rfl rfl rfl rfl rfl rfl rfl hw1,?_⟩
    simp only [Act.put,puA,puB,puC]
    repeat (first|refine sQ ?_|go_big_quiet_step (fail))
    exact wpQuiet_nil rfl
   clear H
   have H:=Hr
   clear Hr
   replace H:=sH H;refine sT ?_
   go_wp2_with (first|refine sL ?_|(refine sS ?_;clear H;intros;rename_i H)|((with_reducible refine isAppend ?_);refine AtAppend.go (enc:=encPi) H rfl rfl rfl rfl rfl (by decide) (by decide) rfl pk rfl (H.at pk) [⟨qc,qf,qn,id2⟩] rfl (by simp [flatG,encPi]) encPi_len encPi_one (by have h1:=HX1.out.1;have h2:=HLI.out.2.2.2.2.2.2;simp;omega) ?_;clear H;intro ad9 cp9 _ H;simp only [Act.put,puA,puB,puC]))
   go_roundg (n-(i+1))
   case measure=>omega
   case rel =>
    have h1:=HX1.out
    have h2:=HLI.out
    refine ⟨i+1,X2,ps++[⟨qc,qf,qn,id2⟩],rfl,by omega,rfl,⟨by simp [h1.1],?_,h1.2.2.1.trans HY.out.1,HY.out.2.1,?_⟩,H.picks (.cons (A:=pA X2) pk (.cons (A:=rowsA encPi 98 4 _ (ps++[⟨qc,qf,qn,id2⟩])) pk .nil))⟩
    ·rw [h2.2.2.2.2.2.1]
     exact (h1.2.1.le h1.2.2.2.1.ok HY.out.1.le).append ⟨⟨rfl,rfl,rfl,HY.out.2.2.1⟩,trivial⟩
    ·have h3:=h1.2.2.2.2
     have h4:=HY.out.2.2.2
     rw [h2.2.2.2.2.1]
     omega
  ·have d5:decide ((i:Int)<(n:Int))=false:=by simp;omega
   have d5n:decide (i<n)=false:=by simp;omega
   have hin:i=n:=by omega
   subst hin
   have HE:Hid (qs.take i=qs):=Lib.hid (List.take_of_length_le (by rw [HIN.out.2.1];exact Nat.le_refl _))
   clear hrel hlt
   go_wp2_with (first|refine sL ?_|(refine sS ?_;clear H;intros;rename_i H))
   go_ret2
   exact ⟨X1,_,ps,rfl,HX1.out.2.2.1,HX1.out.2.2.2.1,by have:=HX1.out.2.1;rwa [HE.out] at this,by have:=HX1.out.2.2.2.2;rwa [HE.out] at this,H.picks (.cons (A:=pA X1) pk (.cons (A:=rowsA encPi 98 4 _ ps) pk .nil))⟩
end
section
open Go.RowKit Go.Maps
attribute [local go_sem] InGr strB_size
theorem AtSlice.litK {t e:TypeId} {n:Nat} {ps:Array (Nat×Operand)} {ops:Array Oper} {Q:Exit→Act→World→Prop} {rest:List Oper} {a:Act} {w w0:World} {M:List Nat} {L:List As} {o1:Oper} (H:St w0 M L w) (hw:Region.wanted o1 (yielded ops a.tmps)=true) (ho:o1.op=.buildSlice t n ps) (hte:sliceO t=some e) {z:Value} {k bytes:Nat} {cs:Array Value} (hi:infoO e=some (z,k,bytes)) (hn:¬ n*k > 2 ^ 24) (hn0:¬ n*k=0)
  (hf:Instr.fill (fun i=>some (i*k,k)) ((Array.range (n*k)).map (z.cells[·%z.cells.size]!)) (ps.map fun (i,x)=>(i,a.eval x)).toList=some cs)
  (h:∀ b w',St w0 M (blk b (.cells cs e)::L) w'→wpList Tryz.prog ops Q rest (a.put o1.dst (.slice (some ⟨b,0,none⟩) n n)) w'):AtSlice Tryz.prog ops Q o1 t n ps rest a w :=
 wpList_step fun _ hK=>by
  rw [if_pos hw]
  obtain ⟨i,h2,h3,h4,h5⟩:=infoO_ok hi
  have hr:=run_buildSlice (P:=Tryz.prog) w t e n (ps.map fun (i,x)=>(i,a.eval x)) cs i z (sliceO_ok hte) h2 h3 (by rw [h4];exact hn) (by rw [h4];exact hn0) (by rw [h4];exact hf)
  unfold Oper.wp execOp
  simp only [ho,Sem.run_bind,hr,Result.andThen_ok,Sem.run_pure]
  exact hK _ _ (h _ _ (H.alloc _))
def alQs:List Pz:=[⟨true,1,2,[]⟩,⟨true,3,1,[]⟩,⟨false,0,0,[120]⟩]
theorem al_flat:flatG encR alQs=[.bool true,.int .i64 1,.int .i64 2,.string ⟨#[]⟩,.bool true,.int .i64 3,.int .i64 1,.string ⟨#[]⟩,.bool false,.int .i64 0,.int .i64 0,.string ⟨#[120]⟩]:=by
 simp [flatG,encR,alQs,strB]
theorem alive_c (w:World) (hde:deA.ho w):Calls Tryz.prog 13 #[] w fun e w'=>e=.returned (.bool true)∧St w [] [] w':=by
 have H:=St.nil w []
 have HK:Ks w [] [deA]:=Ks.one hde
 clear hde
 have HP:Hid (∀ w,deA.ho w→Calls Tryz.prog 15 #[.string ⟨#[97,98,99,100,101]⟩] w (ParsePost [97,98,99,100,101] w)):=Lib.hid fun w h=>by
  have:=parse_c (text:=[97,98,99,100,101]) (by decide) (by decide) w h
  rw [show strB [97,98,99,100,101]=⟨#[97,98,99,100,101]⟩ from by simp [strB]] at this
  exact this
 go_enter Tryz.func13,Tryz.ntmps13
 go_wp2_with (first|refine sL ?_|(refine sS ?_;clear H;intros;rename_i H)|(go_at_call 15;with_reducible refine Calls.mono (HP.out _ (H.known HK pk)) ?_;rintro e9 wc ⟨X,id1,rfl,y1,y2,y3,y4,hb⟩;have HX:=Lib.hid (And.intro y1 (And.intro y2 (And.intro y3 y4)));clear y1 y2 y3 y4;replace H:=H.call0 hb;clear hb;simp only [List.cons_append,List.nil_append] at H)|((with_reducible refine isSlice ?_);refine AtSlice.litK H rfl rfl rfl (cs:=#[.bool true,.int .i64 1,.int .i64 2,.string ⟨#[]⟩,.bool true,.int .i64 3,.int .i64 1,.string ⟨#[]⟩,.bool false,.int .i64 0,.int .i64 0,.string ⟨#[120]⟩]) rfl (by decide) (by decide) (by kernel_rfl) ?_;clear H;intro b9 _ H;simp only [Act.put,puA,puB,puC]))
 obtain ⟨P2,hP2⟩:∃ P2:PoolT,P2=[(b9,0,flatG encR alQs)]:=⟨_,rfl⟩
 have H2:=St.blk_poolF (H.pick (A:=blk b9 (.cells #[.bool true,.int .i64 1,.int .i64 2,.string ⟨#[]⟩,.bool true,.int .i64 3,.int .i64 1,.string ⟨#[]⟩,.bool false,.int .i64 0,.int .i64 0,.string ⟨#[120]⟩] 106)) pk)
 rw [al_flat] at hP2
 simp only [← hP2] at H2
 have hr2:RowIn P2 encR 4 (.slice (some ⟨b9,0,none⟩) 3 3) alQs:=⟨_,_,rfl,by simp [maxLen,alQs],fun _=>⟨b9,0,rfl,by rw [hP2,al_flat];exact List.mem_cons_self⟩⟩
 clear H hP2
 have H:=H2
 clear H2
 have HPC:=Lib.hid (fun w h1 h2=>pieces_c (X:=X) (P:=P2) HX.out.1 hr2 (by decide) (by decide) (by decide) (by rw [HX.out.2.1];have:=HX.out.2.2.2;simp [txL,alQs] at this ⊢;omega) w h1 h2)
 go_at_call 16
 with_reducible refine Calls.mono (HPC.out _ (H.sepK (A:=pA X) HK pk pk) (H.sepO (A:=pA X) (B:=poolA P2) pk pk)) ?_
 rintro e9 wc ⟨X2,v2,ps,rfl,y1,y2,y3,y4,hb⟩
 have HY:=Lib.hid (And.intro y1 (And.intro y2 (And.intro y3 y4)))
 clear y1 y2 y3 y4
 replace H:=(H.pick (A:=pA X) pk).call hb
 clear hb
 simp only [List.cons_append,List.nil_append] at H
 have HM2:Hid (X2.S.most=1048576∧X2.S.list.length≤12∧ps.length=3):=Lib.hid ⟨by rw [HY.out.1.le.1,HX.out.2.1],by have h1:=HY.out.2.2.2;have h2:=HX.out.2.2.2;simp [txL,alQs] at h1 h2;omega,by have:=HY.out.2.2.1.len;simpa [alQs] using this⟩
 obtain ⟨ad2,c2,rfl,_⟩:=rowsA_shape (H.get (A:=rowsA encPi 98 4 v2 ps) pk)
 have HAP:=fun w h1 h2=>apply_c (X:=X2) (b:=id1) (base:=[97,98,99,100,101]) (qs:=alQs) (ad:=ad2) (c:=c2) HY.out.2.1 (HX.out.2.2.1.le HX.out.1.ok HY.out.1.le) HY.out.2.2.1 (by rw [HM2.out.2.2];decide) (by decide) (by decide) (by decide) (by rw [HM2.out.1,HM2.out.2.2,show szL alQs=4 from by decide];have:=HM2.out.2.1;simp only [List.length_cons,List.length_nil];omega) w h1 h2
 rw [HY.out.1.p] at HAP
 have HAP:=Lib.hid HAP
 go_wp2_with (first|refine sL ?_|(refine sS ?_;clear H;intros;rename_i H)|(go_at_call 18;with_reducible refine Calls.mono (HAP.out _ (H.sepK (A:=pA X2) HK pk pk) (H.sepO (A:=pA X2) (B:=rowsA encPi 98 4 (.slice ad2 ps.length c2) ps) pk pk)) ?_;rintro e9 wc ⟨X3,id3,rfl,y1,y2,y3,y4,hb⟩;have HZ:=Lib.hid (And.intro y1 (And.intro y2 (And.intro y3 y4)));clear y1 y2 y3 y4;replace H:=(H.pick (A:=pA X2) pk).call hb;clear hb;simp only [List.cons_append,List.nil_append] at H)|((with_reducible refine isSlice ?_);refine AtSlice.lit H rfl rfl rfl (cs:=#[.int .u8 98,.int .u8 99,.int .u8 100,.int .u8 120]) rfl rfl rfl (by decide) (by decide) (by kernel_rfl) ?_;clear H;intro b8 _ H;simp only [Act.put,puA,puB,puC])|((with_reducible refine isConv ?_);refine AtConv.bytes (e:=5) H rfl rfl rfl rfl pk ?_;clear H;intro _ H;simp only [Act.put,puA,puB,puC]))
 obtain ⟨P3,hP3⟩:∃ P2:PoolT,P2=[(b8,0,[.int .u8 98,.int .u8 99,.int .u8 100,.int .u8 120])]:=⟨_,rfl⟩
 have H2:=St.blk_poolF (H.pick (A:=blk b8 (.cells #[.int .u8 98,.int .u8 99,.int .u8 100,.int .u8 120] 5 (4,4+1))) pk)
 simp only [← hP3] at H2
 have hr3:RowIn P3 encT 1 (.slice (some ⟨b8,0,none⟩) 4 4) [98,99,100,120]:=⟨_,_,rfl,by simp [maxLen],fun _=>⟨b8,0,rfl,by rw [hP3];exact List.mem_cons_self⟩⟩
 clear H hP3
 have H:=H2
 clear H2
 have HM3:Hid (X3.S.most=1048576∧X3.S.list.length≤54):=Lib.hid ⟨by rw [HZ.out.1.le.1,HM2.out.1],by have h1:=HZ.out.2.2.2;have h2:=HM2.out;rw [h2.2.2,show szL alQs=4 from by decide] at h1;simp only [List.length_cons,List.length_nil] at h1;omega⟩
 have ho2:=fun w h1 h2=>of_any (X:=X3) (P:=P3) HZ.out.2.1 hr3 (by decide) (by decide) (by rw [HM3.out.1];have:=HM3.out.2;simp only [List.length_cons,List.length_nil];omega) w h1 h2
 rw [(HY.out.1.trans HZ.out.1).p] at ho2
 have HO2:=Lib.hid ho2
 clear ho2
 go_at_call 22;with_reducible refine Calls.mono (HO2.out _ (H.sepK (A:=pA X3) HK pk pk) (H.sepO (A:=pA X3) (B:=poolA P3) pk pk)) ?_;rintro e9 wc ⟨X4,id4,rfl,y1,y2,y3,y4,hb⟩;have HW:=Lib.hid (And.intro y1 (And.intro y2 (And.intro y3 y4)));clear y1 y2 y3 y4;replace H:=(H.pick (A:=pA X3) pk).call hb;clear hb;simp only [List.cons_append,List.nil_append] at H
 have hid:id3=id4:=IdIs.uniq HW.out.2.1.ok (HZ.out.2.2.1.le HZ.out.2.1.ok HW.out.1.le) (by have:=HW.out.2.2.1;exact this)
 subst hid
 have e1:((id3:Int)==(id3:Int))=true:=by simp
 go_wp2_with (first|refine sL ?_|(refine sS ?_;clear H;intros;rename_i H)|fail)
 go_ret
 exact ⟨rfl,H.nix⟩
end
section
open Go.RowKit Go.Maps
attribute [local go_sem] InGr strB_size
def shQ (q:Pz):Nat:=q.t.length+(if q.c=true∧0<q.n then min q.n.toNat 1000 else 0)
def shL (l:List Pz):Nat:=(l.map shQ).sum
theorem shL_take_succ {l:List Pz} {i:Nat} {q:Pz} (h:l[i]?=some q):shL (l.take (i+1))=shL (l.take i)+shQ q:=by
 unfold shL
 rw [List.take_add_one,h]
 simp
def ShRel (P:PoolT) (w:World) (qs:List Pz) (bl n m:Nat) (v1 v:Value) (wr:World):Prop :=
 ∃ (i sm:Nat),m=n-i∧i≤n∧v1=.int .i64 sm∧v=.int .i64 i∧(sm=bl+shL (qs.take i)∧sm≤2305843009213693951)∧St w [] [] wr
theorem short_c {P:PoolT} {qs:List Pz} {v:Value} {base:List Nat} (hr:RowIn P encR 4 v qs) (hbl:base.length≤1152921504606846976) (htl:∀ q∈qs,q.t.length≤1152921504606846976) (hf:∀ q∈qs,q.n≤9223372036854775807) (w:World) (hp:(poolA P).ho w) :
  Calls Tryz.prog 14 #[.string (strB base),v] w fun e w'=>∃ b:Bool,e=.returned (.bool b)∧(b=true→base.length+shL qs≤400∧qs.length≤40)∧St w [] [] w':=by
 have H:=St.nil w []
 have HK:=Ks.one hp
 obtain ⟨n,hnn⟩:∃ n,qs.length=n:=⟨_,rfl⟩
 obtain ⟨ad,c,rfl,hmx9⟩:=hr.shape
 have HCL:Hid (∀ (i:Nat) (q:Pz),qs[i]?=some q→∃ g o,ad=some ⟨g,o,none⟩∧(∀ w,(poolA P).ho w→w.cell? ⟨g,o+i*4,none⟩=some (.bool q.c)∧w.cell? ⟨g,o+i*4+1,none⟩=some (.int .i64 q.f)∧w.cell? ⟨g,o+i*4+2,none⟩=some (.int .i64 q.n)∧w.cell? ⟨g,o+i*4+3,none⟩=some (.string (strB q.t)))∧∀ w,(poolA P).ho w→w.rangeAt g (o+i*4) [.bool q.c,.int .i64 q.f,.int .i64 q.n,.string (strB q.t)]):=Lib.hid fun i q hq=>by
  obtain ⟨ad',c',e1,_,h3⟩:=id hr
  obtain ⟨g,o,rfl,_⟩:=h3 (by have:=gelt hq;omega)
  injection e1 with e1 _ _
  subst e1
  exact ⟨g,o,rfl,row_cells hr hq,fun w h=>hr.rng h encR_len hq⟩
 obtain ⟨bl,hbb⟩:∃ n,base.length=n:=⟨_,rfl⟩
 have hsz:(strB base).size=bl:=by rw [strB_size];exact hbb
 have hmx:n≤9223372036854775807:=by
  have:=hmx9
  unfold maxLen at this
  omega
 rw [hnn,hbb]
 have HIN:Hid (qs.length=n∧n≤9223372036854775807∧(∀ q∈qs,q.t.length≤1152921504606846976)∧∀ q∈qs,q.n≤9223372036854775807):=Lib.hid ⟨hnn,hmx,htl,hf⟩
 rw [hbb] at hbl
 clear hr htl hnn hbb hf hp hmx9
 go_enter Tryz.func14,Tryz.ntmps14
 go_wp2_with (first|refine sL ?_|(refine sS ?_;clear H;intros;rename_i H))
 go_loopg [5,6] n (fun m v1 v2 wr=>ShRel P w qs bl n m v1 v2 wr)
 case atStart=>exact ⟨0,bl,rfl,Nat.zero_le _,rfl,rfl,⟨by simp [shL],by omega⟩,H⟩
 case round =>
  clear H
  obtain ⟨i,sm,rfl,hik,rfl,rfl,hrel,H⟩:=hrel
  have HRL:=Lib.hid hrel
  have hsb:=hrel.2
  by_cases hlt:i<n
  ·obtain ⟨q,hq⟩:∃ a,qs[i]?=some a:=⟨_,List.getElem?_eq_getElem (by rw [HIN.out.1];exact hlt)⟩
   obtain ⟨g,o,rfl,hcell,hrng⟩:=HCL.out i q hq
   have d5:decide ((i:Int)<(n:Int))=true:=by simp;omega
   have d5n:decide (i<n)=true:=by simp;omega
   have hil:i<n:=hlt
   have hib:i≤9223372036854775806:=by have:=HIN.out.2.1;omega
   by_cases h4:sm≤400
   ·have d6:decide ((sm:Int)≤400)=true:=by simp;omega
    have d6n:decide (sm≤400)=true:=by simp;omega
    obtain ⟨k,hk⟩:∃ k,q.t.length=k:=⟨_,rfl⟩
    have hkb:k≤1152921504606846976:=by rw [← hk];exact HIN.out.2.2.1 q (List.mem_of_getElem? hq)
    have hqn:=HIN.out.2.2.2 q (List.mem_of_getElem? hq)
    have HTK:=Lib.hid (shL_take_succ hq)
    obtain ⟨qc,qf,qn,qt⟩:=q
    simp only at hcell hk hqn HTK
    have hz:(strB qt).size=k:=by rw [strB_size];exact hk
    have HC0:Hid (∀ w,(poolA P).ho w→w.cell? ⟨g,o+i*4,none⟩=some (.bool qc)):=Lib.hid fun w h=>(hcell w h).1
    have HC1:Hid (∀ w,(poolA P).ho w→w.cell? ⟨g,o+i*4+1,none⟩=some (.int .i64 qf)):=Lib.hid fun w h=>(hcell w h).2.1
    have HC2:Hid (∀ w,(poolA P).ho w→w.cell? ⟨g,o+i*4+2,none⟩=some (.int .i64 qn)):=Lib.hid fun w h=>(hcell w h).2.2.1
    have HC3:Hid (∀ w,(poolA P).ho w→w.cell? ⟨g,o+i*4+3,none⟩=some (.string (strB qt))):=Lib.hid fun w h=>(hcell w h).2.2.2
    clear hrel hq hcell hrng
    cases qc with
    |false =>
     have HQ:Hid (shQ ⟨false,qf,qn,qt⟩=k):=Lib.hid (by simp [shQ,hk])
     clear hk hqn
     go_wp2_with (first|refine sL ?_|(refine sS ?_;clear H;intros;rename_i H))
     go_roundg (n-(i+1))
     case measure=>omega
     case rel=>exact ⟨i+1,sm+k,rfl,by omega,by go_num,rfl,⟨by rw [HTK.out,HQ.out];have:=HRL.out.1;omega,by omega⟩,H⟩
    |true =>
     by_cases hn0:0<qn
     ·have d7:decide (0<qn)=true:=by simp;omega
      obtain ⟨m,rfl⟩:∃ m:Nat,qn=m:=⟨qn.toNat,by omega⟩
      have d7n:decide (0<m)=true:=by simp;omega
      have hmb:m≤9223372036854775807:=by omega
      have hmm:min (m:Int) 1000=((min m 1000:Nat):Int):=by omega
      have HQ:Hid (shQ ⟨true,qf,(m:Int),qt⟩=k+min m 1000):=Lib.hid (by simp [shQ,hk];omega)
      have hmn:min m 1000≤1000:=Nat.min_le_right _ _
      generalize min m 1000=mm at *
      clear hk hqn hn0
      go_wp2_with (first|refine sL ?_|(refine sS ?_;clear H;intros;rename_i H))
      all_goals
       go_roundg (n-(i+1))
       case measure=>omega
       case rel=>exact ⟨i+1,sm+k+mm,rfl,by omega,by go_num,rfl,⟨by rw [HTK.out,HQ.out];have:=HRL.out.1;omega,by omega⟩,H⟩
     ·have d7:decide (0<qn)=false:=by simp;omega
      have HQ:Hid (shQ ⟨true,qf,qn,qt⟩=k):=Lib.hid (by simp [shQ,hk];intro h;omega)
      clear hk hqn hn0
      go_wp2_with (first|refine sL ?_|(refine sS ?_;clear H;intros;rename_i H))
      go_roundg (n-(i+1))
      case measure=>omega
      case rel=>exact ⟨i+1,sm+k,rfl,by omega,by go_num,rfl,⟨by rw [HTK.out,HQ.out];have:=HRL.out.1;omega,by omega⟩,H⟩
   ·have d6:decide ((sm:Int)≤400)=false:=by simp;omega
    have d6n:decide (sm≤400)=false:=by simp;omega
    clear hrel hq hcell hrng
    go_wp2_with (first|refine sL ?_|(refine sS ?_;clear H;intros;rename_i H))
    go_ret
    exact ⟨false,rfl,fun h=>(by cases h),H⟩
  ·have d5:decide ((i:Int)<(n:Int))=false:=by simp;omega
   have d5n:decide (i<n)=false:=by simp;omega
   have hin:i=n:=by omega
   subst hin
   have HE:Hid (qs.take i=qs):=Lib.hid (List.take_of_length_le (by rw [HIN.out.1];exact Nat.le_refl _))
   by_cases h4:sm≤400
   ·have d6:decide ((sm:Int)≤400)=true:=by simp;omega
    have d6n:decide (sm≤400)=true:=by simp;omega
    by_cases h5:i≤40
    ·have d7:decide ((i:Int)≤40)=true:=by simp;omega
     have d7n:decide (i≤40)=true:=by simp;omega
     clear hrel
     go_wp2_with (first|refine sL ?_|(refine sS ?_;clear H;intros;rename_i H))
     go_ret
     exact ⟨true,rfl,fun _=>⟨by have:=HRL.out.1;rw [HE.out] at this;omega,h5⟩,H⟩
    ·have d7:decide ((i:Int)≤40)=false:=by simp;omega
     have d7n:decide (i≤40)=false:=by simp;omega
     clear hrel
     go_wp2_with (first|refine sL ?_|(refine sS ?_;clear H;intros;rename_i H))
     go_ret
     exact ⟨false,rfl,fun h=>(by cases h),H⟩
   ·have d6:decide ((sm:Int)≤400)=false:=by simp;omega
    have d6n:decide (sm≤400)=false:=by simp;omega
    clear hrel
    go_wp2_with (first|refine sL ?_|(refine sS ?_;clear H;intros;rename_i H))
    go_ret
    exact ⟨false,rfl,fun h=>(by cases h),H⟩
end
section
open Go.RowKit Go.Maps
attribute [local go_sem] InGr strB_size
theorem strB_isE (l:List Nat):(strB l).toList.isEmpty=decide (l=[]):=by
 unfold strB
 rw [ByteArray.toList_mk]
 cases l <;> simp
def RkRel (P:PoolT) (w:World) (qs:List Pz) (bl n m:Nat) (v:Value) (wr:World):Prop :=
 ∃ i:Nat,m=n-i∧i≤n∧v=.int .i64 i∧(∀ j q,j<i→qs[j]?=some q→chkP bl q=0)∧St w [] [] wr
theorem rcheck_c {P:PoolT} {qs:List Pz} {v:Value} {base:List Nat} (hr:RowIn P encR 4 v qs) (hbl:base.length≤1152921504606846976) (w:World) (hp:(poolA P).ho w) :
  Calls Tryz.prog 17 #[.string (strB base),v] w fun e w'=>e=.returned (.int .i64 (chkL base.length qs:Nat))∧St w [] [] w':=by
 have H:=St.nil w []
 have HK:=Ks.one hp
 obtain ⟨n,hnn⟩:∃ n,qs.length=n:=⟨_,rfl⟩
 obtain ⟨ad,c,rfl,hmx9⟩:=hr.shape
 have HCL:Hid (∀ (i:Nat) (q:Pz),qs[i]?=some q→∃ g o,ad=some ⟨g,o,none⟩∧(∀ w,(poolA P).ho w→w.cell? ⟨g,o+i*4,none⟩=some (.bool q.c)∧w.cell? ⟨g,o+i*4+1,none⟩=some (.int .i64 q.f)∧w.cell? ⟨g,o+i*4+2,none⟩=some (.int .i64 q.n)∧w.cell? ⟨g,o+i*4+3,none⟩=some (.string (strB q.t)))∧∀ w,(poolA P).ho w→w.rangeAt g (o+i*4) [.bool q.c,.int .i64 q.f,.int .i64 q.n,.string (strB q.t)]):=Lib.hid fun i q hq=>by
  obtain ⟨ad',c',e1,_,h3⟩:=id hr
  obtain ⟨g,o,rfl,_⟩:=h3 (by have:=gelt hq;omega)
  injection e1 with e1 _ _
  subst e1
  exact ⟨g,o,rfl,row_cells hr hq,fun w h=>hr.rng h encR_len hq⟩
 obtain ⟨bl,hbb⟩:∃ n,base.length=n:=⟨_,rfl⟩
 have hsz:(strB base).size=bl:=by rw [strB_size];exact hbb
 have hmx:n≤9223372036854775807:=by
  have:=hmx9
  unfold maxLen at this
  omega
 rw [hnn,hbb]
 have HIN:Hid (qs.length=n∧n≤9223372036854775807):=Lib.hid ⟨hnn,hmx⟩
 rw [hbb] at hbl
 clear hr hnn hbb hp hmx9
 go_enter Tryz.func17,Tryz.ntmps17
 go_wp2_with (first|refine sL ?_|(refine sS ?_;clear H;intros;rename_i H))
 go_loopg [5] n (fun m v1 wr=>RkRel P w qs bl n m v1 wr)
 case atStart=>exact ⟨0,rfl,Nat.zero_le _,rfl,fun j q hj=>absurd hj (Nat.not_lt_zero _),H⟩
 case round =>
  clear H
  obtain ⟨i,rfl,hik,rfl,hrel,H⟩:=hrel
  have HRL:=Lib.hid hrel
  by_cases hlt:i<n
  ·obtain ⟨q,hq⟩:∃ a,qs[i]?=some a:=⟨_,List.getElem?_eq_getElem (by rw [HIN.out.1];exact hlt)⟩
   obtain ⟨g,o,rfl,hcell,hrng⟩:=HCL.out i q hq
   have d5:decide ((i:Int)<(n:Int))=true:=by simp;omega
   have d5n:decide (i<n)=true:=by simp;omega
   have hil:i<n:=hlt
   have hib:i≤9223372036854775806:=by have:=HIN.out.2;omega
   have HRX:=Lib.hid hrng
   have HQ:=Lib.hid hq
   have HFI:Hid (∀ k,chkP bl q=k→k≠0→chkL bl qs=k):=Lib.hid fun k hk h0=>by
    rw [← hk]
    exact chkL_first HRL.out HQ.out (by rw [hk];exact h0)
   have HNX:Hid (chkP bl q=0→∀ j q',j<i+1→qs[j]?=some q'→chkP bl q'=0):=Lib.hid fun hk j q' hj hq'=>by
    rcases Nat.lt_or_ge j i with h9|h9
    ·exact HRL.out j q' h9 hq'
    ·obtain rfl:j=i:=by omega
     rw [HQ.out] at hq'
     injection hq' with hq'
     rw [← hq'];exact hk
   obtain ⟨qc,qf,qn,qt⟩:=q
   simp only at HRX HFI HNX
   have hst:=strB_isE qt
   clear hrel hq hcell hrng HQ
   cases qc with
   |true =>
    by_cases h1:qn<1
    ·have d1:decide (qn<1)=true:=by simp;omega
     have HE:Hid (chkL bl qs=4):=Lib.hid (HFI.out 4 (by simp [chkP,h1]) (by omega))
     clear HFI HNX h1
     go_wp2_with (first|go_big_skip|refine sL ?_|(refine sS ?_;clear H;intros;rename_i H)|((with_reducible refine isLoad ?_);refine AtLoad.rngT rfl rfl rfl (HRX.out _ (H.known HK (A:=poolA P) pk)) rfl ?_;simp only [Act.put,puA,puB,puC]))
     go_ret
     exact ⟨by rw [HE.out];rfl,H.nix⟩
    ·have d1:decide (qn<1)=false:=by simp;omega
     by_cases h2:qt=[]
     ·rw [show decide (qt=[])=true by simp [h2]] at hst
      by_cases h3:qf<0
      ·have d2:decide (qf<0)=true:=by simp;omega
       have HE:Hid (chkL bl qs=1):=Lib.hid (HFI.out 1 (by simp only [chkP,if_true];rw [if_neg (by simp [h2,h1]),if_neg (by omega)]) (by omega))
       clear HFI HNX h1 h2 h3
       go_wp2_with (first|go_big_skip|refine sL ?_|(refine sS ?_;clear H;intros;rename_i H)|((with_reducible refine isLoad ?_);refine AtLoad.rngT rfl rfl rfl (HRX.out _ (H.known HK (A:=poolA P) pk)) rfl ?_;simp only [Act.put,puA,puB,puC]))
       go_ret
       exact ⟨by rw [HE.out];rfl,H.nix⟩
      ·obtain ⟨f,rfl⟩:∃ f:Nat,qf=f:=⟨qf.toNat,by omega⟩
       obtain ⟨m,rfl⟩:∃ f:Nat,qn=f:=⟨qn.toNat,by omega⟩
       have d2:decide ((f:Int)<0)=false:=by simp
       by_cases h4:bl<f
       ·have d3:decide ((bl:Int)<(f:Int))=true:=by simp;omega
        have d3n:decide (bl<f)=true:=by simp;omega
        have HE:Hid (chkL bl qs=1):=Lib.hid (HFI.out 1 (by simp only [chkP,if_true];rw [if_neg (by simp only [h2];simp;omega),if_neg (by omega)]) (by omega))
        clear HFI HNX h1 h2 h3 h4
        go_wp2_with (first|go_big_skip|refine sL ?_|(refine sS ?_;clear H;intros;rename_i H)|((with_reducible refine isLoad ?_);refine AtLoad.rngT rfl rfl rfl (HRX.out _ (H.known HK (A:=poolA P) pk)) rfl ?_;simp only [Act.put,puA,puB,puC]))
        go_ret
        exact ⟨by rw [HE.out];rfl,H.nix⟩
       ·have d3:decide ((bl:Int)<(f:Int))=false:=by simp;omega
        have d3n:decide (bl<f)=false:=by simp;omega
        obtain ⟨rs,hrs⟩:∃ k,bl-f=k:=⟨_,rfl⟩
        have i1:(bl:Int)-(f:Int)=(rs:Nat):=by omega
        by_cases h5:rs<m
        ·have d4:decide ((rs:Int)<(m:Int))=true:=by simp;omega
         have d4n:decide (rs<m)=true:=by simp;omega
         have HE:Hid (chkL bl qs=1):=Lib.hid (HFI.out 1 (by simp only [chkP,if_true];rw [if_neg (by simp only [h2];simp;omega),if_neg (by omega)]) (by omega))
         clear HFI HNX h1 h2 h3 h4 h5 hrs
         go_wp2_with (first|go_big_skip|refine sL ?_|(refine sS ?_;clear H;intros;rename_i H)|((with_reducible refine isLoad ?_);refine AtLoad.rngT rfl rfl rfl (HRX.out _ (H.known HK (A:=poolA P) pk)) rfl ?_;simp only [Act.put,puA,puB,puC]))
         go_ret
         exact ⟨by rw [HE.out];rfl,H.nix⟩
        ·have d4:decide ((rs:Int)<(m:Int))=false:=by simp;omega
         have d4n:decide (rs<m)=false:=by simp;omega
         have HE:=Lib.hid (HNX.out (by simp only [chkP,if_true];rw [if_neg (by simp only [h2];simp;omega),if_pos (by omega)]))
         clear HFI HNX h1 h2 h3 h4 h5 hrs
         go_wp2_with (first|go_big_skip|refine sL ?_|(refine sS ?_;clear H;intros;rename_i H)|((with_reducible refine isLoad ?_);refine AtLoad.rngT rfl rfl rfl (HRX.out _ (H.known HK (A:=poolA P) pk)) rfl ?_;simp only [Act.put,puA,puB,puC]))
         go_roundg (n-(i+1))
         case measure=>omega
         case rel=>exact ⟨i+1,rfl,by omega,rfl,HE.out,H.nix⟩
     ·rw [show decide (qt=[])=false by simp [h2]] at hst
      have HE:Hid (chkL bl qs=4):=Lib.hid (HFI.out 4 (by simp [chkP,h2]) (by omega))
      clear HFI HNX h1 h2
      go_wp2_with (first|go_big_skip|refine sL ?_|(refine sS ?_;clear H;intros;rename_i H)|((with_reducible refine isLoad ?_);refine AtLoad.rngT rfl rfl rfl (HRX.out _ (H.known HK (A:=poolA P) pk)) rfl ?_;simp only [Act.put,puA,puB,puC]))
      go_ret
      exact ⟨by rw [HE.out];rfl,H.nix⟩
   |false =>
    by_cases h1:qf=0
    ·have d1:(qf != 0)=false:=by simpa using h1
     by_cases h2:qn=0
     ·have d2:(qn != 0)=false:=by simpa using h2
      by_cases h3:qt=[]
      ·rw [show decide (qt=[])=true by simp [h3]] at hst
       have HE:Hid (chkL bl qs=4):=Lib.hid (HFI.out 4 (by simp [chkP,h3]) (by omega))
       clear HFI HNX h1 h2 h3
       go_wp2_with (first|go_big_skip|refine sL ?_|(refine sS ?_;clear H;intros;rename_i H)|((with_reducible refine isLoad ?_);refine AtLoad.rngT rfl rfl rfl (HRX.out _ (H.known HK (A:=poolA P) pk)) rfl ?_;simp only [Act.put,puA,puB,puC]))
       go_ret
       exact ⟨by rw [HE.out];rfl,H.nix⟩
      ·rw [show decide (qt=[])=false by simp [h3]] at hst
       have HE:=Lib.hid (HNX.out (by simp [chkP,h1,h2,h3]))
       clear HFI HNX h1 h2 h3
       go_wp2_with (first|go_big_skip|refine sL ?_|(refine sS ?_;clear H;intros;rename_i H)|((with_reducible refine isLoad ?_);refine AtLoad.rngT rfl rfl rfl (HRX.out _ (H.known HK (A:=poolA P) pk)) rfl ?_;simp only [Act.put,puA,puB,puC]))
       go_roundg (n-(i+1))
       case measure=>omega
       case rel=>exact ⟨i+1,rfl,by omega,rfl,HE.out,H.nix⟩
     ·have d2:(qn != 0)=true:=by simpa using h2
      have HE:Hid (chkL bl qs=4):=Lib.hid (HFI.out 4 (by simp [chkP,h2]) (by omega))
      clear HFI HNX h1 h2
      go_wp2_with (first|go_big_skip|refine sL ?_|(refine sS ?_;clear H;intros;rename_i H)|((with_reducible refine isLoad ?_);refine AtLoad.rngT rfl rfl rfl (HRX.out _ (H.known HK (A:=poolA P) pk)) rfl ?_;simp only [Act.put,puA,puB,puC]))
      go_ret
      exact ⟨by rw [HE.out];rfl,H.nix⟩
    ·have d1:(qf != 0)=true:=by simpa using h1
     have HE:Hid (chkL bl qs=4):=Lib.hid (HFI.out 4 (by simp [chkP,h1]) (by omega))
     clear HFI HNX h1
     go_wp2_with (first|go_big_skip|refine sL ?_|(refine sS ?_;clear H;intros;rename_i H)|((with_reducible refine isLoad ?_);refine AtLoad.rngT rfl rfl rfl (HRX.out _ (H.known HK (A:=poolA P) pk)) rfl ?_;simp only [Act.put,puA,puB,puC]))
     go_ret
     exact ⟨by rw [HE.out];rfl,H.nix⟩
  ·have d5:decide ((i:Int)<(n:Int))=false:=by simp;omega
   have d5n:decide (i<n)=false:=by simp;omega
   have HZ:Hid (chkL bl qs=0):=Lib.hid (chkL_zero.2 fun q hq=>by
    obtain ⟨j,hj,e⟩:=List.getElem_of_mem hq
    exact HRL.out j q (by have:=HIN.out.1;omega) (by rw [List.getElem?_eq_getElem hj,e]))
   clear hrel
   go_wp2_with (first|refine sL ?_|(refine sS ?_;clear H;intros;rename_i H))
   go_ret
   exact ⟨by rw [HZ.out];rfl,H.nix⟩
end
section
open Go.RowKit Go.Maps
attribute [local go_sem] InGr strB_size
theorem szL_sh {bl:Nat} (hb:bl≤400):∀ {qs:List Pz},(∀ q∈qs,chkP bl q=0)→szL qs≤shL qs
 |[],_=>by simp [szL,shL]
 |q::r,h=>by
  have h1:=szL_sh hb (qs:=r) fun x hx=>h x (by simp [hx])
  have h2:=chk_pos (h q (by simp))
  have h3:szP q≤shQ q:=by
   unfold szP shQ
   split
   ·rename_i hc
    have:=h2.2 hc
    rw [if_pos ⟨hc,by omega⟩]
    omega
   ·omega
  unfold szL shL at h1 ⊢
  simp only [List.map_cons,List.sum_cons]
  omega
theorem txL_sh:∀ qs:List Pz,txL qs≤shL qs
 |[]=>by simp [txL,shL]
 |q::r=>by
  have:=txL_sh r
  unfold txL shL at this ⊢
  simp only [List.map_cons,List.sum_cons]
  have:q.t.length≤shQ q:=by unfold shQ;omega
  omega
end
section
def jn (k q:Pz):Option Pz :=
 if k.c=true∧q.c=true∧k.f+k.n=q.f then some ⟨k.c,k.f,k.n+q.n,k.t⟩ else if k.c=false∧q.c=false then some ⟨k.c,k.f,k.n,k.t++q.t⟩ else none
def nst (out:List Pz) (q:Pz):List Pz:=match out.getLast? with
 |none=>[q]
 |some k=>match jn k q with
  |some k'=>out.dropLast++[k']
  |none=>out++[q]
def nrm (qs:List Pz):List Pz:=qs.foldl nst []
theorem nst_nil (q:Pz):nst [] q=[q]:=rfl
theorem nst_join {L:List Pz} {k q k':Pz} (h:jn k q=some k'):nst (L++[k]) q=L++[k']:=by
 unfold nst
 simp [h]
theorem nst_none {L:List Pz} {k q:Pz} (h:jn k q=none):nst (L++[k]) q=L++[k]++[q]:=by
 unfold nst
 simp [h]
theorem nrm_take_succ {l:List Pz} {i:Nat} {q:Pz} (h:l[i]?=some q):nrm (l.take (i+1))=nst (nrm (l.take i)) q:=by
 unfold nrm
 rw [List.take_add_one,h]
 simp [List.foldl_append]
theorem jn_cf {k q k':Pz} (h:jn k q=some k'):k'.c=k.c∧k'.f=k.f:=by
 unfold jn at h
 split at h
 ·cases h;exact ⟨rfl,rfl⟩
 ·split at h
  ·cases h;exact ⟨rfl,rfl⟩
  ·cases h
theorem jn_none_of {x k k':Pz} (hc:k'.c=k.c) (hf:k'.f=k.f) (h:jn x k=none):jn x k'=none:=by
 unfold jn at h ⊢
 rw [hc,hf]
 split at h
 ·cases h
 ·rename_i h1
  rw [if_neg h1]
  split at h
  ·cases h
  ·rename_i h2
   rw [if_neg h2]
def Nm (l:List Pz):Prop:=∀ i a b,l[i]?=some a→l[i+1]?=some b→jn a b=none
theorem nm_snoc {L:List Pz} {k q:Pz} (h:Nm (L++[k])) (hj:jn k q=none):Nm (L++[k]++[q]):=by
 intro i a b ha hb
 by_cases hi:i+1<(L++[k]).length
 ·rw [List.getElem?_append_left (by omega)] at ha
  rw [List.getElem?_append_left hi] at hb
  exact h i a b ha hb
 ·have hl:i+1<(L++[k]++[q]).length:=(List.getElem?_eq_some_iff.1 hb).1
  simp only [List.length_append,List.length_cons,List.length_nil] at hi hl
  have e:i=L.length:=by omega
  subst e
  simp at ha hb
  subst ha hb
  exact hj
theorem nm_last {L:List Pz} {k k':Pz} (h:Nm (L++[k])) (hc:k'.c=k.c) (hf:k'.f=k.f):Nm (L++[k']):=by
 intro i a b ha hb
 have hl:i+1<(L++[k']).length:=(List.getElem?_eq_some_iff.1 hb).1
 simp only [List.length_append,List.length_cons,List.length_nil] at hl
 rw [List.getElem?_append_left (by omega)] at ha
 by_cases hi:i+1<L.length
 ·rw [List.getElem?_append_left hi] at hb
  exact h i a b (by rw [List.getElem?_append_left (by omega)];exact ha) (by rw [List.getElem?_append_left hi];exact hb)
 ·have e:i+1=L.length:=by omega
  have hb2:(L++[k'])[L.length]?=some b:=by rw [← e];exact hb
  simp at hb2
  subst hb2
  exact jn_none_of hc hf (h i a k (by rw [List.getElem?_append_left (by omega)];exact ha) (by rw [e];simp))
theorem snoc_pz (l:List Pz):l=[]∨∃ L k,l=L++[k]:=by
 rcases List.eq_nil_or_concat l with h|⟨L,k,h⟩
 ·exact .inl h
 ·exact .inr ⟨L,k,by simpa using h⟩
theorem nst_nm {out:List Pz} {q:Pz} (h:Nm out):Nm (nst out q):=by
 rcases snoc_pz out with rfl|⟨L,k,rfl⟩
 ·intro i a b ha hb
  have:=(List.getElem?_eq_some_iff.1 hb).1
  simp [nst_nil] at this
 ·cases hj:jn k q with
  |none=>rw [nst_none hj];exact nm_snoc h hj
  |some k'=>rw [nst_join hj];exact nm_last h (jn_cf hj).1 (jn_cf hj).2
theorem foldl_nst_nm {qs:List Pz}:∀ {out:List Pz},Nm out→Nm (qs.foldl nst out):=by
 induction qs with
 |nil=>intro out h;exact h
 |cons q r ih=>intro out h;exact ih (nst_nm h)
theorem nrm_nm (qs:List Pz):Nm (nrm qs):=foldl_nst_nm fun i a b ha hb=>by simp at ha
theorem nm_take {l:List Pz} (h:Nm l):∀ i,i≤l.length→nrm (l.take i)=l.take i
 |0,_=>by simp [nrm]
 |i+1,hi=>by
  have hq:l[i]?=some l[i]:=List.getElem?_eq_getElem (by omega)
  rw [nrm_take_succ hq,nm_take h i (by omega)]
  have e:l.take (i+1)=l.take i++[l[i]]:=by rw [List.take_add_one,hq];rfl
  rw [e]
  rcases snoc_pz (l.take i) with h0|⟨L,k,h0⟩
  ·rw [h0];rfl
  ·rw [h0]
   have hlen:i=L.length+1:=by
    have:=congrArg List.length h0
    rw [List.length_take,List.length_append] at this
    simp at this
    omega
   have hk:l[L.length]?=some k:=by
    have h1:(l.take i)[L.length]?=some k:=by rw [h0];simp
    rwa [List.getElem?_take_of_lt (by omega)] at h1
   exact nst_none (h L.length k l[i] hk (by rw [← hlen];exact hq))
theorem nrm_of_nm {l:List Pz} (h:Nm l):nrm l=l:=by
 have:=nm_take h l.length (Nat.le_refl _)
 rwa [List.take_length] at this
theorem nrm_idem (qs:List Pz):nrm (nrm qs)=nrm qs:=nrm_of_nm (nrm_nm qs)
theorem jn_chk {s:Nat} {k q k':Pz} (h:jn k q=some k') (h1:chkP s k=0) (h2:chkP s q=0):chkP s k'=0:=by
 unfold jn at h
 obtain ⟨kc,kf,kn,kt⟩:=k
 obtain ⟨qc,qf,qn,qt⟩:=q
 simp only at h
 unfold chkP at h1 h2 ⊢
 split at h
 ·rename_i hc
  obtain ⟨rfl,rfl,h3⟩:=hc
  cases h
  simp only [if_true] at h1 h2 ⊢
  have a1:¬ (kt≠[]∨kn<1):=by intro h;rw [if_pos h] at h1;cases h1
  rw [if_neg a1] at h1
  have a2:¬ (qt≠[]∨qn<1):=by intro h;rw [if_pos h] at h2;cases h2
  rw [if_neg a2] at h2
  have b1:0≤kf∧kf+kn≤s:=by
   by_cases hb:0≤kf∧kf+kn≤s
   ·exact hb
   ·rw [if_neg hb] at h1;cases h1
  have b2:0≤qf∧qf+qn≤s:=by
   by_cases hb:0≤qf∧qf+qn≤s
   ·exact hb
   ·rw [if_neg hb] at h2;cases h2
  rw [if_neg (fun h=>by
   rcases h with h|h
   ·exact a1 (.inl h)
   ·have a3:¬ kn<1:=fun h=>a1 (.inr h)
    have a4:¬ qn<1:=fun h=>a2 (.inr h)
    omega),if_pos ⟨b1.1,by omega⟩]
 ·split at h
  ·rename_i hc
   obtain ⟨rfl,rfl⟩:=hc
   cases h
   simp only [Bool.false_eq_true,if_false] at h1 h2 ⊢
   have a1:¬ (kf≠0∨kn≠0∨kt=[]):=by intro h;rw [if_pos h] at h1;cases h1
   rw [if_neg (fun h=>a1 (by
    rcases h with h|h|h
    ·exact .inl h
    ·exact .inr (.inl h)
    ·exact .inr (.inr (List.append_eq_nil_iff.1 h).1)))]
  ·cases h
theorem nst_chk {s:Nat} {out:List Pz} {q:Pz} (h:∀ x∈out,chkP s x=0) (hq:chkP s q=0):∀ x∈nst out q,chkP s x=0:=by
 rcases snoc_pz out with rfl|⟨L,k,rfl⟩
 ·intro x hx;simp [nst_nil] at hx;subst hx;exact hq
 ·have hk:=h k (by simp)
  cases hj:jn k q with
  |none =>
   rw [nst_none hj]
   intro x hx
   rcases List.mem_append.1 hx with hx|hx
   ·exact h x hx
   ·simp at hx;subst hx;exact hq
  |some k' =>
   rw [nst_join hj]
   intro x hx
   rcases List.mem_append.1 hx with hx|hx
   ·exact h x (by simp [hx])
   ·simp at hx;subst hx;exact jn_chk hj hk hq
theorem foldl_nst_chk {s:Nat} {qs:List Pz}:∀ {out:List Pz},(∀ x∈out,chkP s x=0)→(∀ q∈qs,chkP s q=0)→∀ x∈qs.foldl nst out,chkP s x=0:=by
 induction qs with
 |nil=>intro out h _;exact h
 |cons q r ih=>intro out h hq;exact ih (nst_chk h (hq q (by simp))) fun x hx=>hq x (by simp [hx])
theorem nrm_chk {s:Nat} {qs:List Pz} (h:∀ q∈qs,chkP s q=0):∀ q∈nrm qs,chkP s q=0:=foldl_nst_chk (by simp) h
theorem nst_len (out:List Pz) (q:Pz):(nst out q).length≤out.length+1:=by
 rcases snoc_pz out with rfl|⟨L,k,rfl⟩
 ·simp [nst_nil]
 ·cases hj:jn k q with
  |none=>rw [nst_none hj];simp
  |some k'=>rw [nst_join hj];simp
theorem foldl_nst_len {qs:List Pz}:∀ {out:List Pz},(qs.foldl nst out).length≤out.length+qs.length:=by
 induction qs with
 |nil=>intro out;simp
 |cons q r ih=>intro out;have h1:=ih (out:=nst out q);have h2:=nst_len out q;simp only [List.foldl_cons,List.length_cons];omega
theorem nrm_len (qs:List Pz):(nrm qs).length≤qs.length:=by have:=foldl_nst_len (qs:=qs) (out:=[]);simpa [nrm] using this
theorem txL_app (a b:List Pz):txL (a++b)=txL a+txL b:=by simp [txL]
theorem jn_tx {s:Nat} {k q k':Pz} (h:jn k q=some k') (hq:chkP s q=0):k'.t.length=k.t.length+q.t.length:=by
 unfold jn at h
 split at h
 ·rename_i hc
  cases h
  have:q.t=[]:=by
   unfold chkP at hq
   rw [if_pos hc.2.1] at hq
   by_cases ht:q.t≠[]∨q.n<1
   ·rw [if_pos ht] at hq;cases hq
   ·by_cases h9:q.t=[]
    ·exact h9
    ·exact absurd (.inl h9) ht
  simp [this]
 ·split at h
  ·cases h;simp
  ·cases h
theorem nst_tx {s:Nat} {out:List Pz} {q:Pz} (hq:chkP s q=0):txL (nst out q)=txL out+q.t.length:=by
 rcases snoc_pz out with rfl|⟨L,k,rfl⟩
 ·simp [nst_nil,txL]
 ·cases hj:jn k q with
  |none=>rw [nst_none hj,txL_app _ [q]];simp [txL]
  |some k' =>
   rw [nst_join hj,txL_app,txL_app]
   have:=jn_tx hj hq
   simp [txL,this]
   omega
theorem foldl_nst_tx {s:Nat} {qs:List Pz}:∀ {out:List Pz},(∀ q∈qs,chkP s q=0)→txL (qs.foldl nst out)=txL out+txL qs:=by
 induction qs with
 |nil=>intro out _;simp [txL]
 |cons q r ih =>
  intro out h
  have h1:=ih (out:=nst out q) fun x hx=>h x (by simp [hx])
  have h2:=nst_tx (out:=out) (h q (by simp))
  have h3:txL (q::r)=q.t.length+txL r:=by simp [txL]
  simp only [List.foldl_cons]
  omega
theorem nrm_tx {s:Nat} {qs:List Pz} (h:∀ q∈qs,chkP s q=0):txL (nrm qs)=txL qs:=by have:=foldl_nst_tx (out:=[]) h;simpa [nrm,txL] using this
theorem nst_lt {out:List Pz} {q:Pz} (h:∀ x∈out,∀ b∈x.t,b<256) (hq:∀ b∈q.t,b<256):∀ x∈nst out q,∀ b∈x.t,b<256:=by
 rcases snoc_pz out with rfl|⟨L,k,rfl⟩
 ·intro x hx;simp [nst_nil] at hx;subst hx;exact hq
 ·have hk:=h k (by simp)
  cases hj:jn k q with
  |none =>
   rw [nst_none hj]
   intro x hx
   rcases List.mem_append.1 hx with hx|hx
   ·exact h x hx
   ·simp at hx;subst hx;exact hq
  |some k' =>
   rw [nst_join hj]
   intro x hx
   rcases List.mem_append.1 hx with hx|hx
   ·exact h x (by simp [hx])
   ·simp at hx
    subst hx
    unfold jn at hj
    split at hj
    ·cases hj;exact hk
    ·split at hj
     ·cases hj
      intro b hb
      rcases List.mem_append.1 hb with hb|hb
      ·exact hk b hb
      ·exact hq b hb
     ·cases hj
theorem foldl_nst_lt {qs:List Pz}:∀ {out:List Pz},(∀ x∈out,∀ b∈x.t,b<256)→(∀ q∈qs,∀ b∈q.t,b<256)→∀ x∈qs.foldl nst out,∀ b∈x.t,b<256:=by
 induction qs with
 |nil=>intro out h _;exact h
 |cons q r ih=>intro out h hq;exact ih (nst_lt h (hq q (by simp))) fun x hx=>hq x (by simp [hx])
theorem nrm_lt {qs:List Pz} (h:∀ q∈qs,∀ b∈q.t,b<256):∀ q∈nrm qs,∀ b∈q.t,b<256:=foldl_nst_lt (by simp) h
end
section
open Go.RowKit Go.Maps
attribute [local go_sem] InGr strB_size
theorem same_c {v1 v2:Value} {ps:List Pi} (hn:ps.length≤65536) (w:World) (h1:(rowsA encPi 98 4 v1 ps).ho w) (h2:(rowsA encPi 98 4 v2 ps).ho w) :
  Calls Tryz.prog 28 #[v1,v2] w fun e w'=>e=.returned (.bool true)∧St w [] [] w':=by
 have H:=St.nil w []
 obtain ⟨n,hnn⟩:∃ n,ps.length=n:=⟨_,rfl⟩
 obtain ⟨ad1,c1,rfl,_⟩:=rowsA_shape h1
 obtain ⟨ad2,c2,rfl,_⟩:=rowsA_shape h2
 rw [hnn] at h1 h2 hn ⊢
 have HRW:Hid (∀ (i:Nat) (a:Pi),ps[i]?=some a→∃ g1 g2,ad1=some ⟨g1,0,none⟩∧ad2=some ⟨g2,0,none⟩∧(∀ w,(rowsA encPi 98 4 (.slice ad1 n c1) ps).ho w→w.rangeAt g1 (i*4) [.bool a.c,.int .i64 a.f,.int .i64 a.n,.int .i64 a.id])∧∀ w,(rowsA encPi 98 4 (.slice ad2 n c2) ps).ho w→w.rangeAt g2 (i*4) [.bool a.c,.int .i64 a.f,.int .i64 a.n,.int .i64 a.id]):=Lib.hid fun i a hi=>by
  obtain ⟨g1,c8,e1,_⟩:=rowsA_cases h1 (by have:=gelt hi;omega)
  obtain ⟨g2,c9,e2,_⟩:=rowsA_cases h2 (by have:=gelt hi;omega)
  injection e1 with e1 _ _
  injection e2 with e2 _ _
  exact ⟨g1,g2,e1,e2,fun w h=>by rw [e1] at h;exact rowsA_rng h encPi_len hi,fun w h=>by rw [e2] at h;exact rowsA_rng h encPi_len hi⟩
 have HK:Ks w [] [rowsA encPi 98 4 (.slice ad1 n c1) ps,rowsA encPi 98 4 (.slice ad2 n c2) ps]:=Ks.two h1 h2
 have HN:=Lib.hid hnn
 clear h1 h2 hnn
 go_enter Tryz.func28,Tryz.ntmps28
 go_wp2_with (first|refine sL ?_|(refine sS ?_;clear H;intros;rename_i H))
 go_loopg [5] n (fun m v wr=>∃ i:Nat,m=n-i∧i≤n∧v=.int .i64 i∧St w [] [] wr)
 case atStart=>exact ⟨0,rfl,Nat.zero_le _,rfl,H.nix⟩
 case round =>
  clear H
  obtain ⟨i,rfl,hik,rfl,H⟩:=hrel
  by_cases hlt:i<n
  ·obtain ⟨p,hp⟩:∃ a,ps[i]?=some a:=⟨_,List.getElem?_eq_getElem (by rw [HN.out];exact hlt)⟩
   obtain ⟨g1,g2,rfl,rfl,r1,r2⟩:=HRW.out i p hp
   have d5:decide ((i:Int)<(n:Int))=true:=by simp;omega
   have d5n:decide (i<n)=true:=by simp;omega
   have R1:=Lib.hid r1
   have R2:=Lib.hid r2
   have hil:=hlt
   obtain ⟨pc,pf,pn,pd⟩:=p
   simp only at R1 R2
   clear r1 r2 hp hlt
   go_wp2_with (first|refine sL ?_|(refine sS ?_;clear H;intros;rename_i H))
   refine wp_region_h H 9 [] [] (by kernel_rfl) (by kernel_rfl) ?_
   apply Exists.intro
   refine ⟨fun w1 hw1 HX=>?_,fun bs wr Hr=>?_⟩
   ·refine sG ?_
    repeat (first|refine sQ ?_|((with_reducible refine isQLoad ?_);first|(refine QtLoad.rngT rfl rfl rfl (fun y=>R1.out _ ((HX y).known (A:=rowsA encPi 98 4 (.slice (some ⟨g1,0,none⟩) n c1) ps) HK pk)) rfl ?_;simp only [Act.put,puA,puB,puC])|(refine QtLoad.rngT rfl rfl rfl (fun y=>R2.out _ ((HX y).known (A:=rowsA encPi 98 4 (.slice (some ⟨g2,0,none⟩) n c2) ps) HK pk)) rfl ?_;simp only [Act.put,puA,puB,puC]))|go_big_quiet_step (fail))
    exact wpQuiet_nil rfl
   clear H
   have H:=Hr
   clear Hr
   replace H:=sH H;refine sT ?_
   go_wp2_with (first|refine sL ?_|(refine sS ?_;clear H;intros;rename_i H))
   go_roundg (n-(i+1))
   case measure=>omega
   case rel=>exact ⟨i+1,rfl,by omega,rfl,H.nix⟩
  ·have d5:decide ((i:Int)<(n:Int))=false:=by simp;omega
   have d5n:decide (i<n)=false:=by simp;omega
   clear hlt
   go_wp2_with (first|refine sL ?_|(refine sS ?_;clear H;intros;rename_i H))
   go_ret
   exact ⟨rfl,H.nix⟩
end
end Go.Proofs.YtgnppnokkdghcaaGreatDoor
