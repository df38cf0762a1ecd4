/-
  DeltaErrors: the given tied card: for every input the law returns true and leaves its arguments; the library's table is tied to the program's text by the given tie. No condition beyond the statement's own.
-/
import Derived.Test.YtgnppnokkdghcaaGreatDoorAe1
import Derived.ChangeMaps5
import Derived.ChangeOld
import Derived.Deep.Slices
import Derived.LaidMore
import Derived.Laws.Concat
import Derived.Laws.IdiomStrings
import Derived.Laws.Rows
import Derived.Lib.SmallJoins
import Derived.OpenShut
import Derived.ProofKit
import Derived.SevenTiedAt
import Derived.ShutString
import Derived.SizedLaws
import Derived.Stop.Joined
import Derived.Test.YtgnppnokkdghcaaGreatDoorCards
import Derived.Test.YtgnppnokkdghcaaGreatDoorTie
set_option linter.unusedSimpArgs false
set_option linter.unusedVariables false
set_option maxRecDepth 100000
set_option maxHeartbeats 80000000
namespace Go.Proofs.YtgnppnokkdghcaaGreatDoor
section
open Go.RowKit Go.Maps
attribute [local go_sem] InGr
theorem chk_pos {size:Nat} {q:Pz} (h:chkP size q = 0):0≤q.n∧(q.c = true→1≤q.n∧0≤q.f∧q.f + q.n≤size):=by
 unfold chkP at h
 split at h
 ·split at h
  ·omega
  ·split at h
   ·rename_i h1 h2 h3
    exact ⟨by omega,fun _=>⟨by omega,by omega,by omega⟩⟩
   ·omega
 ·split at h
  ·omega
  ·rename_i h1 h2
   exact ⟨by omega,fun h=>absurd h h1⟩
theorem szL_take_succ {l:List Pz} {i:Nat} {q:Pz} (h:l[i]? = some q):szL (l.take (i + 1)) = szL (l.take i) + szP q:=by
 unfold szL
 rw [List.take_add_one,h]
 simp
theorem szL_take (l:List Pz) (i:Nat):szL (l.take i)≤szL l:=by
 unfold szL
 have h:l.take i ++ l.drop i = l:=List.take_append_drop i l
 have h2:=congrArg (fun l:List Pz=>(l.map szP).sum) h
 simp only [List.map_append,List.sum_append] at h2
 omega
def CkRel1 (X:Px) (N:List Nat) (w:World) (qs:List Pz) (size n m:Nat) (v:Value) (wr:World):Prop :=
 ∃ (i:Nat) (X1:Px),m = n - i∧i≤n∧v = .int .i64 i∧(X.Ext X1∧PxOk X1∧X1.S = X.S∧∀ j q,j < i→qs[j]? = some q→chkP size q = 0)∧St w N [pA X1] wr
def CkRel2 (X:Px) (N:List Nat) (w:World) (qs:List Pz) (n m:Nat) (v1 v:Value) (wr:World):Prop :=
 ∃ (i sm:Nat),m = n - i∧i≤n∧v1 = .int .i64 sm∧v = .int .i64 i∧sm = szL (qs.take i)∧St w N [pA X] wr
theorem check_d {X:Px} {b:Nat} {s:List Tr} {ps:List Pi} {qs:List Pz} {ad:Option Addr} {c:Nat} (hX:PxOk X) (hd:IdIs X.S b s) (hps:PiL X.S ps qs) (hn:ps.length≤65536) (hs:s.length≤1048576) (htot:chkL s.length qs = 0→szL qs≤1048576) (w:World) (h:PH X w) (hr:((pA X).sep (rowsA encPi 98 4 (.slice ad ps.length c) ps)).ho w) :
  Calls Tryz.prog 21 #[.pointer (some ⟨X.p,0,none⟩),.int .i64 b,.slice ad ps.length c] w (PPost X (erN (chkL s.length qs)) (pA X).fp w):=by
 have h:((pA X).sep deA).ho w:=h
 rw [sep_ho] at h hr
 have H:=St.one h.1
 have HK:Ks w (pA X).fp [deA,(rowsA encPi 98 4 (.slice ad ps.length c) ps)]:=⟨fun A hA=>by
   simp at hA
   rcases hA with rfl | rfl
   ·exact h.2.1
   ·exact hr.2.1,fun A hA b hbA hm=>by
   simp at hA
   rcases hA with rfl | rfl
   ·exact h.2.2 b hm hbA
   ·exact hr.2.2 b hm hbA⟩
 generalize (pA X).fp = N at *
 clear h hr
 obtain ⟨n,hnn⟩:∃ n,ps.length = n:=⟨_,rfl⟩
 have hsl:=hps.len
 rw [hnn] at hsl hn HK ⊢
 have HRW:Hid (∀ (i:Nat) (a:Pi),ps[i]? = some a→∃ g,ad = some ⟨g,0,none⟩∧∀ w,(rowsA encPi 98 4 (.slice ad n c) ps).ho w→w.rangeAt g (i * 4) [.bool a.c,.int .i64 a.f,.int .i64 a.n,.int .i64 a.id]):=Lib.hid fun i a hi=>by
  obtain ⟨g,c8,e1,_⟩:=rowsA_cases (HK.ho (rowsA encPi 98 4 (.slice ad n c) ps) (by simp)) (by have:=gelt hi;omega)
  injection e1 with e1 _ _
  exact ⟨g,e1,fun w h=>by rw [e1] at h;exact rowsA_rng h encPi_len hi⟩
 obtain ⟨size,hsz⟩:∃ n,s.length = n:=⟨_,rfl⟩
 rw [hsz] at hs htot ⊢
 have HBS:Hid (∀ w,((pA X).sep deA).ho w→Calls Tryz.prog 59 #[.pointer (some ⟨X.p,0,none⟩),.int .i64 b] w fun e w'=>∃ X':Px,e = .returned (.tuple #[.int .i64 (size:Nat),.nilIface])∧X.Ext X'∧PxOk X'∧X'.S = X.S∧St w (pA X).fp [pA X'] w'):=Lib.hid fun w h=>by
  refine (baseSize_c hX hd w h).mono ?_
  rintro e w' ⟨X',y1,y2,y3,rfl,y5⟩
  exact ⟨X',by rw [hsz],y1,y2,y3,y5⟩
 have HCP:Hid (∀ (X1:Px) (p:Pi) (q:Pz) (k:Nat),X.Ext X1→PxOk X1→X1.S = X.S→PiOk X.S p q→chkP size q = k→∀ w,((pA X1).sep deA).ho w→Calls Tryz.prog 60 #[.pointer (some ⟨X.p,0,none⟩),.int .i64 (size:Nat),.agg #[.bool p.c,.int .i64 p.f,.int .i64 p.n,.int .i64 p.id]] w fun e w'=>∃ X':Px,e = .returned (erN k)∧X1.Ext X'∧PxOk X'∧X'.S = X1.S∧St w (pA X1).fp [pA X'] w'):=Lib.hid fun X1 p q k q1 q2 q3 q4 q5 w h=>by
  have:=checkPiece_c (size:=size) q2 (by rw [q3];exact q4) hs w h
  rw [q1.p,q5] at this
  refine this.mono ?_
  rintro e w' ⟨X',y1,y2,y3,rfl,y5⟩
  exact ⟨X',rfl,y1,y2,y3,y5⟩
 have HPS:Hid (∀ (X1:Px) (p:Pi) (q:Pz) (k:Nat),X.Ext X1→PxOk X1→X1.S = X.S→PiOk X.S p q→0≤q.n→szP q = k→∀ w,(pA X1).ho w→Calls Tryz.prog 58 #[.pointer (some ⟨X.p,0,none⟩),.agg #[.bool p.c,.int .i64 p.f,.int .i64 p.n,.int .i64 p.id]] w fun e w'=>e = .returned (.tuple #[.int .i64 (k:Nat),.nilIface])∧St w [] [] w'):=Lib.hid fun X1 p q k q1 q2 q3 q4 q5 q6 w h=>by
  have:=pieceSize_c q2 (by rw [q3];exact q4) q5 w h
  rwa [q1.p,q6] at this
 have HAD:Hid (∀ (a b s:Nat),a + b = s→s≤1048576→∀ w,Calls Tryz.prog 61 #[.int .i64 (a:Nat),.int .i64 (b:Nat)] w fun e w'=>e = .returned (.tuple #[.int .i64 (s:Nat),.nilIface])∧w' = w):=Lib.hid fun a b s e hs w=>by rw [← e];exact add_ok_e a b w (show a + b≤1152921504606846976 by omega)
 have HIN:Hid (PiL X.S ps qs∧ps.length = n∧qs.length = n∧(chkL size qs = 0→szL qs≤1048576)∧PxOk X):=Lib.hid ⟨hps,hnn,by omega,htot,hX⟩
 clear hX hd hps htot hnn hsl hsz
 go_enter Tryz.func21,Tryz.ntmps21
 go_wp2_with (first | refine sL ?_ | (refine sS ?_;clear H;intros;rename_i H) | (go_at_call 59;with_reducible refine Calls.mono (HBS.out _ (H.sepK (A:=pA X) HK pk pk)) ?_;rintro e9 wc ⟨X0,rfl,y1,y2,y3,hb⟩;have HX0:=Lib.hid (And.intro y1 (And.intro y2 y3));clear y1 y2 y3;replace H:=(H.pick (A:=pA X) pk).call hb;clear hb;simp only [List.cons_append,List.nil_append] at H))
 go_loopg [28] n (fun m v1 wr=>CkRel1 X N w qs size n m v1 wr)
 case atStart=>exact ⟨0,X0,rfl,Nat.zero_le _,rfl,⟨HX0.out.1,HX0.out.2.1,HX0.out.2.2,fun j q hj=>absurd hj (Nat.not_lt_zero _)⟩,H.picks (.cons (A:=pA X0) pk .nil)⟩
 case round =>
  clear H
  obtain ⟨i,X1,rfl,hik,rfl,hrel,H⟩:=hrel
  have HX1:=Lib.hid hrel
  by_cases hlt:i < n
  ·obtain ⟨p,hp⟩:∃ a,ps[i]? = some a:=⟨_,List.getElem?_eq_getElem (by rw [HIN.out.2.1];exact hlt)⟩
   obtain ⟨q,hq,hpq⟩:=HIN.out.1.get hp
   obtain ⟨g,rfl,hcell⟩:=HRW.out i p hp
   have d5:decide ((i:Int) < (n:Int)) = true:=by simp;omega
   have d5n:decide (i < n) = true:=by simp;omega
   have HRX:=Lib.hid hcell
   obtain ⟨k,hk⟩:∃ k,chkP size q = k:=⟨_,rfl⟩
   have HCX:=Lib.hid (HCP.out X1 p q k HX1.out.1 HX1.out.2.1 HX1.out.2.2.1 hpq hk)
   have HKQ:Hid (qs[i]? = some q∧chkP size q = k):=Lib.hid ⟨hq,hk⟩
   obtain ⟨pc,pf,pn,id⟩:=p
   simp only at HRX HCX
   clear hrel hp hq hpq hcell hk
   unfold erN at HCX
   by_cases hk0:k = 0
   ·rw [if_pos hk0] at HCX
    subst hk0
    go_wp2_with (first | refine sL ?_ | (refine sS ?_;clear H;intros;rename_i H) | (go_at_call 60;with_reducible refine Calls.mono (HCX.out _ (H.sepK (A:=pA X1) HK pk pk)) ?_;rintro e9 wc ⟨X2,rfl,y1,y2,y3,hb⟩;have HZ:=Lib.hid (And.intro y1 (And.intro y2 y3));clear y1 y2 y3;replace H:=(H.pick (A:=pA X1) pk).call hb;clear hb;simp only [List.cons_append,List.nil_append] at H) | ((with_reducible refine isLoad ?_);refine AtLoad.rngT rfl rfl rfl (HRX.out _ (H.known HK (A:=rowsA encPi 98 4 (.slice (some ⟨g,0,none⟩) n c) ps) pk)) rfl ?_;simp only [Act.put,puA,puB,puC]))
    go_roundg (n - (i + 1))
    case measure=>omega
    case rel =>
     refine ⟨i + 1,X2,rfl,by omega,rfl,⟨HX1.out.1.trans HZ.out.1,HZ.out.2.1,HZ.out.2.2.trans HX1.out.2.2.1,fun j q' hj hq'=>?_⟩,H.picks (.cons (A:=pA X2) pk .nil)⟩
     rcases Nat.lt_or_ge j i with h9 | h9
     ·exact HX1.out.2.2.2 j q' h9 hq'
     ·obtain rfl:j = i:=by omega
      rw [HKQ.out.1] at hq'
      injection hq' with hq'
      rw [← hq'];exact HKQ.out.2
   ·rw [if_neg hk0] at HCX
    have HFI:Hid (chkL size qs = k):=Lib.hid (by
     rw [← HKQ.out.2]
     exact chkL_first HX1.out.2.2.2 HKQ.out.1 (by rw [HKQ.out.2];exact hk0))
    have HER:Hid (erN (chkL size qs) = .iface 73 (.int .i64 (k:Nat))):=Lib.hid (by rw [HFI.out];simp [erN,hk0])
    rw [HER.out]
    clear hk0
    go_wp2_with (first | refine sL ?_ | (refine sS ?_;clear H;intros;rename_i H) | (go_at_call 60;with_reducible refine Calls.mono (HCX.out _ (H.sepK (A:=pA X1) HK pk pk)) ?_;rintro e9 wc ⟨X2,rfl,y1,y2,y3,hb⟩;have HZ:=Lib.hid (And.intro y1 (And.intro y2 y3));clear y1 y2 y3;replace H:=(H.pick (A:=pA X1) pk).call hb;clear hb;simp only [List.cons_append,List.nil_append] at H) | ((with_reducible refine isLoad ?_);refine AtLoad.rngT rfl rfl rfl (HRX.out _ (H.known HK (A:=rowsA encPi 98 4 (.slice (some ⟨g,0,none⟩) n c) ps) pk)) rfl ?_;simp only [Act.put,puA,puB,puC]))
    go_ret
    exact ⟨X2,HX1.out.1.trans HZ.out.1,HZ.out.2.1,HZ.out.2.2.trans HX1.out.2.2.1,rfl,H.picks (.cons (A:=pA X2) pk .nil)⟩
  ·have d5:decide ((i:Int) < (n:Int)) = false:=by simp;omega
   have d5n:decide (i < n) = false:=by simp;omega
   have hall:∀ q∈qs,chkP size q = 0:=fun q hq=>by
    obtain ⟨j,hj,e⟩:=List.getElem_of_mem hq
    exact HX1.out.2.2.2 j q (by have:=HIN.out.2.2.1;omega) (by rw [List.getElem?_eq_getElem hj,e])
   have hz:=chkL_zero.2 hall
   have HALL:Hid ((∀ q∈qs,chkP size q = 0)∧szL qs≤1048576):=Lib.hid ⟨hall,HIN.out.2.2.2.1 hz⟩
   have HE0:Hid (erN (chkL size qs) = .nilIface):=Lib.hid (by rw [hz];rfl)
   clear hrel hall hz
   go_wp2_with (first | refine sL ?_ | (refine sS ?_;clear H;intros;rename_i H))
   go_loopg [12,42] n (fun m v1 v2 wr=>CkRel2 X1 N w qs n m v1 v2 wr)
   case atStart=>exact ⟨0,0,rfl,Nat.zero_le _,rfl,rfl,by simp [szL],H.picks (.cons (A:=pA X1) pk .nil)⟩
   case round =>
    clear H d5 d5n hlt hik
    obtain ⟨i,sm,rfl,hik,rfl,rfl,hsm,H⟩:=hrel
    by_cases hlt:i < n
    ·obtain ⟨p,hp⟩:∃ a,ps[i]? = some a:=⟨_,List.getElem?_eq_getElem (by rw [HIN.out.2.1];exact hlt)⟩
     obtain ⟨q,hq,hpq⟩:=HIN.out.1.get hp
     obtain ⟨g,rfl,hcell⟩:=HRW.out i p hp
     have d5:decide ((i:Int) < (n:Int)) = true:=by simp;omega
     have d5n:decide (i < n) = true:=by simp;omega
     have HRX:=Lib.hid hcell
     obtain ⟨k,hk⟩:∃ k,szP q = k:=⟨_,rfl⟩
     have HCX:=Lib.hid (HPS.out X1 p q k HX1.out.1 HX1.out.2.1 HX1.out.2.2.1 hpq (chk_pos (HALL.out.1 q (List.mem_of_getElem? hq))).1 hk)
     obtain ⟨sm2,hsm2⟩:∃ n,sm + k = n:=⟨_,rfl⟩
     have HS2:Hid (sm + k = sm2∧sm2≤1048576∧sm2 = szL (qs.take (i + 1))):=Lib.hid (by
      have h1:=szL_take_succ hq
      have h2:=szL_take qs (i + 1)
      have h3:=HALL.out.2
      omega)
     obtain ⟨pc,pf,pn,id⟩:=p
     simp only at HRX HCX
     clear hp hq hpq hcell hk hsm2 hsm
     go_wp2_with (first | refine sL ?_ | (refine sS ?_;clear H;intros;rename_i H) | (go_at_call 58;with_reducible refine Calls.mono (HCX.out _ (H.get (A:=pA X1) pk)) ?_;rintro e9 wc ⟨rfl,hb⟩;replace H:=H.grew hb.below;clear hb) | (go_at_call 61;with_reducible refine same (HAD.out sm k sm2 HS2.out.1 HS2.out.2.1 _) ?_) | ((with_reducible refine isLoad ?_);refine AtLoad.rngT rfl rfl rfl (HRX.out _ (H.known HK (A:=rowsA encPi 98 4 (.slice (some ⟨g,0,none⟩) n c) ps) pk)) rfl ?_;simp only [Act.put,puA,puB,puC]))
     go_roundg (n - (i + 1))
     case measure=>omega
     case rel=>exact ⟨i + 1,sm2,rfl,by omega,rfl,rfl,HS2.out.2.2,H.picks (.cons (A:=pA X1) pk .nil)⟩
    ·have d5:decide ((i:Int) < (n:Int)) = false:=by simp;omega
     have d5n:decide (i < n) = false:=by simp;omega
     clear hsm
     go_wp2_with (first | refine sL ?_ | (refine sS ?_;clear H;intros;rename_i H))
     go_ret
     exact ⟨X1,HX1.out.1,HX1.out.2.1,HX1.out.2.2.1,by rw [HE0.out];rfl,H.picks (.cons (A:=pA X1) pk .nil)⟩
def apP (base:List Nat) (q:Pz):List Nat:=if q.c then (base.drop q.f.toNat).take q.n.toNat else q.t
def apL (base:List Nat) (qs:List Pz):List Nat:=qs.flatMap (apP base)
theorem apP_len {base:List Nat} {q:Pz} (h:chkP base.length q = 0):(apP base q).length = szP q:=by
 have:=chk_pos h
 unfold apP szP
 split
 ·rename_i hc
  have:=this.2 hc
  simp
  omega
 ·rfl
theorem apL_len {base:List Nat}:∀ {qs:List Pz},(∀ q∈qs,chkP base.length q = 0)→(apL base qs).length = szL qs
 |[],_=>rfl
 |q :: r,h=>by
  have h1:=apL_len (base:=base) (qs:=r) fun x hx=>h x (by simp [hx])
  have h2:=apP_len (h q (by simp))
  unfold apL szL at h1 ⊢
  simp [h1,h2]
def apS (base:List Nat) (qs:List Pz):List (List Tr):=qs.map fun q=>(apP base q).map Tr.leaf
theorem apS_flat (base:List Nat):∀ qs:List Pz,(apS base qs).flatten = (apL base qs).map Tr.leaf
 |[]=>rfl
 |q :: r=>by
  have:=apS_flat base r
  unfold apS apL at this ⊢
  simp [this]
def ApRel (X:Px) (N:List Nat) (w:World) (base:List Nat) (qs:List Pz) (n m:Nat) (v1 v:Value) (wr:World):Prop :=
 ∃ (i:Nat) (X1:Px) (ids:List Nat),m = n - i∧i≤n∧v = .int .i64 i∧(ids.length = i∧IdL X1.S ids (apS base (qs.take i))∧X.Ext X1∧PxOk X1∧X1.S.list.length≤X.S.list.length + i * (2 * base.length))∧St w N [pA X1,rowsA encI 26 1 v1 ids] wr
end
section
open Go.RowKit Go.Maps
attribute [local go_sem] InGr
theorem apply_c {X:Px} {b:Nat} {base:List Nat} {ps:List Pi} {qs:List Pz} {ad:Option Addr} {c:Nat} (hX:PxOk X) (hd:IdIs X.S b (base.map Tr.leaf)) (hps:PiL X.S ps qs) (hn:ps.length≤1024) (hs:base.length≤1048576) (hz:chkL base.length qs = 0) (htot:szL qs≤1048576) (hroom:X.S.list.length + ps.length * (2 * base.length) + ps.length * szL qs≤X.S.most) (w:World) (h:PH X w) (hr:((pA X).sep (rowsA encPi 98 4 (.slice ad ps.length c) ps)).ho w) :
  Calls Tryz.prog 18 #[.pointer (some ⟨X.p,0,none⟩),.int .i64 b,.slice ad ps.length c] w (IdPost X ((apL base qs).map Tr.leaf) (ps.length * (2 * base.length) + ps.length * szL qs) (pA X).fp w):=by
 have h:((pA X).sep deA).ho w:=h
 rw [sep_ho] at h hr
 have H:=St.one h.1
 have HK:Ks w (pA X).fp [deA,(rowsA encPi 98 4 (.slice ad ps.length c) ps)]:=⟨fun A hA=>by
   simp at hA
   rcases hA with rfl | rfl
   ·exact h.2.1
   ·exact hr.2.1,fun A hA b hbA hm=>by
   simp at hA
   rcases hA with rfl | rfl
   ·exact h.2.2 b hm hbA
   ·exact hr.2.2 b hm hbA⟩
 generalize (pA X).fp = N at *
 clear h hr
 obtain ⟨n,hnn⟩:∃ n,ps.length = n:=⟨_,rfl⟩
 have hsl:=hps.len
 rw [hnn] at hsl hn HK ⊢
 have HCK:Hid (∀ w,((pA X).sep deA).ho w→((pA X).sep (rowsA encPi 98 4 (.slice ad n c) ps)).ho w→Calls Tryz.prog 21 #[.pointer (some ⟨X.p,0,none⟩),.int .i64 b,.slice ad n c] w (PPost X .nilIface (pA X).fp w)):=Lib.hid fun w h h2=>by
  rw [← hnn] at h2 hn ⊢
  have:=check_d hX hd hps (by omega) (by simp;exact hs) (fun _=>htot) w h h2
  rw [List.length_map,hz] at this
  simpa [erN] using this
 have HRW:Hid (∀ (i:Nat) (a:Pi),ps[i]? = some a→∃ g,ad = some ⟨g,0,none⟩∧∀ w,(rowsA encPi 98 4 (.slice ad n c) ps).ho w→w.rangeAt g (i * 4) [.bool a.c,.int .i64 a.f,.int .i64 a.n,.int .i64 a.id]):=Lib.hid fun i a hi=>by
  obtain ⟨g,c8,e1,_⟩:=rowsA_cases (HK.ho (rowsA encPi 98 4 (.slice ad n c) ps) (by simp)) (by have:=gelt hi;omega)
  injection e1 with e1 _ _
  exact ⟨g,e1,fun w h=>by rw [e1] at h;exact rowsA_rng h encPi_len hi⟩
 have hall:=chkL_zero.1 hz
 obtain ⟨bl,hbl⟩:∃ n,base.length = n:=⟨_,rfl⟩
 obtain ⟨tot,htt⟩:∃ n,szL qs = n:=⟨_,rfl⟩
 rw [hnn,hbl,htt] at hroom
 rw [hbl,htt]
 rw [hbl] at hs
 rw [htt] at htot
 have HSE:Hid (∀ (X2:Px) (f m:Nat),X.Ext X2→PxOk X2→f + m≤bl→X2.S.list.length + 2 * bl≤X.S.most→∀ w,((pA X2).sep deA).ho w→Calls Tryz.prog 56 #[.pointer (some ⟨X.p,0,none⟩),.int .i64 b,.int .i64 (f:Nat),.int .i64 (m:Nat)] w (IdPost X2 (((base.drop f).take m).map Tr.leaf) (2 * bl) (pA X2).fp w)):=Lib.hid fun X2 f m q1 q2 q3 q4 w h=>by
  have hm:X2.S.most = X.S.most:=q1.le.1
  have:=Section_ok q2 (hd.le hX.ok q1.le) (from_:=f) (n:=m) (by simp;omega) (by simp;omega) (by rw [hm];simp;omega) w h
  rw [q1.p,List.length_map,hbl,← List.map_drop,← List.map_take] at this
  exact this
 have HCC:Hid (∀ (X2:Px) (ids:List Nat) (ad2:Option Addr) (c2:Nat),X.Ext X2→PxOk X2→ids.length = n→IdL X2.S ids (apS base qs)→X2.S.list.length + n * tot≤X.S.most→∀ w,((pA X2).sep deA).ho w→((pA X2).sep (rowsA encI 26 1 (.slice ad2 n c2) ids)).ho w→Calls Tryz.prog 57 #[.pointer (some ⟨X.p,0,none⟩),.slice ad2 n c2] w (IdPost X2 ((apL base qs).map Tr.leaf) (n * tot) (pA X2).fp w)):=Lib.hid fun X2 ids ad2 c2 q1 q2 q3 q4 q5 w h h2=>by
  have hm:X2.S.most = X.S.most:=q1.le.1
  have htl:totL (apS base qs) = tot:=by
   unfold totL
   rw [apS_flat,List.length_map,apL_len hall,htt]
  have:=concat_c (ad:=ad2) (c:=c2) q2 q4 (by omega) (by rw [htl];omega) (by rw [htl,q3,hm];exact q5) w h (by rw [q3];exact h2)
  rw [q1.p,q3,htl,apS_flat] at this
  exact this
 have HIN:Hid (PiL X.S ps qs∧ps.length = n∧qs.length = n∧(∀ q∈qs,chkP base.length q = 0)∧PxOk X∧base.length = bl∧X.S.list.length + n * (2 * bl) + n * tot≤X.S.most):=Lib.hid ⟨hps,hnn,by omega,hall,hX,hbl,hroom⟩
 clear hX hd hps hz htot hnn hsl hall hbl htt hroom
 go_enter Tryz.func18,Tryz.ntmps18
 go_wp2_with (first | refine sL ?_ | (refine sS ?_;clear H;intros;rename_i H) | (go_at_call 21;with_reducible refine Calls.mono (HCK.out _ (H.sepK (A:=pA X) HK pk pk) (H.sepK (A:=pA X) (B:=rowsA encPi 98 4 (.slice ad n c) ps) HK pk pk)) ?_;rintro e9 wc ⟨X0,y1,y2,y3,rfl,hb⟩;have HX0:=Lib.hid (And.intro y1 (And.intro y2 y3));clear y1 y2 y3;replace H:=(H.pick (A:=pA X) pk).call hb;clear hb;simp only [List.cons_append,List.nil_append] at H))
 replace H:=H.empty (A:=rowsA encI 26 1 (.slice none 0 0) []) (rowsA_nil _) (by rw [rowsA_fp'];rfl)
 go_loopg [9,23] n (fun m v1 v2 wr=>ApRel X N w base qs n m v1 v2 wr)
 case atStart=>exact ⟨0,X0,[],rfl,Nat.zero_le _,rfl,⟨rfl,trivial,HX0.out.1,HX0.out.2.1,by rw [HX0.out.2.2];omega⟩,H.picks (.cons (A:=pA X0) pk (.cons (A:=rowsA encI 26 1 (.slice none 0 0) []) pk .nil))⟩
 case round =>
  clear H
  obtain ⟨i,X1,ids,rfl,hik,rfl,hrel,H⟩:=hrel
  have HX1:=Lib.hid hrel
  obtain ⟨ad2,c2,rfl,_⟩:=rowsA_shape (H.get (A:=rowsA encI 26 1 _ ids) pk)
  by_cases hlt:i < n
  ·obtain ⟨p,hp⟩:∃ a,ps[i]? = some a:=⟨_,List.getElem?_eq_getElem (by rw [HIN.out.2.1];exact hlt)⟩
   obtain ⟨q,hq,hpq⟩:=HIN.out.1.get hp
   obtain ⟨g,rfl,hcell⟩:=HRW.out i p hp
   have hck:=HIN.out.2.2.2.1 q (List.mem_of_getElem? hq)
   have d5:decide ((i:Int) < (n:Int)) = true:=by simp;omega
   have d5n:decide (i < n) = true:=by simp;omega
   have HRX:=Lib.hid hcell
   have hlim:X1.S.list.length + 2 * bl≤X.S.most∧i≤65536:=by
    have h1:=hrel.2.2.2.2
    have h2:=HIN.out.2.2.2.2.2.2
    have h3:(i + 1) * (2 * bl)≤n * (2 * bl):=Nat.mul_le_mul_right _ (by omega)
    rw [HIN.out.2.2.2.2.2.1] at h1
    rw [Nat.add_mul,Nat.one_mul] at h3
    exact ⟨by omega,by omega⟩
   have HLI:=Lib.hid hlim
   have hiL:=hlim.2
   have htk:apS base (qs.take (i + 1)) = apS base (qs.take i) ++ [(apP base q).map Tr.leaf]:=by
    unfold apS
    rw [List.take_add_one,hq]
    simp
   have HTK:=Lib.hid htk
   obtain ⟨i1,hi1⟩:∃ n,i + 1 = n:=⟨_,rfl⟩
   have HI1:=Lib.hid hi1
   obtain ⟨pc,pf,pn,id⟩:=p
   obtain ⟨qc,qf,qn,qt⟩:=q
   obtain ⟨g1,g2,g3,g4⟩:=hpq
   simp only at g1 g2 g3 g4 HRX
   subst g1 g2 g3
   cases pc with
   |true =>
    obtain ⟨e1,e2⟩:=chk_pos hck
    obtain ⟨e3,e4,e5⟩:=e2 rfl
    simp only at e1 e3 e4 e5
    rw [HIN.out.2.2.2.2.2.1] at e5
    obtain ⟨f,rfl⟩:∃ f:Nat,pf = f:=⟨pf.toNat,by omega⟩
    obtain ⟨m,rfl⟩:∃ f:Nat,pn = f:=⟨pn.toNat,by omega⟩
    have HFM:Hid (f + m≤bl∧apP base ⟨true,(f:Int),(m:Int),qt⟩ = (base.drop f).take m):=Lib.hid ⟨by omega,by simp [apP]⟩
    clear hrel hp hq hcell hck hlim htk hi1 e1 e2 e3 e4 e5 g4
    go_wp2_with (first | refine sL ?_ | (refine sS ?_;clear H;intros;rename_i H) | (go_at_call 56;with_reducible refine Calls.mono (HSE.out X1 f m HX1.out.2.2.1 HX1.out.2.2.2.1 HFM.out.1 HLI.out.1 _ (H.sepK (A:=pA X1) HK pk pk)) ?_;rintro e9 wc ⟨X2,id2,rfl,y1,y2,y3,y4,hb⟩;have HZ:=Lib.hid (And.intro y1 (And.intro y2 (And.intro y3 y4)));clear y1 y2 y3 y4;replace H:=(H.pick (A:=pA X1) pk).call hb;clear hb;simp only [List.cons_append,List.nil_append] at H) | ((with_reducible refine isLoad ?_);refine AtLoad.rngT rfl rfl rfl (HRX.out _ (H.known HK (A:=rowsA encPi 98 4 (.slice (some ⟨g,0,none⟩) n c) ps) pk)) rfl ?_;simp only [Act.put,puA,puB,puC]) | ((with_reducible refine isSlice ?_);refine AtSlice.one H rfl rfl rfl rfl rfl rfl rfl rfl rfl ?_;clear H;intro b _ H;simp only [Act.put,puA,puB,puC]) | ((with_reducible refine isAppend ?_);refine AtAppend.go (enc:=encI) H rfl rfl rfl rfl rfl (by decide) (by decide) rfl pk rfl (H.at pk) [id2] rfl (by simp [flatG,encI]) encI_len encI_one (by have h1:=HX1.out.1;simp;omega) ?_;clear H;intro ad9 cp9 _ H;simp only [Act.put,puA,puB,puC]))
    go_roundg (n - (i + 1))
    case measure=>omega
    case rel =>
     have h1:=HX1.out
     have h2:=HIN.out.2.2.2.2.2.1
     have h3:=HI1.out
     refine ⟨i1,X2,ids ++ [id2],by rw [h3],by omega,by rw [← h3];go_num,⟨by simp [h1.1,h3],?_,h1.2.2.1.trans HZ.out.1,HZ.out.2.1,?_⟩,H.picks (.cons (A:=pA X2) pk (.cons (A:=rowsA encI 26 1 _ (ids ++ [id2])) pk .nil))⟩
     ·rw [← h3,HTK.out,HFM.out.2]
      exact (h1.2.1.le h1.2.2.2.1.ok HZ.out.1.le).snoc HZ.out.2.2.1
     ·have h4:=HZ.out.2.2.2
      have h5:=h1.2.2.2.2
      rw [← h3,Nat.add_mul,Nat.one_mul,h2]
      rw [h2] at h5
      omega
   |false =>
    have HID:Hid (IdIs X1.S id ((apP base ⟨false,pf,pn,qt⟩).map Tr.leaf)):=Lib.hid (by
     simp only [apP]
     exact g4.le HIN.out.2.2.2.2.1.ok hrel.2.2.1.le)
    clear hrel hp hq hcell hck hlim htk hi1 g4
    go_wp2_with (first | refine sL ?_ | (refine sS ?_;clear H;intros;rename_i H) | ((with_reducible refine isLoad ?_);refine AtLoad.rngT rfl rfl rfl (HRX.out _ (H.known HK (A:=rowsA encPi 98 4 (.slice (some ⟨g,0,none⟩) n c) ps) pk)) rfl ?_;simp only [Act.put,puA,puB,puC]) | ((with_reducible refine isSlice ?_);refine AtSlice.one H rfl rfl rfl rfl rfl rfl rfl rfl rfl ?_;clear H;intro b _ H;simp only [Act.put,puA,puB,puC]) | ((with_reducible refine isAppend ?_);refine AtAppend.go (enc:=encI) H rfl rfl rfl rfl rfl (by decide) (by decide) rfl pk rfl (H.at pk) [id] rfl (by simp [flatG,encI]) encI_len encI_one (by have h1:=HX1.out.1;simp;omega) ?_;clear H;intro ad9 cp9 _ H;simp only [Act.put,puA,puB,puC]))
    go_roundg (n - (i + 1))
    case measure=>omega
    case rel =>
     have h1:=HX1.out
     have h3:=HI1.out
     refine ⟨i1,X1,ids ++ [id],by rw [h3],by omega,by rw [← h3];go_num,⟨by simp [h1.1,h3],?_,h1.2.2.1,h1.2.2.2.1,?_⟩,H.picks (.cons (A:=pA X1) pk (.cons (A:=rowsA encI 26 1 _ (ids ++ [id])) pk .nil))⟩
     ·rw [← h3,HTK.out]
      exact h1.2.1.snoc HID.out
     ·have h5:=h1.2.2.2.2
      rw [← h3,Nat.add_mul,Nat.one_mul]
      omega
  ·have d5:decide ((i:Int) < (n:Int)) = false:=by simp;omega
   have d5n:decide (i < n) = false:=by simp;omega
   have hin:i = n:=by omega
   subst hin
   have HCX:=Lib.hid (HCC.out X1 ids ad2 c2 hrel.2.2.1 hrel.2.2.2.1 hrel.1 (by
    have:=hrel.2.1
    rwa [List.take_of_length_le (by rw [HIN.out.2.2.1];exact Nat.le_refl _)] at this) (by
    have h1:=hrel.2.2.2.2
    have h2:=HIN.out.2.2.2.2.2.2
    rw [HIN.out.2.2.2.2.2.1] at h1
    omega))
   rw [hrel.1] at H ⊢
   clear hrel hlt
   go_wp2_with (first | refine sL ?_ | (refine sS ?_;clear H;intros;rename_i H) | (go_at_call 57;with_reducible refine Calls.mono (HCX.out _ (H.sepK (A:=pA X1) HK pk pk) (H.sepO (A:=pA X1) (B:=rowsA encI 26 1 (.slice ad2 i c2) ids) pk pk)) ?_;rintro e9 wc ⟨X2,id2,rfl,y1,y2,y3,y4,hb⟩;have HZ:=Lib.hid (And.intro y1 (And.intro y2 (And.intro y3 y4)));clear y1 y2 y3 y4;replace H:=(H.pick (A:=pA X1) pk).call hb;clear hb;simp only [List.cons_append,List.nil_append] at H))
   go_ret2
   refine ⟨X2,id2,rfl,HX1.out.2.2.1.trans HZ.out.1,HZ.out.2.1,HZ.out.2.2.1,?_,H.picks (.cons (A:=pA X2) pk .nil)⟩
   have h4:=HZ.out.2.2.2
   have h5:=HX1.out.2.2.2.2
   rw [HIN.out.2.2.2.2.2.1] at h5
   omega
end
section
open Go.RowKit Go.Maps
attribute [local go_sem] InGr
def strB (l:List Nat):ByteArray:=⟨(l.map UInt8.ofNat).toArray⟩
theorem strB_size (l:List Nat):(strB l).size = l.length:=by simp [strB,ByteArray.size]
theorem strB_cells {l:List Nat} (hl:∀ x∈l,x < 256) (cap:Nat):∀ (j:Nat) (u:Value),(flatG encT l)[j]? = some u→(bytesRow (strB l) cap)[j]? = some u:=by
 intro j u hj
 have hf:flatG encT l = l.map fun x=>(.int .u8 (x:Nat):Value):=by
  unfold flatG encT
  clear hj hl
  induction l with
  |nil=>rfl
  |cons x l ih=>rw [List.flatMap_cons,List.map_cons,ih];rfl
 rw [hf,List.getElem?_map] at hj
 cases hx:l[j]? with
 |none=>rw [hx] at hj;simp at hj
 |some x =>
  rw [hx] at hj
  simp at hj
  subst hj
  have hjl:=gelt hx
  have hx2:x < 256:=hl x (List.mem_of_getElem? hx)
  unfold bytesRow
  rw [Array.getElem?_append_left (by simp [strB];exact hjl)]
  simp only [strB,Array.getElem?_map,List.getElem?_toArray,List.getElem?_map,hx,Option.map_some]
  simp [UInt8.toNat_ofNat',Nat.mod_eq_of_lt hx2]
section
variable {ops:Array Oper} {Q:Exit→Act→World→Prop} {rest:List Oper} {a:Act} {w w0:World} {M:List Nat} {L R:List As} {o1:Oper} {dst:Option Tmp} {ty0:TypeId} {pos:String} {aft:Array Edge} {gd:Option (Nat × Bool)}
def AtBytes (P:Program) (ops:Array Oper) (Q:Exit→Act→World→Prop) (o:Oper) (_ _:TypeId) (_:Operand) (rest:List Oper) (a:Act) (w:World):Prop:=wpList P ops Q (o :: rest) a w
theorem isBytes {P:Program} {x:Operand} (h:AtBytes P ops Q ⟨dst,.convert 9 42 x,ty0,pos,aft,gd⟩ 9 42 x rest a w):wpList P ops Q (⟨dst,.convert 9 42 x,ty0,pos,aft,gd⟩ :: rest) a w:=h
theorem St.ofBytes {w0 w:World} {M:List Nat} {L:List As} {l:List Nat} {cap:Nat} {fr:Nat × Nat} (H:St w0 M L w) (hl:∀ x∈l,x < 256):St w0 M (poolA [(w.heap.size,0,flatG encT l)] :: L) (w.drew.alloc (.cells (bytesRow (strB l) cap) 5 fr)):=by
 have h1:St w0 M L w.drew:=⟨H.os,H.tape,H.output,H.size,H.keep,fun A hA=>A.loc w _ (fun _ _=>rfl) (H.ho A hA),H.own,H.dis⟩
 have h2:=h1.alloc (.cells (bytesRow (strB l) cap) 5 fr)
 refine h2.conv (by rw [poolA_fp,blk_fp];rfl) fun hb=>?_
 rw [blk_ho] at hb
 rw [poolA_ho]
 intro x hx
 simp only [List.mem_cons,List.not_mem_nil,or_false] at hx
 subst hx
 refine ⟨lt_of_block hb,fun j u hj=>?_⟩
 show (w.drew.alloc (.cells (bytesRow (strB l) cap) 5 fr)).cell? ⟨w.drew.heap.size,0 + j,none⟩ = some u
 rw [cell_of_row _ _ (0 + j) _ _ fr hb,Nat.zero_add]
 exact strB_cells hl cap j u hj
theorem AtBytes.go {x:Operand} (H:St w0 M L w) (hw:Region.wanted o1 (yielded ops a.tmps) = true) (ho:o1.op = .convert 9 42 x) (l:List Nat) (hx:evalO a x = some (.string (strB l))) (hl:∀ x∈l,x < 256) {n:Nat} (hn:l.length = n) (hm:n≤maxLen)
  (h:∀ g c w',RowIn [(g,0,flatG encT l)] encT 1 (.slice (some ⟨g,0,none⟩) n c) l→St w0 M (poolA [(g,0,flatG encT l)] :: L) w'→wpList Tryz.prog ops Q rest (a.put o1.dst (.slice (some ⟨g,0,none⟩) n c)) w'):AtBytes Tryz.prog ops Q o1 9 42 x rest a w :=
 wpList_step fun _ hK=>by
  rw [if_pos hw]
  subst hn
  have hr:=run_bytes_of_string (P:=Tryz.prog) w 9 42 5 (strB l) (by kernel_rfl) (by kernel_rfl) (by kernel_rfl)
  rw [strB_size] at hr
  unfold Oper.wp execOp
  simp only [ho,evalO_eq hx,Sem.run_bind,hr,Result.andThen_ok,Sem.run_pure]
  exact hK _ _ (h _ _ _ ⟨_,_,rfl,hm,fun _=>⟨w.heap.size,0,rfl,by simp⟩⟩ (H.ofBytes hl))
end
attribute [irreducible] strB
attribute [local go_sem] strB_size
abbrev ParsePost (text:List Nat) (w:World) (e:Ending) (w':World):Prop :=
 ∃ (X:Px) (id:Nat),e = .returned (.tuple #[.pointer (some ⟨X.p,0,none⟩),.int .i64 id,.bool true])∧PxOk X∧X.S.most = 1048576∧IdIs X.S id (text.map Tr.leaf)∧X.S.list.length≤2 * text.length∧St w [] [pA X] w'
theorem parse_c {text:List Nat} (hb:∀ x∈text,x < 256) (hlen:text.length≤1000) (w:World) (hde:deA.ho w) :
    Calls Tryz.prog 15 #[.string (strB text)] w (ParsePost text w):=by
  have H:=St.nil w []
  have HK:Ks w [] [deA]:=Ks.one hde
  clear hde
  have HNW:Hid (∀ w,Calls Tryz.prog 55 #[.int .i64 1048576] w fun e w'=>∃ p m,e = .returned (.pointer (some ⟨p,0,none⟩))∧St w [] [stoA p (.slice none 0 0) m ⟨1048576,[]⟩] w'):=Lib.hid fun w=>new_c 1048576 (Nat.le_refl _) 1048576 rfl w
  have HSN:Hid (∀ ps pm w,(stoA ps (.slice none 0 0) pm ⟨1048576,[]⟩).ho w→Calls Tryz.prog 54 #[.pointer (some ⟨ps,0,none⟩)] w fun e w'=>∃ X:Px,X.s = ps∧X.S = ⟨1048576,[]⟩∧PxOk X∧e = .returned (.pointer (some ⟨X.p,0,none⟩))∧St w (stoA ps (.slice none 0 0) pm ⟨1048576,[]⟩).fp [pA X] w'):=Lib.hid fun ps pm w h=>snew_c sto_nil_ok w h
  obtain ⟨n,hn⟩:∃ n,text.length = n:=⟨_,rfl⟩
  have hsz:(strB text).size = n:=by rw [strB_size];exact hn
  have HOF:Hid (∀ (X:Px) (g c:Nat),PxOk X→X.S = ⟨1048576,[]⟩→RowIn [(g,0,flatG encT text)] encT 1 (.slice (some ⟨g,0,none⟩) n c) text→∀ w,((pA X).sep deA).ho w→((pA X).sep (poolA [(g,0,flatG encT text)])).ho w→Calls Tryz.prog 22 #[.pointer (some ⟨X.p,0,none⟩),.slice (some ⟨g,0,none⟩) n c] w (IdPost X (text.map Tr.leaf) (2 * n) (pA X).fp w)):=Lib.hid fun X g c q1 q2 q3 w h1 h2=>by
    have:=of_any q1 q3 hb (by omega) (by rw [q2];simp;omega) w h1 h2
    rw [hn] at this
    exact this
  have HB:Hid ((∀ x∈text,x < 256)∧text.length = n∧n≤1000):=Lib.hid ⟨hb,hn,by omega⟩
  have HZ0:Hid (∀ (S:Sto) (id:Nat),IdIs S id (text.map Tr.leaf)→(id = 0 ↔ n = 0)):=Lib.hid fun S id h=>by
    rw [idIs_zero h,← hn]
    exact ⟨fun h=>by rw [h];rfl,List.eq_nil_of_length_eq_zero⟩
  unfold ParsePost
  rw [hn]
  clear hb hlen hn
  go_enter Tryz.func15,Tryz.ntmps15
  go_wp2_with (first | refine sL ?_ | (refine sS ?_;clear H;intros;rename_i H) | (go_at_call 55;with_reducible refine Calls.mono (HNW.out _) ?_;rintro e9 wc ⟨ps,pm,rfl,hb⟩;replace H:=H.call0 hb;clear hb;simp only [List.cons_append,List.nil_append] at H) | (go_at_call 54;with_reducible refine Calls.mono (HSN.out _ _ _ (H.get (A:=stoA ps (.slice none 0 0) pm ⟨1048576,[]⟩) pk)) ?_;rintro e9 wc ⟨X,hxs,hxS,hxo,rfl,hb⟩;have HXN:=Lib.hid (And.intro hxS hxo);clear hxs hxS hxo;replace H:=(H.pick (A:=stoA ps (.slice none 0 0) pm ⟨1048576,[]⟩) pk).call hb;clear hb;simp only [List.cons_append,List.nil_append] at H) | ((with_reducible refine isBytes ?_);refine AtBytes.go H rfl rfl text rfl HB.out.1 HB.out.2.1 (by have:=HB.out.2.2;unfold maxLen;omega) ?_;clear H;intro gb cb _ hrb H;have HRB:=Lib.hid hrb;clear hrb;simp only [Act.put,puA,puB,puC]))
  go_at_call 22
  with_reducible refine Calls.mono (HOF.out X gb cb HXN.out.2 HXN.out.1 HRB.out _ (H.sepK (A:=pA X) HK pk pk) (H.sepO (A:=pA X) (B:=poolA [(gb,0,flatG encT text)]) pk pk)) ?_
  rintro e9 wc ⟨X2,id2,rfl,y1,y2,y3,y4,hb⟩
  have hz:=HZ0.out _ _ y3
  have HY:=Lib.hid (And.intro y1 (And.intro y2 (And.intro y3 y4)))
  clear y1 y2 y3 y4
  replace H:=(H.pick (A:=pA X) pk).call hb
  clear hb
  simp only [List.cons_append,List.nil_append] at H
  rcases Nat.eq_zero_or_pos n with h0 | h0
  case' inl =>
    have d1:decide ((0:Int) < (id2:Int)) = false:=by have:=hz.2 h0;simp;omega
    have d1n:decide (0 < id2) = false:=by have:=hz.2 h0;simp;omega
    have d2:decide ((0:Int) < (n:Int)) = false:=by simp;omega
    have d2n:decide (0 < n) = false:=by simp;omega
  case' inr =>
    have d1 : decide ((0 : Int) < (id2 : Int)) = true := by have : id2 ≠ 0 := fun h => by have := hz.1 h; omega
                                                            simp;omega
    have d1n : decide (0 < id2) = true := by have : id2 ≠ 0 := fun h => by have := hz.1 h; omega
                                             simp;omega
    have d2:decide ((0:Int) < (n:Int)) = true:=by simp;omega
    have d2n:decide (0 < n) = true:=by simp;omega
  all_goals
    clear hz h0
    go_wp2_with (first | refine sL ?_ | (refine sS ?_;clear H;intros;rename_i H))
    go_ret3
    exact ⟨X2,id2,by rw [HY.out.1.p];rfl,HY.out.2.1,by rw [HY.out.1.le.1,HXN.out.1],HY.out.2.2.1,by have:=HY.out.2.2.2;rw [HXN.out.1] at this;simpa using this,H.picks (.cons (A:=pA X2) pk .nil)⟩
end
section
open Go.RowKit Go.Maps
attribute [local go_sem] InGr strB_size
def encR (q:Pz):List Value:=[.bool q.c,.int .i64 q.f,.int .i64 q.n,.string (strB q.t)]
theorem encR_len (q:Pz):(encR q).length = 4:=rfl
def txL (l:List Pz):Nat:=(l.map fun q=>q.t.length).sum
theorem txL_take_succ {l:List Pz} {i:Nat} {q:Pz} (h:l[i]? = some q):txL (l.take (i + 1)) = txL (l.take i) + q.t.length:=by
 unfold txL
 rw [List.take_add_one,h]
 simp
theorem txL_take (l:List Pz) (i:Nat):txL (l.take i)≤txL l:=by
 unfold txL
 have h:l.take i ++ l.drop i = l:=List.take_append_drop i l
 have h2:=congrArg (fun l:List Pz=>(l.map fun q=>q.t.length).sum) h
 simp only [List.map_append,List.sum_append] at h2
 omega
theorem row_cells {P:PoolT} {qs:List Pz} {g o n c i:Nat} {q:Pz} (hr:RowIn P encR 4 (.slice (some ⟨g,o,none⟩) n c) qs) (hq:qs[i]? = some q):∀ w,(poolA P).ho w→w.cell? ⟨g,o + i * 4,none⟩ = some (.bool q.c)∧w.cell? ⟨g,o + i * 4 + 1,none⟩ = some (.int .i64 q.f)∧w.cell? ⟨g,o + i * 4 + 2,none⟩ = some (.int .i64 q.n)∧w.cell? ⟨g,o + i * 4 + 3,none⟩ = some (.string (strB q.t)):=fun w h=>by
 have h1:=hr.rng h encR_len hq
 exact ⟨h1 0 _ rfl,h1 1 _ rfl,h1 2 _ rfl,h1 3 _ rfl⟩
abbrev PcsPost (X:Px) (qs:List Pz) (M:List Nat) (w:World) (e:Ending) (w':World):Prop :=
 ∃ (X':Px) (v':Value) (ps:List Pi),e = .returned (.tuple #[v',.bool true])∧X.Ext X'∧PxOk X'∧PiL X'.S ps qs∧X'.S.list.length≤X.S.list.length + 2 * txL qs∧St w M [pA X',rowsA encPi 98 4 v' ps] w'
def PcRel (X:Px) (N:List Nat) (w:World) (qs:List Pz) (n m:Nat) (v1 v:Value) (wr:World):Prop :=
 ∃ (i:Nat) (X1:Px) (ps:List Pi),m = n - i∧i≤n∧v = .int .i64 i∧(ps.length = i∧PiL X1.S ps (qs.take i)∧X.Ext X1∧PxOk X1∧X1.S.list.length≤X.S.list.length + 2 * txL (qs.take i))∧St w N [pA X1,rowsA encPi 98 4 v1 ps] wr
theorem pieces_c {X:Px} {P:PoolT} {qs:List Pz} {v:Value} (hX:PxOk X) (hr:RowIn P encR 4 v qs) (hb:∀ q∈qs,∀ x∈q.t,x < 256) (hn:qs.length≤1024) (htx:txL qs≤65536) (hroom:X.S.list.length + 2 * txL qs < X.S.most) (w:World) (h:PH X w) (hp:((pA X).sep (poolA P)).ho w) :
  Calls Tryz.prog 16 #[.pointer (some ⟨X.p,0,none⟩),v] w (PcsPost X qs (pA X).fp w):=by
 have h:((pA X).sep deA).ho w:=h
 rw [sep_ho] at h hp
 have H:=St.one h.1
 have HK:Ks w (pA X).fp [deA,poolA P]:=⟨fun A hA=>by
   simp at hA
   rcases hA with rfl | rfl
   ·exact h.2.1
   ·exact hp.2.1,fun A hA b hbA hm=>by
   simp at hA
   rcases hA with rfl | rfl
   ·exact h.2.2 b hm hbA
   ·exact hp.2.2 b hm hbA⟩
 generalize (pA X).fp = N at *
 clear h hp
 obtain ⟨n,hnn⟩:∃ n,qs.length = n:=⟨_,rfl⟩
 obtain ⟨ad,c,rfl,_⟩:=hr.shape
 have HCL:Hid (∀ (i:Nat) (q:Pz),qs[i]? = some q→∃ g o,ad = some ⟨g,o,none⟩∧∀ w,(poolA P).ho w→w.cell? ⟨g,o + i * 4,none⟩ = some (.bool q.c)∧w.cell? ⟨g,o + i * 4 + 1,none⟩ = some (.int .i64 q.f)∧w.cell? ⟨g,o + i * 4 + 2,none⟩ = some (.int .i64 q.n)∧w.cell? ⟨g,o + i * 4 + 3,none⟩ = some (.string (strB q.t))):=Lib.hid fun i q hq=>by
  obtain ⟨ad',c',e1,_,h3⟩:=id hr
  obtain ⟨g,o,rfl,_⟩:=h3 (by have:=gelt hq;omega)
  injection e1 with e1 _ _
  subst e1
  exact ⟨g,o,rfl,row_cells hr hq⟩
 have HOF:Hid (∀ (X1:Px) (t:List Nat) (k g c:Nat),X.Ext X1→PxOk X1→(∀ x∈t,x < 256)→t.length = k→k≤65536→X1.S.list.length + 2 * k < X.S.most→RowIn [(g,0,flatG encT t)] encT 1 (.slice (some ⟨g,0,none⟩) k c) t→∀ w,((pA X1).sep deA).ho w→((pA X1).sep (poolA [(g,0,flatG encT t)])).ho w→Calls Tryz.prog 22 #[.pointer (some ⟨X.p,0,none⟩),.slice (some ⟨g,0,none⟩) k c] w (IdPost X1 (t.map Tr.leaf) (2 * k) (pA X1).fp w)):=Lib.hid fun X1 t k g c q1 q2 q3 q4 q5 q6 q7 w h1 h2=>by
  have:=of_any q2 q7 q3 (by omega) (by rw [q1.le.1];omega) w h1 h2
  rw [q1.p,q4] at this
  exact this
 rw [hnn] at hn ⊢
 have HIN:Hid ((∀ q∈qs,∀ x∈q.t,x < 256)∧qs.length = n∧txL qs≤65536∧X.S.list.length + 2 * txL qs < X.S.most∧PxOk X):=Lib.hid ⟨hb,hnn,htx,hroom,hX⟩
 clear hX hr hb htx hroom hnn
 go_enter Tryz.func16,Tryz.ntmps16
 go_wp2_with (first | refine sL ?_ | (refine sS ?_;clear H;intros;rename_i H))
 replace H:=H.empty (A:=rowsA encPi 98 4 (.slice none 0 0) []) (rowsA_nil _) (by rw [rowsA_fp'];rfl)
 go_loopg [6,7] n (fun m v1 v2 wr=>PcRel X N w qs n m v1 v2 wr)
 case atStart=>exact ⟨0,X,[],rfl,Nat.zero_le _,rfl,⟨rfl,trivial,.refl _,HIN.out.2.2.2.2,by omega⟩,H.picks (.cons (A:=pA X) pk (.cons (A:=rowsA encPi 98 4 (.slice none 0 0) []) pk .nil))⟩
 case round =>
  clear H
  obtain ⟨i,X1,ps,rfl,hik,rfl,hrel,H⟩:=hrel
  have HX1:=Lib.hid hrel
  obtain ⟨ad2,c2,rfl,_⟩:=rowsA_shape (H.get (A:=rowsA encPi 98 4 _ ps) pk)
  by_cases hlt:i < n
  ·obtain ⟨q,hq⟩:∃ a,qs[i]? = some a:=⟨_,List.getElem?_eq_getElem (by rw [HIN.out.2.1];exact hlt)⟩
   obtain ⟨g,o,rfl,hcell⟩:=HCL.out i q hq
   have d5:decide ((i:Int) < (n:Int)) = true:=by simp;omega
   have d5n:decide (i < n) = true:=by simp;omega
   obtain ⟨k,hk⟩:∃ k,q.t.length = k:=⟨_,rfl⟩
   have htk:=txL_take_succ hq
   have htk2:=txL_take qs (i + 1)
   have htq:qs.take (i + 1) = qs.take i ++ [q]:=by rw [List.take_add_one,hq];rfl
   have HLI:Hid (k≤65536∧X1.S.list.length + 2 * k < X.S.most∧q.t.length = k∧(∀ x∈q.t,x < 256)∧txL (qs.take (i + 1)) = txL (qs.take i) + k∧qs.take (i + 1) = qs.take i ++ [q]∧i≤1024):=Lib.hid (by
    have h1:=hrel.2.2.2.2
    have h2:=HIN.out
    exact ⟨by omega,by omega,hk,h2.1 q (List.mem_of_getElem? hq),by omega,htq,by omega⟩)
   have hkb:=HLI.out.1
   have hib:=HLI.out.2.2.2.2.2.2
   obtain ⟨qc,qf,qn,qt⟩:=q
   simp only at hcell hk HLI
   have HC0:Hid (∀ w,(poolA P).ho w→w.cell? ⟨g,o + i * 4,none⟩ = some (.bool qc)):=Lib.hid fun w h=>(hcell w h).1
   have HC1:Hid (∀ w,(poolA P).ho w→w.cell? ⟨g,o + i * 4 + 1,none⟩ = some (.int .i64 qf)):=Lib.hid fun w h=>(hcell w h).2.1
   have HC2:Hid (∀ w,(poolA P).ho w→w.cell? ⟨g,o + i * 4 + 2,none⟩ = some (.int .i64 qn)):=Lib.hid fun w h=>(hcell w h).2.2.1
   have HC3:Hid (∀ w,(poolA P).ho w→w.cell? ⟨g,o + i * 4 + 3,none⟩ = some (.string (strB qt))):=Lib.hid fun w h=>(hcell w h).2.2.2
   have hil:i < n:=hlt
   clear hrel hq hcell hk htk htk2 htq
   go_wp2_with (first | refine sL ?_ | (refine sS ?_;clear H;intros;rename_i H) | ((with_reducible refine isBytes ?_);refine AtBytes.go H rfl rfl qt rfl HLI.out.2.2.2.1 HLI.out.2.2.1 (by have:=HLI.out.1;unfold maxLen;omega) ?_;clear H;intro gb cb _ hrb H;have HRB:=Lib.hid hrb;clear hrb;simp only [Act.put,puA,puB,puC]))
   go_at_call 22
   with_reducible refine Calls.mono (HOF.out X1 qt k gb cb HX1.out.2.2.1 HX1.out.2.2.2.1 HLI.out.2.2.2.1 HLI.out.2.2.1 HLI.out.1 HLI.out.2.1 HRB.out _ (H.sepK (A:=pA X1) HK pk pk) (H.sepO (A:=pA X1) (B:=poolA [(gb,0,flatG encT qt)]) pk pk)) ?_
   rintro e9 wc ⟨X2,id2,rfl,y1,y2,y3,y4,hb⟩
   have HY:=Lib.hid (And.intro y1 (And.intro y2 (And.intro y3 y4)))
   clear y1 y2 y3 y4
   replace H:=(H.pick (A:=pA X1) pk).call hb
   clear hb
   simp only [List.cons_append,List.nil_append] at H
   go_wp2_with (first | refine sL ?_ | (refine sS ?_;clear H;intros;rename_i H))
   refine wp_region_h H 19 [(18,98,#[.bool qc,.int .i64 qf,.int .i64 qn,.int .i64 id2],some 1)] [(18,47)] (by kernel_rfl) (by kernel_rfl) ?_
   apply Exists.intro
   refine ⟨fun w1 hw1 HX=>?_,fun bs wr Hr=>?_⟩
   ·refine sG ?_
    repeat (first | refine sQ ?_ | go_big_quiet_step (fail))
    apply wpQuiet_nil
    first | refine ⟨fstep_allocT rfl rfl hw1 rfl rfl,?_⟩ | refine ⟨fstep_slice1 rfl rfl rfl rfl rfl rfl rfl rfl rfl hw1,?_⟩
    simp only [Act.put,puA,puB,puC]
    repeat (first | refine sQ ?_ | go_big_quiet_step (fail))
    exact wpQuiet_nil rfl
   clear H
   have H:=Hr
   clear Hr
   replace H:=sH H;refine sT ?_
   go_wp2_with (first | refine sL ?_ | (refine sS ?_;clear H;intros;rename_i H) | ((with_reducible refine isAppend ?_);refine AtAppend.go (enc:=encPi) H rfl rfl rfl rfl rfl (by decide) (by decide) rfl pk rfl (H.at pk) [⟨qc,qf,qn,id2⟩] rfl (by simp [flatG,encPi]) encPi_len encPi_one (by have h1:=HX1.out.1;have h2:=HLI.out.2.2.2.2.2.2;simp;omega) ?_;clear H;intro ad9 cp9 _ H;simp only [Act.put,puA,puB,puC]))
   go_roundg (n - (i + 1))
   case measure=>omega
   case rel =>
    have h1:=HX1.out
    have h2:=HLI.out
    refine ⟨i + 1,X2,ps ++ [⟨qc,qf,qn,id2⟩],rfl,by omega,rfl,⟨by simp [h1.1],?_,h1.2.2.1.trans HY.out.1,HY.out.2.1,?_⟩,H.picks (.cons (A:=pA X2) pk (.cons (A:=rowsA encPi 98 4 _ (ps ++ [⟨qc,qf,qn,id2⟩])) pk .nil))⟩
    ·rw [h2.2.2.2.2.2.1]
     exact (h1.2.1.le h1.2.2.2.1.ok HY.out.1.le).append ⟨⟨rfl,rfl,rfl,HY.out.2.2.1⟩,trivial⟩
    ·have h3:=h1.2.2.2.2
     have h4:=HY.out.2.2.2
     rw [h2.2.2.2.2.1]
     omega
  ·have d5:decide ((i:Int) < (n:Int)) = false:=by simp;omega
   have d5n:decide (i < n) = false:=by simp;omega
   have hin:i = n:=by omega
   subst hin
   have HE:Hid (qs.take i = qs):=Lib.hid (List.take_of_length_le (by rw [HIN.out.2.1];exact Nat.le_refl _))
   clear hrel hlt
   go_wp2_with (first | refine sL ?_ | (refine sS ?_;clear H;intros;rename_i H))
   go_ret2
   exact ⟨X1,_,ps,rfl,HX1.out.2.2.1,HX1.out.2.2.2.1,by have:=HX1.out.2.1;rwa [HE.out] at this,by have:=HX1.out.2.2.2.2;rwa [HE.out] at this,H.picks (.cons (A:=pA X1) pk (.cons (A:=rowsA encPi 98 4 _ ps) pk .nil))⟩
end
section
open Go.RowKit Go.Maps
attribute [local go_sem] InGr strB_size
theorem AtSlice.litK {t e:TypeId} {n:Nat} {ps:Array (Nat × Operand)} {ops:Array Oper} {Q:Exit→Act→World→Prop} {rest:List Oper} {a:Act} {w w0:World} {M:List Nat} {L:List As} {o1:Oper} (H:St w0 M L w) (hw:Region.wanted o1 (yielded ops a.tmps) = true) (ho:o1.op = .buildSlice t n ps) (hte:sliceO t = some e) {z:Value} {k bytes:Nat} {cs:Array Value} (hi:infoO e = some (z,k,bytes)) (hn:¬ n * k > 2 ^ 24) (hn0:¬ n * k = 0)
  (hf:Instr.fill (fun i=>some (i * k,k)) ((Array.range (n * k)).map (z.cells[· % z.cells.size]!)) (ps.map fun (i,x)=>(i,a.eval x)).toList = some cs)
  (h:∀ b w',St w0 M (blk b (.cells cs e) :: L) w'→wpList Tryz.prog ops Q rest (a.put o1.dst (.slice (some ⟨b,0,none⟩) n n)) w'):AtSlice Tryz.prog ops Q o1 t n ps rest a w :=
 wpList_step fun _ hK=>by
  rw [if_pos hw]
  obtain ⟨i,h2,h3,h4,h5⟩:=infoO_ok hi
  have hr:=run_buildSlice (P:=Tryz.prog) w t e n (ps.map fun (i,x)=>(i,a.eval x)) cs i z (sliceO_ok hte) h2 h3 (by rw [h4];exact hn) (by rw [h4];exact hn0) (by rw [h4];exact hf)
  unfold Oper.wp execOp
  simp only [ho,Sem.run_bind,hr,Result.andThen_ok,Sem.run_pure]
  exact hK _ _ (h _ _ (H.alloc _))
def alQs:List Pz:=[⟨true,1,2,[]⟩,⟨true,3,1,[]⟩,⟨false,0,0,[120]⟩]
theorem al_flat:flatG encR alQs = [.bool true,.int .i64 1,.int .i64 2,.string ⟨#[]⟩,.bool true,.int .i64 3,.int .i64 1,.string ⟨#[]⟩,.bool false,.int .i64 0,.int .i64 0,.string ⟨#[120]⟩]:=by
 simp [flatG,encR,alQs,strB]
theorem alive_c (w:World) (hde:deA.ho w):Calls Tryz.prog 13 #[] w fun e w'=>e = .returned (.bool true)∧St w [] [] w':=by
 have H:=St.nil w []
 have HK:Ks w [] [deA]:=Ks.one hde
 clear hde
 have HP:Hid (∀ w,deA.ho w→Calls Tryz.prog 15 #[.string ⟨#[97,98,99,100,101]⟩] w (ParsePost [97,98,99,100,101] w)):=Lib.hid fun w h=>by
  have:=parse_c (text:=[97,98,99,100,101]) (by decide) (by decide) w h
  rw [show strB [97,98,99,100,101] = ⟨#[97,98,99,100,101]⟩ from by simp [strB]] at this
  exact this
 go_enter Tryz.func13,Tryz.ntmps13
 go_wp2_with (first | refine sL ?_ | (refine sS ?_;clear H;intros;rename_i H) | (go_at_call 15;with_reducible refine Calls.mono (HP.out _ (H.known HK pk)) ?_;rintro e9 wc ⟨X,id1,rfl,y1,y2,y3,y4,hb⟩;have HX:=Lib.hid (And.intro y1 (And.intro y2 (And.intro y3 y4)));clear y1 y2 y3 y4;replace H:=H.call0 hb;clear hb;simp only [List.cons_append,List.nil_append] at H) | ((with_reducible refine isSlice ?_);refine AtSlice.litK H rfl rfl rfl (cs:=#[.bool true,.int .i64 1,.int .i64 2,.string ⟨#[]⟩,.bool true,.int .i64 3,.int .i64 1,.string ⟨#[]⟩,.bool false,.int .i64 0,.int .i64 0,.string ⟨#[120]⟩]) rfl (by decide) (by decide) (by kernel_rfl) ?_;clear H;intro b9 _ H;simp only [Act.put,puA,puB,puC]))
 obtain ⟨P2,hP2⟩:∃ P2:PoolT,P2 = [(b9,0,flatG encR alQs)]:=⟨_,rfl⟩
 have H2:=St.blk_poolF (H.pick (A:=blk b9 (.cells #[.bool true,.int .i64 1,.int .i64 2,.string ⟨#[]⟩,.bool true,.int .i64 3,.int .i64 1,.string ⟨#[]⟩,.bool false,.int .i64 0,.int .i64 0,.string ⟨#[120]⟩] 106)) pk)
 rw [al_flat] at hP2
 simp only [← hP2] at H2
 have hr2:RowIn P2 encR 4 (.slice (some ⟨b9,0,none⟩) 3 3) alQs:=⟨_,_,rfl,by simp [maxLen,alQs],fun _=>⟨b9,0,rfl,by rw [hP2,al_flat];exact List.mem_cons_self⟩⟩
 clear H hP2
 have H:=H2
 clear H2
 have HPC:=Lib.hid (fun w h1 h2=>pieces_c (X:=X) (P:=P2) HX.out.1 hr2 (by decide) (by decide) (by decide) (by rw [HX.out.2.1];have:=HX.out.2.2.2;simp [txL,alQs] at this ⊢;omega) w h1 h2)
 go_at_call 16
 with_reducible refine Calls.mono (HPC.out _ (H.sepK (A:=pA X) HK pk pk) (H.sepO (A:=pA X) (B:=poolA P2) pk pk)) ?_
 rintro e9 wc ⟨X2,v2,ps,rfl,y1,y2,y3,y4,hb⟩
 have HY:=Lib.hid (And.intro y1 (And.intro y2 (And.intro y3 y4)))
 clear y1 y2 y3 y4
 replace H:=(H.pick (A:=pA X) pk).call hb
 clear hb
 simp only [List.cons_append,List.nil_append] at H
 have HM2:Hid (X2.S.most = 1048576∧X2.S.list.length≤12∧ps.length = 3):=Lib.hid ⟨by rw [HY.out.1.le.1,HX.out.2.1],by have h1:=HY.out.2.2.2;have h2:=HX.out.2.2.2;simp [txL,alQs] at h1 h2;omega,by have:=HY.out.2.2.1.len;simpa [alQs] using this⟩
 obtain ⟨ad2,c2,rfl,_⟩:=rowsA_shape (H.get (A:=rowsA encPi 98 4 v2 ps) pk)
 have HAP:=fun w h1 h2=>apply_c (X:=X2) (b:=id1) (base:=[97,98,99,100,101]) (qs:=alQs) (ad:=ad2) (c:=c2) HY.out.2.1 (HX.out.2.2.1.le HX.out.1.ok HY.out.1.le) HY.out.2.2.1 (by rw [HM2.out.2.2];decide) (by decide) (by decide) (by decide) (by rw [HM2.out.1,HM2.out.2.2,show szL alQs = 4 from by decide];have:=HM2.out.2.1;simp only [List.length_cons,List.length_nil];omega) w h1 h2
 rw [HY.out.1.p] at HAP
 have HAP:=Lib.hid HAP
 go_wp2_with (first | refine sL ?_ | (refine sS ?_;clear H;intros;rename_i H) | (go_at_call 18;with_reducible refine Calls.mono (HAP.out _ (H.sepK (A:=pA X2) HK pk pk) (H.sepO (A:=pA X2) (B:=rowsA encPi 98 4 (.slice ad2 ps.length c2) ps) pk pk)) ?_;rintro e9 wc ⟨X3,id3,rfl,y1,y2,y3,y4,hb⟩;have HZ:=Lib.hid (And.intro y1 (And.intro y2 (And.intro y3 y4)));clear y1 y2 y3 y4;replace H:=(H.pick (A:=pA X2) pk).call hb;clear hb;simp only [List.cons_append,List.nil_append] at H) | ((with_reducible refine isSlice ?_);refine AtSlice.lit H rfl rfl rfl (cs:=#[.int .u8 98,.int .u8 99,.int .u8 100,.int .u8 120]) rfl rfl rfl (by decide) (by decide) (by kernel_rfl) ?_;clear H;intro b8 _ H;simp only [Act.put,puA,puB,puC]) | ((with_reducible refine isConv ?_);refine AtConv.bytes (e:=5) H rfl rfl rfl rfl pk ?_;clear H;intro _ H;simp only [Act.put,puA,puB,puC]))
 obtain ⟨P3,hP3⟩:∃ P2:PoolT,P2 = [(b8,0,[.int .u8 98,.int .u8 99,.int .u8 100,.int .u8 120])]:=⟨_,rfl⟩
 have H2:=St.blk_poolF (H.pick (A:=blk b8 (.cells #[.int .u8 98,.int .u8 99,.int .u8 100,.int .u8 120] 5 (4,4 + 1))) pk)
 simp only [← hP3] at H2
 have hr3:RowIn P3 encT 1 (.slice (some ⟨b8,0,none⟩) 4 4) [98,99,100,120]:=⟨_,_,rfl,by simp [maxLen],fun _=>⟨b8,0,rfl,by rw [hP3];exact List.mem_cons_self⟩⟩
 clear H hP3
 have H:=H2
 clear H2
 have HM3:Hid (X3.S.most = 1048576∧X3.S.list.length≤54):=Lib.hid ⟨by rw [HZ.out.1.le.1,HM2.out.1],by have h1:=HZ.out.2.2.2;have h2:=HM2.out;rw [h2.2.2,show szL alQs = 4 from by decide] at h1;simp only [List.length_cons,List.length_nil] at h1;omega⟩
 have ho2:=fun w h1 h2=>of_any (X:=X3) (P:=P3) HZ.out.2.1 hr3 (by decide) (by decide) (by rw [HM3.out.1];have:=HM3.out.2;simp only [List.length_cons,List.length_nil];omega) w h1 h2
 rw [(HY.out.1.trans HZ.out.1).p] at ho2
 have HO2:=Lib.hid ho2
 clear ho2
 go_at_call 22;with_reducible refine Calls.mono (HO2.out _ (H.sepK (A:=pA X3) HK pk pk) (H.sepO (A:=pA X3) (B:=poolA P3) pk pk)) ?_;rintro e9 wc ⟨X4,id4,rfl,y1,y2,y3,y4,hb⟩;have HW:=Lib.hid (And.intro y1 (And.intro y2 (And.intro y3 y4)));clear y1 y2 y3 y4;replace H:=(H.pick (A:=pA X3) pk).call hb;clear hb;simp only [List.cons_append,List.nil_append] at H
 have hid:id3 = id4:=IdIs.uniq HW.out.2.1.ok (HZ.out.2.2.1.le HZ.out.2.1.ok HW.out.1.le) (by have:=HW.out.2.2.1;exact this)
 subst hid
 have e1:((id3:Int) == (id3:Int)) = true:=by simp
 go_wp2_with (first | refine sL ?_ | (refine sS ?_;clear H;intros;rename_i H) | fail)
 go_ret
 exact ⟨rfl,H.nix⟩
end
section
open Go.RowKit Go.Maps
attribute [local go_sem] InGr strB_size
end
section
open Go.RowKit Go.Maps
attribute [local go_sem] InGr strB_size
end
section
open Go.RowKit Go.Maps
attribute [local go_sem] InGr strB_size
end
section
open Go.RowKit Go.Maps
attribute [local go_sem] InGr strB_size
end
section
open Go.RowKit Go.Maps
attribute [local go_sem] InGr strB_size
end
section
open Go.RowKit Go.Maps
attribute [local go_sem] InGr strB_size
theorem row_no {S:Sto} {K:Kt} {lv:Value} {m:Nat} {z:Int} (hz:¬ (1≤z∧z≤S.list.length)) (w:World) (h:(ktA K).ho w) (hs:(stoA K.s lv m S).ho w) :
  Calls Tryz.prog 124 #[.pointer (some ⟨K.t,0,none⟩),.int .i64 z] w fun e w'=>e = .returned (.tuple #[.agg #[.int .u64 0,.int .i64 0,.bool false],.iface 73 (.int .i64 1)])∧St w [] [] w':=by
 have H:=St.nil w []
 have HK:=Ks.cons hs (by simp) (ktA_ks h)
 obtain ⟨len,hl⟩:∃ n,S.list.length = n:=⟨_,rfl⟩
 have HLE:Hid (∀ w,(stoA K.s lv m S).ho w→Calls Tryz.prog 38 #[.pointer (some ⟨K.s,0,none⟩)] w fun e w'=>e = .returned (.int .i64 (len:Nat))∧w' = w):=Lib.hid fun w hs=>by rw [← hl];exact len_c w hs
 rw [hl] at hz
 clear h hs hl
 by_cases hn:z < 1
 case' pos =>
  have d1:decide (z < 1) = true:=by simp;omega
 case' neg =>
  have d1:decide (z < 1) = false:=by simp;omega
  have d2:decide ((len:Int) < z) = true:=by simp;omega
 all_goals
  clear hz hn
  go_enter Tryz.func124,Tryz.ntmps124
  go_wp2_with (first | refine sL ?_ | (refine sS ?_;clear H;intros;rename_i H) | (go_at_call 38;with_reducible refine same (HLE.out _ (H.known HK (A:=stoA K.s lv m S) pk)) ?_))
  refine bodyPost_ret (res_row_tmp rfl H rfl pk rfl rfl) rfl ?_
  exact ⟨rfl,H.nix⟩
theorem top_no {X:Px} {z:Int} (hX:PxOk X) (hz:¬ (0≤z∧z≤X.S.list.length)) (w:World) (h:(pA X).ho w) :
  Calls Tryz.prog 91 #[.pointer (some ⟨X.p,0,none⟩),.int .i64 z] w fun e w'=>e = .returned (.tuple #[.int .i64 0,.iface 73 (.int .i64 1)])∧St w [] [] w':=by
 have HO:=pA_open (St.one h)
 have hkt:=HO.get (A:=ktA X.K) pk
 have hst:=HO.get (A:=stoA X.s X.lv X.m X.S) pk
 clear HO
 rw [← hX.s] at hst
 have H:=St.nil w []
 have HK:=Ks.nil w []
 have hL:Calls Tryz.prog 122 #[.pointer (some ⟨X.K.t,0,none⟩),.int .i64 z] w fun e w'=>e = .returned (.tuple #[.int .i64 0,.iface 73 (.int .i64 1)])∧St w [] [] w':=by
  have HR:=Lib.hid (row_no (z:=z) (by omega) w hkt hst)
  clear hkt hst h hz hX
  go_enter Tryz.func122,Tryz.ntmps122
  go_wp2_with (first | refine sL ?_ | (refine sS ?_;clear H;intros;rename_i H) | (go_at_call 124;with_reducible refine Calls.mono HR.out ?_;rintro e wc ⟨rfl,hb⟩;replace H:=H.grew hb.below;clear hb))
  go_ret2
  exact ⟨rfl,H.nix⟩
 have HL:=Lib.hid hL
 have HC0:=Lib.hid (pA_c0 h)
 have HC1:=Lib.hid (pA_c1 h)
 have d1:(z == 0) = false:=by simp;omega
 clear hkt hst h hz hX hL
 go_enter Tryz.func91,Tryz.ntmps91
 go_wp2_with (first | refine sL ?_ | (refine sS ?_;clear H;intros;rename_i H) | ((with_reducible refine isLoad ?_);first | (refine AtLoad.cel rfl rfl rfl rfl HC0.out ?_;simp only [Act.put,puA,puB,puC]) | (refine AtLoad.cel rfl rfl rfl rfl HC1.out ?_;simp only [Act.put,puA,puB,puC])) | (go_at_call 122;with_reducible refine Calls.mono HL.out ?_;rintro e wc ⟨rfl,hb⟩;replace H:=H.grew hb.below;clear hb))
 go_ret2
 exact ⟨rfl,H.nix⟩
theorem bs_nil {x:Int} (w:World):Calls Tryz.prog 59 #[.pointer none,.int .i64 x] w fun e w'=>e = .returned (.tuple #[.int .i64 0,.iface 73 (.int .i64 5)])∧w' = w:=by
 have H:=St.nil w []
 go_enter Tryz.func59,Tryz.ntmps59
 go_wp2_with (first | refine sL ?_ | (refine sS ?_;clear H;intros;rename_i H))
 go_ret2
 exact ⟨rfl,rfl⟩
theorem bs_range {X:Px} {x:Int} (hx:¬ (0≤x∧x≤X.S.list.length)) (w:World) (h:(pA X).ho w) :
  Calls Tryz.prog 59 #[.pointer (some ⟨X.p,0,none⟩),.int .i64 x] w fun e w'=>e = .returned (.tuple #[.int .i64 0,.iface 73 (.int .i64 1)])∧St w [] [] w':=by
 have H:=St.nil w []
 have HK:=Ks.one h
 have hw9:=weight_no x hx w (pA_sto h)
 simp only [EV] at hw9
 have HW:=Lib.hid hw9
 have HS:Hid (Calls Tryz.prog 53 #[.pointer (some ⟨X.p,0,none⟩)] w fun e w'=>e = .returned (.pointer (some ⟨X.s,0,none⟩))∧w' = w):=Lib.hid (store_p w h)
 clear hw9 h hx
 go_enter Tryz.func59,Tryz.ntmps59
 go_wp2_with (first | refine sL ?_ | (refine sS ?_;clear H;intros;rename_i H) | (go_at_call 53;with_reducible refine same (HS.out) ?_) | (go_at_call 40;with_reducible refine Calls.mono HW.out ?_;rintro e9 wc ⟨rfl,hb⟩;replace H:=H.grew hb.below;clear hb))
 go_ret2
 exact ⟨rfl,H.nix⟩
theorem bs_form {X:Px} {x:Nat} {t:Tr} (hX:PxOk X) (hd:Den X.S x t) (hl:t.lev = none) (w:World) (h:PH X w) :
  Calls Tryz.prog 59 #[.pointer (some ⟨X.p,0,none⟩),.int .i64 x] w (PPost X (.tuple #[.int .i64 0,.iface 73 (.int .i64 4)]) (pA X).fp w):=by
 have h:((pA X).sep deA).ho w:=h
 rw [sep_ho] at h
 obtain ⟨k1,k2,hdd⟩:=h
 have H:=St.one k1
 have HK:Ks w (pA X).fp [deA]:=⟨by simpa using k2,by simpa using fun b hb hm=>hdd b hm hb⟩
 generalize (pA X).fp = N at *
 clear k1 k2 hdd
 obtain ⟨i,en,hi,hx,_⟩:=den_get hd
 have HW:Hid (∀ w,(pA X).ho w→Calls Tryz.prog 40 #[.pointer (some ⟨X.s,0,none⟩),.int .i64 x] w fun e w'=>e = .returned (.tuple #[.agg #[.int .i64 (en.w.len:Nat),.int .i64 en.w.lines,.int .i64 en.w.head,.int .i64 en.w.tail,.int .u64 en.w.val,.int .u64 en.w.scale],.nilIface])∧St w [] [] w'):=Lib.hid fun w h=>by
  have:=weight_c (i:=i + 1) (S:=X.S) (x:=en) hx w (pA_sto h)
  rw [hi]
  exact this
 have HS:Hid (∀ w,(pA X).ho w→Calls Tryz.prog 53 #[.pointer (some ⟨X.p,0,none⟩)] w fun e w'=>e = .returned (.pointer (some ⟨X.s,0,none⟩))∧w' = w):=Lib.hid fun w h=>store_p w h
 have HT:Hid (∀ w,((pA X).sep deA).ho w→Calls Tryz.prog 91 #[.pointer (some ⟨X.p,0,none⟩),.int .i64 x] w (PPost X (lvlV none) (pA X).fp w)):=Lib.hid fun w h=>by have:=top_p hX hd w h;rwa [hl] at this
 clear hX hd hl hi hx
 simp only [lvlV] at HT
 go_enter Tryz.func59,Tryz.ntmps59
 go_wp2_with (first | refine sL ?_ | (refine sS ?_;clear H;intros;rename_i H) | (go_at_call 53;with_reducible refine same (HS.out _ (H.get (A:=pA X) pk)) ?_) | (go_at_call 40;with_reducible refine Calls.mono (HW.out _ (H.get (A:=pA X) pk)) ?_;rintro e9 wc ⟨rfl,hb⟩;replace H:=H.grew hb.below;clear hb) | (go_at_call 91;with_reducible refine Calls.mono (HT.out _ (H.sepK HK pk pk)) ?_;rintro e9 wc ⟨X2,y1,y2,y3,rfl,hb⟩;have HY:=Lib.hid (And.intro y1 (And.intro y2 y3));clear y1 y2 y3;replace H:=(H.pick (A:=pA X) pk).call hb;clear hb;simp only [List.cons_append,List.nil_append] at H))
 go_ret2
 exact ⟨X2,HY.out.1,HY.out.2.1,HY.out.2.2,rfl,H.picks (.cons (A:=pA X2) pk .nil)⟩
theorem Apply_bad {pv dv:Value} {x:Int} {k:Nat} {R:World→Prop} (hc:∀ w,R w→Calls Tryz.prog 21 #[pv,.int .i64 x,dv] w fun e w'=>e = .returned (.iface 73 (.int .i64 (k:Nat)))∧R w') (w:World) (h:R w) :
  Calls Tryz.prog 18 #[pv,.int .i64 x,dv] w fun e w'=>e = .returned (.tuple #[.int .i64 0,.iface 73 (.int .i64 (k:Nat))])∧R w':=by
 have HC:=Lib.hid (hc w h)
 clear hc h
 go_enter Tryz.func18,Tryz.ntmps18
 go_wp2_with (first | refine sL ?_ | (refine sS ?_;clear H;intros;rename_i H) | (go_at_call 21;with_reducible refine Calls.mono HC.out ?_;rintro e wc ⟨rfl,hq⟩))
 go_ret2
 exact ⟨rfl,hq⟩
theorem Normal_bad {pv dv:Value} {x:Int} {k:Nat} {R:World→Prop} (hc:∀ w,R w→Calls Tryz.prog 21 #[pv,.int .i64 x,dv] w fun e w'=>e = .returned (.iface 73 (.int .i64 (k:Nat)))∧R w') (w:World) (h:R w) :
  Calls Tryz.prog 25 #[pv,.int .i64 x,dv] w fun e w'=>e = .returned (.tuple #[.slice none 0 0,.iface 73 (.int .i64 (k:Nat))])∧R w':=by
 have HC:=Lib.hid (hc w h)
 clear hc h
 go_enter Tryz.func25,Tryz.ntmps25
 go_wp2_with (first | refine sL ?_ | (refine sS ?_;clear H;intros;rename_i H) | (go_at_call 21;with_reducible refine Calls.mono HC.out ?_;rintro e wc ⟨rfl,hq⟩))
 go_ret2
 exact ⟨rfl,hq⟩
theorem Cost_bad {pv dv:Value} {x:Int} {k:Nat} {R:World→Prop} (hc:∀ w,R w→Calls Tryz.prog 21 #[pv,.int .i64 x,dv] w fun e w'=>e = .returned (.iface 73 (.int .i64 (k:Nat)))∧R w') (w:World) (h:R w) :
  Calls Tryz.prog 19 #[pv,.int .i64 x,dv] w fun e w'=>e = .returned (.tuple #[.int .i64 0,.int .i64 0,.iface 73 (.int .i64 (k:Nat))])∧R w':=by
 have HC:=Lib.hid (hc w h)
 clear hc h
 go_enter Tryz.func19,Tryz.ntmps19
 go_wp2_with (first | refine sL ?_ | (refine sS ?_;clear H;intros;rename_i H) | (go_at_call 21;with_reducible refine Calls.mono HC.out ?_;rintro e wc ⟨rfl,hq⟩))
 go_ret3
 exact ⟨rfl,hq⟩
theorem Put_bad {pv dv:Value} {x:Int} {k:Nat} {R:World→Prop} (hc:∀ w,R w→Calls Tryz.prog 21 #[pv,.int .i64 x,dv] w fun e w'=>e = .returned (.iface 73 (.int .i64 (k:Nat)))∧R w') (w:World) (h:R w) :
  Calls Tryz.prog 51 #[pv,.int .i64 x,dv] w fun e w'=>e = .returned (.tuple #[.slice none 0 0,.iface 73 (.int .i64 (k:Nat))])∧R w':=by
 have HC:=Lib.hid (hc w h)
 clear hc h
 go_enter Tryz.func51,Tryz.ntmps51
 go_wp2_with (first | refine sL ?_ | (refine sS ?_;clear H;intros;rename_i H) | (go_at_call 21;with_reducible refine Calls.mono HC.out ?_;rintro e wc ⟨rfl,hq⟩))
 go_ret2
 exact ⟨rfl,hq⟩
theorem Compose_bad {pv dv:Value} {x:Int} {k:Nat} {R:World→Prop} (hc:∀ w,R w→Calls Tryz.prog 21 #[pv,.int .i64 x,dv] w fun e w'=>e = .returned (.iface 73 (.int .i64 (k:Nat)))∧R w') (w:World) (h:R w) :
  Calls Tryz.prog 29 #[pv,.int .i64 x,dv,.slice none 0 0] w fun e w'=>e = .returned (.tuple #[.slice none 0 0,.iface 73 (.int .i64 (k:Nat))])∧R w':=by
 have HC:=Lib.hid (Apply_bad hc w h)
 clear hc h
 go_enter Tryz.func29,Tryz.ntmps29
 go_wp2_with (first | refine sL ?_ | (refine sS ?_;clear H;intros;rename_i H) | (go_at_call 18;with_reducible refine Calls.mono HC.out ?_;rintro e wc ⟨rfl,hq⟩))
 go_ret2
 exact ⟨rfl,hq⟩
theorem Take_bad {pv dv:Value} {x:Int} {k:Nat} {Q:World→Prop} {w:World} (hc:Calls Tryz.prog 59 #[pv,.int .i64 x] w fun e w'=>e = .returned (.tuple #[.int .i64 0,.iface 73 (.int .i64 (k:Nat))])∧Q w') :
  Calls Tryz.prog 52 #[pv,.int .i64 x,dv] w fun e w'=>e = .returned (.tuple #[.slice none 0 0,.iface 73 (.int .i64 (k:Nat))])∧Q w':=by
 have HC:=Lib.hid hc
 clear hc
 go_enter Tryz.func52,Tryz.ntmps52
 go_wp2_with (first | refine sL ?_ | (refine sS ?_;clear H;intros;rename_i H) | (go_at_call 59;with_reducible refine Calls.mono HC.out ?_;rintro e wc ⟨rfl,hq⟩))
 go_ret2
 exact ⟨rfl,hq⟩
theorem Check_bad {pv dv:Value} {x:Int} {k:Nat} {Q:World→Prop} {w:World} (hc:Calls Tryz.prog 59 #[pv,.int .i64 x] w fun e w'=>e = .returned (.tuple #[.int .i64 0,.iface 73 (.int .i64 (k:Nat))])∧Q w') :
  Calls Tryz.prog 21 #[pv,.int .i64 x,dv] w fun e w'=>e = .returned (.iface 73 (.int .i64 (k:Nat)))∧Q w':=by
 have HC:=Lib.hid hc
 clear hc
 go_enter Tryz.func21,Tryz.ntmps21
 go_wp2_with (first | refine sL ?_ | (refine sS ?_;clear H;intros;rename_i H) | (go_at_call 59;with_reducible refine Calls.mono HC.out ?_;rintro e wc ⟨rfl,hq⟩))
 go_ret
 exact ⟨rfl,hq⟩
theorem errs_c {pv dv:Value} {x:Int} {k:Nat} {R:World→Prop} (hk:0 < k) (hc:∀ w,R w→Calls Tryz.prog 21 #[pv,.int .i64 x,dv] w fun e w'=>e = .returned (.iface 73 (.int .i64 (k:Nat)))∧R w') (w:World) (h:R w) :
  Calls Tryz.prog 50 #[pv,.int .i64 x,dv,.int .i64 (k:Nat)] w fun e w'=>e = .returned (.bool true)∧R w':=by
 have H1:=Lib.hid (fun w h=>Apply_bad hc w h)
 have H2:=Lib.hid (fun w h=>Compose_bad hc w h)
 have H3:=Lib.hid (fun w h=>Normal_bad hc w h)
 have H4:=Lib.hid (fun w h=>Cost_bad hc w h)
 have H5:=Lib.hid (fun w h=>Put_bad hc w h)
 have H6:=Lib.hid hc
 have HI:Hid (∀ w,Calls Tryz.prog 39 #[.iface 73 (.int .i64 (k:Nat)),.int .i64 (k:Nat)] w fun e w'=>e = .returned (.bool true)∧w' = w):=Lib.hid fun w=>is_ev k k hk true (by simp) w
 have HR:=Lib.hid h
 clear hc h
 go_enter Tryz.func50,Tryz.ntmps50
 go_wp2_with (first | refine sL ?_ | (refine sS ?_;clear H;intros;rename_i H) | (go_at_call 18;with_reducible refine Calls.mono (H1.out _ HR.out) ?_;rintro e wc ⟨rfl,hq⟩;clear HR;have HR:=Lib.hid hq;clear hq) | (go_at_call 29;with_reducible refine Calls.mono (H2.out _ HR.out) ?_;rintro e wc ⟨rfl,hq⟩;clear HR;have HR:=Lib.hid hq;clear hq) | (go_at_call 25;with_reducible refine Calls.mono (H3.out _ HR.out) ?_;rintro e wc ⟨rfl,hq⟩;clear HR;have HR:=Lib.hid hq;clear hq) | (go_at_call 19;with_reducible refine Calls.mono (H4.out _ HR.out) ?_;rintro e wc ⟨rfl,hq⟩;clear HR;have HR:=Lib.hid hq;clear hq) | (go_at_call 51;with_reducible refine Calls.mono (H5.out _ HR.out) ?_;rintro e wc ⟨rfl,hq⟩;clear HR;have HR:=Lib.hid hq;clear hq) | (go_at_call 21;with_reducible refine Calls.mono (H6.out _ HR.out) ?_;rintro e wc ⟨rfl,hq⟩;clear HR;have HR:=Lib.hid hq;clear hq) | (go_at_call 39;with_reducible refine same (HI.out _) ?_))
 go_ret
 exact ⟨rfl,HR.out⟩
end
section
open Go.RowKit Go.Maps
attribute [local go_sem] InGr strB_size
abbrev EPost (X:Px) (v:Value) (M:List Nat) (w:World) (e:Ending) (w':World):Prop:=∃ X':Px,e = .returned v∧X.Ext X'∧PxOk X'∧X'.S = X.S∧St w M [pA X'] w'
theorem checkPiece_text {X:Px} {size:Nat} {z:Int} {k:Nat} (hz:(z == 0) = false) (ht:∀ w,PH X w→Calls Tryz.prog 91 #[.pointer (some ⟨X.p,0,none⟩),.int .i64 z] w (EPost X (.tuple #[.int .i64 0,.iface 73 (.int .i64 (k:Nat))]) (pA X).fp w)) (w:World) (h:PH X w) :
  Calls Tryz.prog 60 #[.pointer (some ⟨X.p,0,none⟩),.int .i64 (size:Nat),.agg #[.bool false,.int .i64 0,.int .i64 0,.int .i64 z]] w (EPost X (.iface 73 (.int .i64 (k:Nat))) (pA X).fp w):=by
 have HT:Hid (∀ w,((pA X).sep deA).ho w→Calls Tryz.prog 91 #[.pointer (some ⟨X.p,0,none⟩),.int .i64 z] w (EPost X (.tuple #[.int .i64 0,.iface 73 (.int .i64 (k:Nat))]) (pA X).fp w)):=Lib.hid ht
 have h:((pA X).sep deA).ho w:=h
 rw [sep_ho] at h
 obtain ⟨k1,k2,hdd⟩:=h
 have H:=St.one k1
 have HK:Ks w (pA X).fp [deA]:=⟨by simpa using k2,by simpa using fun b hb hm=>hdd b hm hb⟩
 generalize (pA X).fp = N at H HK ⊢
 clear k1 k2 hdd ht
 go_enter Tryz.func60,Tryz.ntmps60
 go_wp2_with (first | refine sL ?_ | (refine sS ?_;clear H;intros;rename_i H) | (go_at_call 91;with_reducible refine Calls.mono (HT.out _ (H.sepK HK pk pk)) ?_;rintro e9 wc ⟨X2,rfl,y1,y2,y3,hb⟩;have HZ2:=Lib.hid (And.intro y1 (And.intro y2 y3));clear y1 y2 y3;replace H:=(H.pick (A:=pA X) pk).call hb;clear hb;simp only [List.cons_append,List.nil_append] at H))
 go_ret
 exact ⟨X2,rfl,HZ2.out.1,HZ2.out.2.1,HZ2.out.2.2,H.picks (.cons (A:=pA X2) pk .nil)⟩
theorem Check_text {X:Px} {b g:Nat} {s:List Tr} {z:Int} {k:Nat} (hX:PxOk X) (hd:IdIs X.S b s) (hz:(z == 0) = false) (ht:∀ X1:Px,X.Ext X1→PxOk X1→X1.S = X.S→∀ w,PH X1 w→Calls Tryz.prog 91 #[.pointer (some ⟨X1.p,0,none⟩),.int .i64 z] w (EPost X1 (.tuple #[.int .i64 0,.iface 73 (.int .i64 (k:Nat))]) (pA X1).fp w)) (w:World) (h:PH X w) (hr:((pA X).sep (blk g (.cells #[.bool false,.int .i64 0,.int .i64 0,.int .i64 z] 98))).ho w) :
  Calls Tryz.prog 21 #[.pointer (some ⟨X.p,0,none⟩),.int .i64 b,.slice (some ⟨g,0,none⟩) 1 1] w (EPost X (.iface 73 (.int .i64 (k:Nat))) (pA X).fp w):=by
 have h:((pA X).sep deA).ho w:=h
 rw [sep_ho] at h hr
 have H:=St.one h.1
 have HK:Ks w (pA X).fp [deA,blk g (.cells #[.bool false,.int .i64 0,.int .i64 0,.int .i64 z] 98)]:=⟨fun A hA=>by
   simp at hA
   rcases hA with rfl | rfl
   ·exact h.2.1
   ·exact hr.2.1,fun A hA b hbA hm=>by
   simp at hA
   rcases hA with rfl | rfl
   ·exact h.2.2 b hm hbA
   ·exact hr.2.2 b hm hbA⟩
 obtain ⟨size,hsz⟩:∃ n,s.length = n:=⟨_,rfl⟩
 have HBS:Hid (∀ w,((pA X).sep deA).ho w→Calls Tryz.prog 59 #[.pointer (some ⟨X.p,0,none⟩),.int .i64 b] w (EPost X (.tuple #[.int .i64 (size:Nat),.nilIface]) (pA X).fp w)):=Lib.hid fun w h=>by
  refine (baseSize_c hX hd w h).mono ?_
  rintro e w' ⟨X',y1,y2,y3,rfl,y5⟩
  exact ⟨X',by rw [hsz],y1,y2,y3,y5⟩
 have HCP:Hid (∀ X1:Px,X.Ext X1→PxOk X1→X1.S = X.S→∀ w,((pA X1).sep deA).ho w→Calls Tryz.prog 60 #[.pointer (some ⟨X.p,0,none⟩),.int .i64 (size:Nat),.agg #[.bool false,.int .i64 0,.int .i64 0,.int .i64 z]] w (EPost X1 (.iface 73 (.int .i64 (k:Nat))) (pA X1).fp w)):=Lib.hid fun X1 q1 q2 q3 w h=>by
  have:=checkPiece_text (X:=X1) (size:=size) hz (ht X1 q1 q2 q3) w h
  rwa [q1.p] at this
 generalize (pA X).fp = N at H HK ⊢
 clear h hr hX hd hsz ht hz
 go_enter Tryz.func21,Tryz.ntmps21
 go_wp2_with (first | refine sL ?_ | (refine sS ?_;clear H;intros;rename_i H) | (go_at_call 59;with_reducible refine Calls.mono (HBS.out _ (H.sepK (A:=pA X) HK pk pk)) ?_;rintro e9 wc ⟨X2,rfl,y1,y2,y3,hb⟩;have HZ2:=Lib.hid (And.intro y1 (And.intro y2 y3));clear y1 y2 y3;replace H:=(H.pick (A:=pA X) pk).call hb;clear hb;simp only [List.cons_append,List.nil_append] at H))
 refine wp_loop_rounds 1 ?_
 rw [rounds_succ]
 go_wp2_with (first | refine sL ?_ | (refine sS ?_;clear H;intros;rename_i H) | (go_at_call 60;with_reducible refine Calls.mono (HCP.out X2 HZ2.out.1 HZ2.out.2.1 HZ2.out.2.2 _ (H.sepK (A:=pA X2) HK pk pk)) ?_;rintro e9 wc ⟨X3,rfl,y1,y2,y3,hb⟩;have HZ3:=Lib.hid (And.intro y1 (And.intro y2 y3));clear y1 y2 y3;replace H:=(H.pick (A:=pA X2) pk).call hb;clear hb;simp only [List.cons_append,List.nil_append] at H))
 go_ret
 exact ⟨X3,rfl,HZ2.out.1.trans HZ3.out.1,HZ3.out.2.1,HZ3.out.2.2.trans HZ2.out.2.2,H.picks (.cons (A:=pA X3) pk .nil)⟩
def RX (X:Px) (w:World) (L:List As) (w':World):Prop:=∃ X':Px,X.Ext X'∧PxOk X'∧X'.S = X.S∧St w [] (pA X' :: L) w'
theorem Check_R {X:Px} {w w':World} {L:List As} {v dv:Value} {x:Int} (hc:∀ (X1:Px) (w':World),X.Ext X1→PxOk X1→X1.S = X.S→PH X1 w'→(∀ A∈L,((pA X1).sep A).ho w')→Calls Tryz.prog 21 #[.pointer (some ⟨X.p,0,none⟩),.int .i64 x,dv] w' (EPost X1 v (pA X1).fp w')) (hde:deA.ho w) (h:RX X w L w') :
  Calls Tryz.prog 21 #[.pointer (some ⟨X.p,0,none⟩),.int .i64 x,dv] w' fun e w''=>e = .returned v∧RX X w L w'':=by
 obtain ⟨X1,q1,q2,q3,H⟩:=h
 have HK:Ks w [] [deA]:=Ks.one hde
 refine (hc X1 w' q1 q2 q3 (H.sepK (A:=pA X1) HK .here .here) fun A hA=>?_).mono ?_
 ·rw [sep_ho]
  exact ⟨H.ho _ (by simp),H.ho _ (List.mem_cons_of_mem _ hA),(List.pairwise_cons.1 H.dis).1 A hA⟩
 ·rintro e w'' ⟨X2,rfl,y1,y2,y3,hb⟩
  have H2:=H.call hb
  simp only [List.cons_append,List.nil_append] at H2
  exact ⟨rfl,X2,q1.trans y1,y2,y3.trans q3,H2⟩
theorem pair_self (t:Tr):(Tr.pair t t).lev = none:=by
 cases h:(Tr.pair t t).lev with
 |none=>rfl
 |some a=>exact absurd rfl (lev_pair_inv h).1
end
section
open Go.RowKit Go.Maps
attribute [local go_sem] InGr strB_size
theorem ePost_of {X:Px} {v:Value} {w w':World} {e:Ending} (hX:PxOk X) (h:(pA X).ho w) (hb:e = .returned v∧St w [] [] w'):EPost X v (pA X).fp w e w' :=
 ⟨X,hb.1,.refl _,hX,rfl,(St.one h).grew hb.2.below⟩
theorem bad_nil (w:World):Calls Tryz.prog 50 #[.pointer none,.int .i64 0,.slice none 0 0,.int .i64 5] w fun e w'=>e = .returned (.bool true)∧w' = w :=
 errs_c (k:=5) (R:=fun w'=>w' = w) (by decide) (fun w1 h=>by subst h;exact Check_bad (bs_nil w1)) w rfl
theorem take_nil {dv:Value} (w:World):Calls Tryz.prog 52 #[.pointer none,.int .i64 0,dv] w fun e w'=>e = .returned (.tuple #[.slice none 0 0,.iface 73 (.int .i64 5)])∧w' = w:=Take_bad (k:=5) (bs_nil w)
theorem ph_ho {X:Px} {w:World} (h:PH X w):(pA X).ho w:=by
 have h:((pA X).sep deA).ho w:=h
 rw [sep_ho] at h
 exact h.1
theorem chk_form {X:Px} {x:Nat} {t:Tr} {dv:Value} (hX:PxOk X) (hd:Den X.S x t) (hl:t.lev = none) (w:World) (h:PH X w) :
  Calls Tryz.prog 21 #[.pointer (some ⟨X.p,0,none⟩),.int .i64 x,dv] w (EPost X (.iface 73 (.int .i64 (4:Nat))) (pA X).fp w):=by
 have:=Check_bad (k:=4) (dv:=dv) (Q:=fun w'=>∃ X':Px,X.Ext X'∧PxOk X'∧X'.S = X.S∧St w (pA X).fp [pA X'] w') ((bs_form hX hd hl w h).mono (by
  rintro e w' ⟨X',y1,y2,y3,rfl,y5⟩
  exact ⟨rfl,X',y1,y2,y3,y5⟩))
 exact this.mono (by rintro e w' ⟨rfl,X',y1,y2,y3,y5⟩;exact ⟨X',rfl,y1,y2,y3,y5⟩)
theorem chk_range {X:Px} {x:Int} {dv:Value} (hX:PxOk X) (hx:¬ (0≤x∧x≤X.S.list.length)) (w:World) (h:PH X w) :
  Calls Tryz.prog 21 #[.pointer (some ⟨X.p,0,none⟩),.int .i64 x,dv] w (EPost X (.iface 73 (.int .i64 (1:Nat))) (pA X).fp w) :=
 (Check_bad (k:=1) (bs_range hx w (ph_ho h))).mono fun e w' hb=>ePost_of hX (ph_ho h) hb
theorem take_range {X:Px} {x:Int} {dv:Value} (hx:¬ (0≤x∧x≤X.S.list.length)) (w:World) (h:(pA X).ho w) :
  Calls Tryz.prog 52 #[.pointer (some ⟨X.p,0,none⟩),.int .i64 x,dv] w fun e w'=>e = .returned (.tuple #[.slice none 0 0,.iface 73 (.int .i64 (1:Nat))])∧St w [] [] w':=Take_bad (k:=1) (bs_range hx w h)
theorem tops_form {X:Px} {x:Nat} {t:Tr} (hX:PxOk X) (hd:Den X.S x t) (hl:t.lev = none) (w:World) (h:PH X w) :
  Calls Tryz.prog 91 #[.pointer (some ⟨X.p,0,none⟩),.int .i64 x] w (EPost X (.tuple #[.int .i64 0,.iface 73 (.int .i64 (4:Nat))]) (pA X).fp w):=by
 have:=top_p hX hd w h
 rw [hl] at this
 exact this.mono (by rintro e w' ⟨X',y1,y2,y3,rfl,y5⟩;exact ⟨X',rfl,y1,y2,y3,y5⟩)
theorem tops_range {X:Px} {x:Int} (hX:PxOk X) (hx:¬ (0≤x∧x≤X.S.list.length)) (w:World) (h:PH X w) :
  Calls Tryz.prog 91 #[.pointer (some ⟨X.p,0,none⟩),.int .i64 x] w (EPost X (.tuple #[.int .i64 0,.iface 73 (.int .i64 (1:Nat))]) (pA X).fp w) :=
 (top_no hX hx w (ph_ho h)).mono fun e w' hb=>ePost_of hX (ph_ho h) hb
theorem all_R {X:Px} {w w':World} {L:List As} {dv:Value} {x:Int} {k:Nat} (hk:0 < k) (hde:deA.ho w) (h:St w [] (pA X :: L) w') (hX:PxOk X) (hc:∀ (X1:Px) (w':World),X.Ext X1→PxOk X1→X1.S = X.S→PH X1 w'→(∀ A∈L,((pA X1).sep A).ho w')→Calls Tryz.prog 21 #[.pointer (some ⟨X1.p,0,none⟩),.int .i64 x,dv] w' (EPost X1 (.iface 73 (.int .i64 (k:Nat))) (pA X1).fp w')) :
  Calls Tryz.prog 50 #[.pointer (some ⟨X.p,0,none⟩),.int .i64 x,dv,.int .i64 (k:Nat)] w' fun e w''=>e = .returned (.bool true)∧RX X w L w'' :=
 errs_c (R:=RX X w L) hk (fun w1 h1=>Check_R (fun X1 w' q1 q2 q3 h2 h3=>by have:=hc X1 w' q1 q2 q3 h2 h3;rwa [q1.p] at this) hde h1) w' ⟨X,.refl _,hX,rfl,h⟩
theorem all_form {X:Px} {w w':World} {L:List As} {x:Nat} {t:Tr} (hX:PxOk X) (hd:Den X.S x t) (hl:t.lev = none) (hde:deA.ho w) (h:St w [] (pA X :: L) w') :
  Calls Tryz.prog 50 #[.pointer (some ⟨X.p,0,none⟩),.int .i64 x,.slice none 0 0,.int .i64 4] w' fun e w''=>e = .returned (.bool true)∧RX X w L w'' :=
 all_R (k:=4) (by decide) hde h hX fun X1 w' _ q2 q3 h2 _=>chk_form q2 (by rw [q3];exact hd) hl w' h2
theorem all_range {X:Px} {w w':World} {L:List As} {x:Int} (hX:PxOk X) (hx:¬ (0≤x∧x≤X.S.list.length)) (hde:deA.ho w) (h:St w [] (pA X :: L) w') :
  Calls Tryz.prog 50 #[.pointer (some ⟨X.p,0,none⟩),.int .i64 x,.slice none 0 0,.int .i64 1] w' fun e w''=>e = .returned (.bool true)∧RX X w L w'' :=
 all_R (k:=1) (by decide) hde h hX fun X1 w' _ q2 q3 h2 _=>chk_range q2 (by rw [q3];exact hx) w' h2
theorem allt_form {X:Px} {w w':World} {L:List As} {b x g:Nat} {s:List Tr} {t:Tr} (hX:PxOk X) (hb:IdIs X.S b s) (hd:Den X.S x t) (hl:t.lev = none) (hde:deA.ho w) (h:St w [] (pA X :: blk g (.cells #[.bool false,.int .i64 0,.int .i64 0,.int .i64 x] 98) :: L) w') :
  Calls Tryz.prog 50 #[.pointer (some ⟨X.p,0,none⟩),.int .i64 b,.slice (some ⟨g,0,none⟩) 1 1,.int .i64 4] w' fun e w''=>e = .returned (.bool true)∧RX X w (blk g (.cells #[.bool false,.int .i64 0,.int .i64 0,.int .i64 x] 98) :: L) w'' :=
 all_R (k:=4) (by decide) hde h hX fun X1 w' _ q2 q3 h2 h3=>Check_text q2 (by rw [q3];exact hb) (by have:=hd.1;simp;omega) (fun X2 p1 p2 p3 w h=>tops_form p2 (by rw [p3,q3];exact hd) hl w h) w' h2 (h3 _ List.mem_cons_self)
theorem allt_range {X:Px} {w w':World} {L:List As} {b g:Nat} {x:Int} {s:List Tr} (hX:PxOk X) (hb:IdIs X.S b s) (hx:¬ (0≤x∧x≤X.S.list.length)) (hde:deA.ho w) (h:St w [] (pA X :: blk g (.cells #[.bool false,.int .i64 0,.int .i64 0,.int .i64 x] 98) :: L) w') :
  Calls Tryz.prog 50 #[.pointer (some ⟨X.p,0,none⟩),.int .i64 b,.slice (some ⟨g,0,none⟩) 1 1,.int .i64 1] w' fun e w''=>e = .returned (.bool true)∧RX X w (blk g (.cells #[.bool false,.int .i64 0,.int .i64 0,.int .i64 x] 98) :: L) w'' :=
 all_R (k:=1) (by decide) hde h hX fun X1 w' _ q2 q3 h2 h3=>Check_text q2 (by rw [q3];exact hb) (by simp;omega) (fun X2 p1 p2 p3 w h=>tops_range p2 (by rw [p3,q3];exact hx) w h) w' h2 (h3 _ List.mem_cons_self)
theorem pair_same {X:Px} {x:Nat} {s:List Tr} (hX:PxOk X) (hi:IdIs X.S x s) (h0:1≤s.length) (h1:s.length≤1000) (hroom:X.S.list.length < X.S.most) (w:World) (h:(pA X).ho w) :
  Calls Tryz.prog 43 #[.pointer (some ⟨X.s,0,none⟩),.int .i64 x,.int .i64 x] w fun e w'=>∃ (X':Px) (id:Nat) (t:Tr),e = .returned (.tuple #[.int .i64 id,.nilIface])∧X.Ext X'∧PxOk X'∧Den X'.S id t∧t.lev = none∧St w (pA X).fp [pA X'] w':=by
 rcases hi with ⟨rfl,_⟩ | ⟨T,i1,i2,rfl⟩
 ·simp at h0
 have hT:T.len≤1000:=by rw [← len_lay0 i2.gd];exact h1
 have:=pair_p i1 i1 (by unfold maxT;omega) hX w h
 refine this.mono ?_
 rintro e w' ⟨X',id,c,rfl,m1,m2,m3,m4,m5⟩
 rcases m4 with ⟨rfl,m4⟩ | ⟨_,_,_,m4⟩
 ·exact ⟨X',id,_,rfl,m1,m2,m4,pair_self T,m5⟩
 ·omega
end
section
open Go.RowKit Go.Maps
attribute [local go_sem] InGr strB_size
theorem errors_c {base:List Nat} {id:Int} (hb:∀ x∈base,x < 256) (hbl:base.length≤1152921504606846976) (w:World) (hde:deA.ho w) :
  Calls Tryz.prog 12 #[.string (strB base),.int .i64 id] w fun e w'=>e = .returned (.bool true)∧St w [] [] w':=by
 have H:=St.nil w []
 have HK:Ks w [] [deA]:=Ks.one hde
 have HDE:=Lib.hid hde
 have HAL:Hid (∀ w,deA.ho w→Calls Tryz.prog 13 #[] w fun e w'=>e = .returned (.bool true)∧St w [] [] w'):=Lib.hid fun w h=>alive_c w h
 by_cases h1:base.length < 1
 ·have d1:decide ((base.length:Int) < 1) = true:=by simp;omega
  clear h1 hb hbl hde
  go_enter Tryz.func12,Tryz.ntmps12
  go_wp2_with (first | refine sL ?_ | (refine sS ?_;clear H;intros;rename_i H) | (go_at_call 13;with_reducible refine Calls.mono (HAL.out _ (H.known HK pk)) ?_;rintro e9 wc ⟨rfl,hb⟩;replace H:=H.grew hb.below;clear hb))
  go_ret
  exact ⟨rfl,H.nix⟩
 have d1:decide ((base.length:Int) < 1) = false:=by simp;omega
 by_cases h2:64 < base.length
 ·have d2:decide ((64:Int) < (base.length:Int)) = true:=by simp;omega
  clear h1 h2 hb hbl hde
  go_enter Tryz.func12,Tryz.ntmps12
  go_wp2_with (first | refine sL ?_ | (refine sS ?_;clear H;intros;rename_i H) | (go_at_call 13;with_reducible refine Calls.mono (HAL.out _ (H.known HK pk)) ?_;rintro e9 wc ⟨rfl,hb⟩;replace H:=H.grew hb.below;clear hb))
  go_ret
  exact ⟨rfl,H.nix⟩
 have d2:decide ((64:Int) < (base.length:Int)) = false:=by simp;omega
 have HLM:Hid (1≤base.length∧base.length≤64):=Lib.hid ⟨by omega,by omega⟩
 have HPA:Hid (∀ w,deA.ho w→Calls Tryz.prog 15 #[.string (strB base)] w (ParsePost base w)):=Lib.hid fun w h=>parse_c hb (by omega) w h
 have HTN:Hid (∀ (dv:Value) w,Calls Tryz.prog 52 #[.pointer none,.int .i64 0,dv] w fun e w'=>e = .returned (.tuple #[.slice none 0 0,.iface 73 (.int .i64 5)])∧w' = w):=Lib.hid fun dv w=>take_nil w
 have HAN:Hid (∀ w,Calls Tryz.prog 50 #[.pointer none,.int .i64 0,.slice none 0 0,.int .i64 5] w fun e w'=>e = .returned (.bool true)∧w' = w):=Lib.hid bad_nil
 have HI5:Hid (∀ w,Calls Tryz.prog 39 #[.iface 73 (.int .i64 5),.int .i64 5] w fun e w'=>e = .returned (.bool true)∧w' = w):=Lib.hid fun w=>is_ev 5 5 (by decide) true (by decide) w
 have HI1:Hid (∀ w,Calls Tryz.prog 39 #[.iface 73 (.int .i64 1),.int .i64 1] w fun e w'=>e = .returned (.bool true)∧w' = w):=Lib.hid fun w=>is_ev 1 1 (by decide) true (by decide) w
 clear h1 h2 hb hbl hde
 go_enter Tryz.func12,Tryz.ntmps12
 go_wp2_with (first | refine sL ?_ | (refine sS ?_;clear H;intros;rename_i H) | (go_at_call 13;with_reducible refine Calls.mono (HAL.out _ (H.known HK pk)) ?_;rintro e9 wc ⟨rfl,hb⟩;replace H:=H.grew hb.below;clear hb) | (go_at_call 15;with_reducible refine Calls.mono (HPA.out _ (H.known HK pk)) ?_;rintro e9 wc ⟨X,x,rfl,y1,y2,y3,y4,hb⟩;have HX:=Lib.hid (And.intro y1 (And.intro y2 (And.intro y3 y4)));clear y1 y2 y3 y4;replace H:=H.call0 hb;clear hb;simp only [List.cons_append,List.nil_append] at H) | ((with_reducible refine isSlice ?_);refine AtSlice.lit H rfl rfl rfl (cs:=#[.int .u8 0]) rfl rfl rfl (by decide) (by decide) (by kernel_rfl) ?_;clear H;intro g0 _ H;simp only [Act.put,puA,puB,puC]) | (go_at_call 52;with_reducible refine same (HTN.out _ _) ?_) | (go_at_call 50;with_reducible refine same (HAN.out _) ?_) | (go_at_call 39;with_reducible refine same (HI5.out _) ?_))
 have HST:Hid (∀ Xc:Px,X.Ext Xc→∀ w,(pA Xc).ho w→Calls Tryz.prog 53 #[.pointer (some ⟨X.p,0,none⟩)] w fun e w'=>e = .returned (.pointer (some ⟨X.s,0,none⟩))∧w' = w):=Lib.hid fun Xc q w h=>by have:=store_p w h;rwa [q.p,q.s] at this
 have HPR:Hid (∀ w,(pA X).ho w→Calls Tryz.prog 43 #[.pointer (some ⟨X.s,0,none⟩),.int .i64 x,.int .i64 x] w fun e w'=>∃ (X':Px) (id:Nat) (t:Tr),e = .returned (.tuple #[.int .i64 id,.nilIface])∧X.Ext X'∧PxOk X'∧Den X'.S id t∧t.lev = none∧St w (pA X).fp [pA X'] w'):=Lib.hid fun w h=>pair_same HX.out.1 HX.out.2.2.1 (by rw [List.length_map];exact HLM.out.1) (by rw [List.length_map];have:=HLM.out;omega) (by have h1:=HLM.out;have h2:=HX.out;omega) w h
 go_wp2_with (first | refine sL ?_ | (refine sS ?_;clear H;intros;rename_i H) | (go_at_call 53;with_reducible refine same (HST.out X (.refl X) _ (H.get (A:=pA X) pk)) ?_))
 go_at_call 43
 with_reducible refine Calls.mono (HPR.out _ (H.get (A:=pA X) pk)) ?_
 rintro e9 wc ⟨X2,bad,t,rfl,y1,y2,y3,y4,hb⟩
 replace H:=(H.pick (A:=pA X) pk).call hb
 clear hb
 simp only [List.cons_append,List.nil_append] at H
 have hbx:IdIs X2.S x (base.map Tr.leaf):=HX.out.2.2.1.le HX.out.1.ok y1.le
 obtain ⟨len,hlen⟩:∃ n,X2.S.list.length = n:=⟨_,rfl⟩
 have HE2:=Lib.hid y1
 have HA1:Hid (∀ L w',St w [] (pA X2 :: L) w'→Calls Tryz.prog 50 #[.pointer (some ⟨X.p,0,none⟩),.int .i64 bad,.slice none 0 0,.int .i64 4] w' fun e w''=>e = .returned (.bool true)∧RX X2 w L w''):=Lib.hid fun L w' h=>by
  have:=all_form y2 y3 y4 HDE.out h
  rwa [y1.p] at this
 have HA2:Hid (∀ X3:Px,X2.Ext X3→PxOk X3→X3.S = X2.S→∀ g L w',St w [] (pA X3 :: blk g (.cells #[.bool false,.int .i64 0,.int .i64 0,.int .i64 bad] 98) :: L) w'→Calls Tryz.prog 50 #[.pointer (some ⟨X.p,0,none⟩),.int .i64 x,.slice (some ⟨g,0,none⟩) 1 1,.int .i64 4] w' fun e w''=>e = .returned (.bool true)∧RX X3 w (blk g (.cells #[.bool false,.int .i64 0,.int .i64 0,.int .i64 bad] 98) :: L) w''):=Lib.hid fun X3 q1 q2 q3 g L w' h=>by
  have:=allt_form q2 (by rw [q3];exact hbx) (by rw [q3];exact y3) y4 HDE.out h
  rwa [q1.p,y1.p] at this
 have HLE:Hid (∀ X3:Px,X2.Ext X3→X3.S = X2.S→∀ w,(pA X3).ho w→Calls Tryz.prog 38 #[.pointer (some ⟨X.s,0,none⟩)] w fun e w'=>e = .returned (.int .i64 (len:Nat))∧w' = w):=Lib.hid fun X3 q1 q3 w h=>by
  have:=len_c w (pA_sto h)
  rwa [q3,hlen,q1.s,y1.s] at this
 have HTR:Hid (¬ (0≤id∧id≤(len:Int))→∀ X3:Px,X2.Ext X3→X3.S = X2.S→∀ (dv:Value) w,(pA X3).ho w→Calls Tryz.prog 52 #[.pointer (some ⟨X.p,0,none⟩),.int .i64 id,dv] w fun e w'=>e = .returned (.tuple #[.slice none 0 0,.iface 73 (.int .i64 1)])∧St w [] [] w'):=Lib.hid fun hq X3 q1 q3 dv w h=>by
  have:=take_range (dv:=dv) (x:=id) (X:=X3) (by rw [q3,hlen];exact hq) w h
  rwa [q1.p,y1.p] at this
 have HA3:Hid (¬ (0≤id∧id≤(len:Int))→∀ X3:Px,X2.Ext X3→PxOk X3→X3.S = X2.S→∀ L w',St w [] (pA X3 :: L) w'→Calls Tryz.prog 50 #[.pointer (some ⟨X.p,0,none⟩),.int .i64 id,.slice none 0 0,.int .i64 1] w' fun e w''=>e = .returned (.bool true)∧RX X3 w L w''):=Lib.hid fun hq X3 q1 q2 q3 L w' h=>by
  have:=all_range q2 (x:=id) (by rw [q3,hlen];exact hq) HDE.out h
  rwa [q1.p,y1.p] at this
 have HA4:Hid (¬ (0≤id∧id≤(len:Int))→∀ X3:Px,X2.Ext X3→PxOk X3→X3.S = X2.S→∀ g L w',St w [] (pA X3 :: blk g (.cells #[.bool false,.int .i64 0,.int .i64 0,.int .i64 id] 98) :: L) w'→Calls Tryz.prog 50 #[.pointer (some ⟨X.p,0,none⟩),.int .i64 x,.slice (some ⟨g,0,none⟩) 1 1,.int .i64 1] w' fun e w''=>e = .returned (.bool true)∧RX X3 w (blk g (.cells #[.bool false,.int .i64 0,.int .i64 0,.int .i64 id] 98) :: L) w''):=Lib.hid fun hq X3 q1 q2 q3 g L w' h=>by
  have:=allt_range q2 (by rw [q3];exact hbx) (x:=id) (by rw [q3,hlen];exact hq) HDE.out h
  rwa [q1.p,y1.p] at this
 have HOK2:=Lib.hid y2
 clear y1 y2 y3 y4 hbx hlen HPR HTN HAN HI5 HPA
 go_wp2_with (first | refine sL ?_ | (refine sS ?_;clear H;intros;rename_i H) | (go_at_call 50;(with_reducible refine Calls.mono (HA1.out _ _ (H.pick (A:=pA X2) pk)) ?_);rintro e9 wc ⟨rfl,X3,p1,p2,p3,H9⟩;have HQ3:=Lib.hid (And.intro p1 (And.intro p2 p3));clear p1 p2 p3 H;have H:=H9;clear H9) | ((with_reducible refine isSlice ?_);refine AtSlice.litK H rfl rfl rfl (cs:=#[.bool false,.int .i64 0,.int .i64 0,.int .i64 bad]) rfl (by decide) (by decide) (by kernel_rfl) ?_;clear H;intro g1 _ H;simp only [Act.put,puA,puB,puC]))
 go_at_call 50
 with_reducible refine Calls.mono (HA2.out X3 HQ3.out.1 HQ3.out.2.1 HQ3.out.2.2 g1 _ _ (H.pick2 (A:=pA X3) (B:=blk g1 (.cells #[.bool false,.int .i64 0,.int .i64 0,.int .i64 bad] 98)) pk pk)) ?_
 rintro e9 wc ⟨rfl,X4,p1,p2,p3,H9⟩;have HQ4:=Lib.hid (And.intro p1 (And.intro p2 p3));clear p1 p2 p3 H;have H:=H9;clear H9
 have HR4:Hid (X2.Ext X4∧PxOk X4∧X4.S = X2.S):=Lib.hid ⟨HQ3.out.1.trans HQ4.out.1,HQ4.out.2.1,HQ4.out.2.2.trans HQ3.out.2.2⟩
 rcases Int.lt_or_le id 0 with h1 | h1
 case' inl =>
  have e1:decide (id < 0) = true:=by simpa using h1
  have hq:¬ (0≤id∧id≤(len:Int)):=by omega
 case' inr =>
  have e1:decide (id < 0) = false:=by simpa using h1
  rcases Int.lt_or_le (len:Int) id with h2 | h2
  case' inl =>
   have e2:decide ((len:Int) < id) = true:=by simpa using h2
   have hq:¬ (0≤id∧id≤(len:Int)):=by omega
  case' inr=>have e2:decide ((len:Int) < id) = false:=by simpa using h2
 case inr.inr =>
  clear h1 h2
  go_wp2_with (first | refine sL ?_ | (refine sS ?_;clear H;intros;rename_i H) | (go_at_call 53;with_reducible refine same (HST.out X4 (HE2.out.trans HR4.out.1) _ (H.get (A:=pA X4) pk)) ?_) | (go_at_call 38;with_reducible refine same (HLE.out X4 HR4.out.1 HR4.out.2.2 _ (H.get (A:=pA X4) pk)) ?_))
  go_ret
  exact ⟨rfl,H.nix⟩
 all_goals
  have HTR:=Lib.hid (HTR.out hq)
  have HA3:=Lib.hid (HA3.out hq)
  have HA4:=Lib.hid (HA4.out hq)
  clear hq h1
  try clear h2
  go_wp2_with (first | refine sL ?_ | (refine sS ?_;clear H;intros;rename_i H) | (go_at_call 53;with_reducible refine same (HST.out X4 (HE2.out.trans HR4.out.1) _ (H.get (A:=pA X4) pk)) ?_) | (go_at_call 38;with_reducible refine same (HLE.out X4 HR4.out.1 HR4.out.2.2 _ (H.get (A:=pA X4) pk)) ?_) | ((with_reducible refine isSlice ?_);refine AtSlice.lit H rfl rfl rfl (cs:=#[.int .u8 0]) rfl rfl rfl (by decide) (by decide) (by kernel_rfl) ?_;clear H;intro g2 _ H;simp only [Act.put,puA,puB,puC]) | (go_at_call 52;with_reducible refine Calls.mono (HTR.out X4 HR4.out.1 HR4.out.2.2 _ _ (H.get (A:=pA X4) pk)) ?_;rintro e9 wc ⟨rfl,hb⟩;replace H:=H.grew hb.below;clear hb))
  go_at_call 50
  with_reducible refine Calls.mono (HA3.out X4 HR4.out.1 HR4.out.2.1 HR4.out.2.2 _ _ (H.pick (A:=pA X4) pk)) ?_
  rintro e9 wc ⟨rfl,X5,p1,p2,p3,H9⟩;have HQ5:=Lib.hid (And.intro p1 (And.intro p2 p3));clear p1 p2 p3 H;have H:=H9;clear H9
  go_wp2_with (first | refine sL ?_ | (refine sS ?_;clear H;intros;rename_i H) | ((with_reducible refine isSlice ?_);refine AtSlice.litK H rfl rfl rfl (cs:=#[.bool false,.int .i64 0,.int .i64 0,.int .i64 id]) rfl (by decide) (by decide) (by kernel_rfl) ?_;clear H;intro g3 _ H;simp only [Act.put,puA,puB,puC]) | (go_at_call 50;(with_reducible refine Calls.mono (HA4.out X5 (HR4.out.1.trans HQ5.out.1) HQ5.out.2.1 (HQ5.out.2.2.trans HR4.out.2.2) g3 _ _ (H.pick2 (A:=pA X5) (B:=blk g3 (.cells #[.bool false,.int .i64 0,.int .i64 0,.int .i64 id] 98)) pk pk)) ?_);rintro e9 wc ⟨rfl,X6,p1,p2,p3,H9⟩;have HQ6:=Lib.hid (And.intro p1 (And.intro p2 p3));clear p1 p2 p3 H;have H:=H9;clear H9) | (go_at_call 39;with_reducible refine same (HI1.out _) ?_))
  go_ret
  exact ⟨rfl,H.nix⟩
end
section
open Go.RowKit Go.Maps
attribute [local go_sem] InGr
section
variable {ops:Array Oper} {a:Act} {w w0:World} {M:List Nat} {L R:List As} {o1:Oper} {Rr:Value→World→Prop}
theorem run_append_nil {t e ty:TypeId} (hte:sliceO t = some e) {z:Value} {k bytes:Nat} (hi:infoO e = some (z,k,bytes)) {n c c':Nat} {ad ad':Option Addr} (hn:n≤c) {w:World}:(Builtin.append_ #[t,t] ty #[.slice ad n c,.slice ad' 0 c']).run Tryz.prog w = .ok (.slice ad n c) w:=by
 obtain ⟨i,h2,h3,h4,h5⟩:=infoO_ok hi
 have hu:=sliceO_ok hte
 cases ad with
 |none=>cases ad' with
  |none=>simp [Builtin.append_,run_underlying hu,sizeOf,typeInfo,h2,Builtin.lenOf,Builtin.firstCells,loadCells,loadCellsFrom,storeCells,hn]
  |some x=>simp [Builtin.append_,run_underlying hu,sizeOf,typeInfo,h2,Builtin.lenOf,Builtin.firstCells,loadCells,loadCellsFrom,storeCells,hn]
 |some y=>cases ad' with
  |none=>simp [Builtin.append_,run_underlying hu,sizeOf,typeInfo,h2,Builtin.lenOf,Builtin.firstCells,loadCells,loadCellsFrom,storeCells,hn]
  |some x=>simp [Builtin.append_,run_underlying hu,sizeOf,typeInfo,h2,Builtin.lenOf,Builtin.firstCells,loadCells,loadCellsFrom,storeCells,hn]
end
end
section
open Go.ChangeShapes Go.WideShapes Go.ChangeAt Go.RowKit Go.Deep
def fits64 (z:Int):Prop:=-9223372036854775808≤z∧z≤9223372036854775807
theorem ownK:ownKnob Tryz.prog.godebug = none:=by kernel_rfl
theorem i64_wf {x:Int} (h:(Lit.int .i64 x).wf = true):fits64 x:=by
 simp [Lit.wf,IntKind.min,IntKind.max,IntKind.signed,IntKind.bits] at h
 unfold fits64
 omega
section
variable {H:Type} {enc:TypeId × Value→H} {w:World} {base:Nat} {spare:Nat→Bool} {held:Bool}
theorem arg_int {r:Reach} {b0:Nat} {v:Value} {d:DataW H} {p:List MemPlace} (hv:Value.okWide Tryz.prog w r b0 3 v) (h:DataW.Trod enc Tryz.prog w base spare held 3 v d p):∃ z,v = .int .i64 z∧fits64 z:=by
 obtain ⟨z,rfl,h1,h2,h3⟩:=open_int Tryz.underlying3 hv h
 exact ⟨z,rfl,i64_wf h3⟩
end
theorem gTab:Tryz.prog.globalNamed "math/bits.deBruijn64tab" = some 0:=by kernel_rfl
theorem tTab:(Tryz.prog.globals[0]?).map (·.type) = some 291:=by kernel_rfl
theorem tab_is {H:Type}:(Rows.laid_math_bits_deBruijn64tab:DataW H) = .agg (Lib.deBruijn64tab.map fun (n:Nat)=>.lit (.int .u8 n)):=rfl
theorem tab_of {W:World} (h:laidMetH Tryz.prog [("math/bits.deBruijn64tab",Rows.laid_math_bits_deBruijn64tab)] W):deA.ho W:=by
  rw [deA_ho]
  rw [MakeChecks.laidMetH_plain _ _ _ (by kernel_rfl)] at h
  obtain ⟨ps,⟨g0,t0,cs0,f0,p0,q0,hg0,ht0,hv0,hd0,_,_⟩,_,_⟩:=h
  obtain rfl:=Option.some.inj (gTab.symm.trans hg0)
  obtain rfl:=Option.some.inj (tTab.symm.trans ht0)
  obtain ⟨xs,m1,hfu,hx1,hlen,hn3,hel⟩:=DataW.trod_array Tryz.underlying291 hd0
  have c5:Tryz.prog.cellsOf 5 = 1:=by kernel_rfl
  have key:∀ j,j < 64→W.cell? ⟨0,j,none⟩ = some (.int .u8 (Lib.deBruijn64tab.getD j 0:Nat)):=fun j hj=>by
    have h0:=hel j hj
    rw [c5] at h0
    obtain ⟨y,hy⟩:∃ y,xs[j]? = some y:=⟨xs[j]'(by omega),List.getElem?_eq_getElem _⟩
    rw [hy] at h0
    obtain ⟨k,e1,e2,_⟩:=DataW.trod_int Tryz.underlying5 h0
    rw [tab_is] at hx1
    simp only [Prod.mk.injEq,DataW.agg.injEq] at hx1
    have e3:=congrArg (fun l:List (DataW Unit)=>l[j]?) hx1.1
    simp only [List.getElem?_map,hy,Option.map_some] at e3
    have hl : j < Lib.deBruijn64tab.length := by have : Lib.deBruijn64tab.length = 64 := by decide
                                                 omega
    rw [List.getElem?_eq_getElem hl,Option.map_some] at e3
    have hk:k = (Lib.deBruijn64tab[j]:Nat):=by
      have:=Option.some.inj e3
      rw [e2] at this
      simp at this
      exact this.symm
    have hcl:=World.var?_cell hg0 hv0 j
    have e4:cs0.toList[j]? = some (.int .u8 k):=by
      have:=congrArg List.head? e1
      rw [Nat.mul_one,List.head?_take,if_neg (by omega),List.head?_drop] at this
      simpa using this
    rw [hcl,← Array.getElem?_toList,e4,hk]
    simp [List.getD,hl]
  have h64:Lib.deBruijn64tab.length = 64:=by decide
  exact ⟨fun j hj=>key j (by omega),by have:=block_lt_of_cell (key 0 (by omega));exact this⟩
theorem door_met (os:Os) (args:Array Value):laidMetH Tryz.prog [("math/bits.deBruijn64tab",Rows.laid_math_bits_deBruijn64tab)] ((World.doorLaid Tryz.prog 400 os).forCall (fun _ _=>0) ⟨#[],args,[]⟩).memory :=
 laidMetH_of_parts3 (fuel:=80) (laidMet_of_run' 80 (by kernel_rfl) (by kernel_rfl)) (by kernel_rfl) (by kernel_rfl)
end
section
open Go.ChangeShapes Go.WideShapes Go.ChangeAt Go.RowKit Go.Deep
open Go.ChangeMaps (open_string shut_string)
theorem strB_of (b:ByteArray):∃ L:List Nat,b = strB L∧∀ x∈L,x < 256:=by
 refine ⟨b.data.toList.map UInt8.toNat,?_,?_⟩
 ·apply ByteArray.ext
  unfold strB
  apply Array.ext'
  have e:∀ l:List UInt8,l = (l.map UInt8.toNat).map UInt8.ofNat:=fun l=>by
   induction l with
   |nil=>rfl
   |cons x l ih=>rw [List.map_cons,List.map_cons,← ih,UInt8.ofNat_toNat]
  exact e _
 ·intro x hx
  obtain ⟨u,_,rfl⟩:=List.mem_map.1 hx
  exact u.toNat_lt
theorem strB_dlen (L:List Nat):(strB L).data.toList.length = L.length:=by
 have h1:=strB_size L
 have h2:(strB L).data.toList.length = (strB L).size:=Array.length_toList
 omega
section
variable {H:Type} {enc:TypeId × Value→H} {w:World} {base:Nat} {spare:Nat→Bool} {held:Bool}
instance:Inhabited Pz:=⟨⟨false,0,0,[]⟩⟩
end
end
end Go.Proofs.YtgnppnokkdghcaaGreatDoor
section
namespace Go.Proofs.YtgnppnokkdghcaaGreatDoor.lawDeltaErrors
open Go.ChangeShapes Go.WideShapes Go.ChangeAt Go.RowKit
open Go.ChangeMaps (open_string shut_string)
open Go.Proofs.YtgnppnokkdghcaaGreatDoor
set_option linter.unusedVariables false
set_option maxRecDepth 100000 in
theorem lifted (os:Os) (started:os.Started) (H:Type) (enc:TypeId × Value→H) :
  ReturnsInHanded {} Tryz.checked os 12 .any (fun w args=>(Rows.deltaErrorsSpec.pre enc Tryz.prog Tryz.f12 [] false w args∧laidMetH Tryz.prog [("math/bits.deBruijn64tab",Rows.laid_math_bits_deBruijn64tab)] w)∧sizedMet enc Tryz.prog Tryz.f12 (OpenSpec.ofChange Rows.deltaErrorsSpec) false w args)
   (Rows.deltaErrorsSpec.post enc Tryz.prog Tryz.f12 false true false false):=by
 refine returnsInHanded_of_change_and (C:=Tryz.checked) (X:=fun w _=>laidMetH Tryz.prog [("math/bits.deBruijn64tab",Rows.laid_math_bits_deBruijn64tab)] w) (fun _ _ _ hh h=>h.of_heap hh) ownK started (by kernel_rfl) Tryz.func12
  (ChangeSpec.witness_shaped (enc:=enc) (C:=Tryz.checked) (os:=os) (X:=fun w _=>laidMetH Tryz.prog [("math/bits.deBruijn64tab",Rows.laid_math_bits_deBruijn64tab)] w) false (World.doorLaid Tryz.prog 400 os) #[.string ⟨#[]⟩,.int .i64 0] 8 rfl (World.shaped_of_RefB (by kernel_rfl) (by kernel_rfl)) (by kernel_rfl) (by kernel_rfl) (by kernel_rfl) (door_met os _)) ?_
 intro W base args ds gs before hval0 hW _ hsz0 hL _
 have hval:∀ (j:Nat) t v,Tryz.f12.params[j]? = some t→args[j]? = some v→Value.okWide Tryz.prog W .any base t v:=hval0
 have hW':=hW
 obtain ⟨p,q,hA0,hV,rfl,hfz,hnd⟩:=hW
 have hA:DataW.TrodAll enc Tryz.prog W 0 (fun _=>true) true Tryz.f12.params.toList args.toList ds p:=hA0
 have hsz:(DataW.weightsEach Tryz.prog (Tryz.f12.params.toList ++ Rows.deltaErrorsSpec.plain.varTypes Tryz.prog) (ds ++ gs)).all (·≤reachBytes) = true:=hsz0
 rw [Tryz.params12] at hA hval hsz
 obtain ⟨v0,vs0,d0,ds0,p0,q0,hargs,rfl,rfl,h0,r0⟩:=trodAll_cons hA
 obtain ⟨v1,vs1,d1,ds1,p1,q1,rfl,rfl,rfl,h1,r1⟩:=trodAll_cons r0
 obtain ⟨rfl,rfl,rfl⟩:=trodAll_nil r1
 obtain rfl:args = #[v0,v1]:=by cases args;simp_all
 obtain ⟨rfl,rfl⟩:=trodVars_none hV
 have k0:=h0
 have lt0:∀ x∈p0,x.block < W.heap.size:=by obtain ⟨m,hm⟩:=k0;exact DataW.trod_lt m _ _ _ hm
 have k1:=h1
 have lt1:∀ x∈p1,x.block < W.heap.size:=by obtain ⟨m,hm⟩:=k1;exact DataW.trod_lt m _ _ _ hm
 obtain ⟨s0,rfl,rfl,rfl,-⟩:=open_string Tryz.underlying9 (hval 0 9 v0 rfl rfl) h0
 obtain ⟨L0,rfl,b0⟩:=strB_of s0
 have n0:L0.length≤1152921504606846976:=by
  have h1:=sized_string hsz (j:=0) rfl rfl
  have h2:=reachBytes_lt
  rw [strB_dlen] at h1
  omega
 obtain ⟨z1,rfl,_⟩:=arg_int (hval 1 3 v1 rfl rfl) h1
 have hde:=tab_of hL
 clear hA0 hval0 hsz0
 refine (errors_c b0 n0 W hde ).mono fun e W' ⟨he,bel⟩=>?_
 subst he
 exact ⟨_,rfl,_,_,_,[],_,[],hW',trodAll_mk1 (shut_bool Tryz.underlying4 _),(trodAll_cons_mk (Below.trod laidOut_ok (by kernel_rfl) (of_decide_eq_true (by kernel_rfl)) k0 bel.below lt0) (trodAll_cons_mk (Below.trod laidOut_ok (by kernel_rfl) (of_decide_eq_true (by kernel_rfl)) k1 bel.below lt1) trodAll_mk0)),rfl,bel.below.frame _,fun h=>by cases h⟩
theorem over:Rows.deltaErrorsRow.holds Tryz.pinned (OpenSpec.ofChange Rows.deltaErrorsSpec) :=
 OpenClaim.holds_of_wide 12 Tryz.f12 rfl rfl rfl rfl rfl rfl rfl ⟨rfl,rfl,rfl,rfl,rfl⟩ rfl rfl rfl rfl rfl (by kernel_rfl) Tryz.func12 (by kernel_rfl)
  (of_decide_eq_true (by kernel_rfl)) (by unfold Func.isWrapper;first | (rw [if_pos (by decide +kernel)];kernel_rfl) | (rw [if_neg (by decide +kernel)];exact ⟨rfl,rfl⟩))
  (fun os started H enc _=>lifted os started H enc)
theorem proved:Rows.DeltaErrorsCardSaid :=
 Claim7.holds_tied_plain_at .later [] [.data] true (true,"6e50a225e209f2ae990c6073ab2e17c0e24770994b7a6d006b0bd6af646f7499") true
  over (fun _ h=>by cases h) (by kernel_rfl) (fun _ h=>by cases h) deltaErrors_row_tie rfl ⟨rfl,rfl⟩ (by kernel_rfl) rfl
  (fun f fn hf hfn=>by
   obtain rfl:f = 12:=Option.some.inj ((show Tryz.prog.funcNamed "evergreen/evergreenlaw41.DeltaErrors" = some 12 by kernel_rfl).symm.trans hf) |>.symm
   obtain rfl:fn = Tryz.f12:=(Option.some.inj (Tryz.func12.symm.trans hfn)).symm
   exact ⟨by kernel_rfl,fun j t ht=>by
    rw [Tryz.params12] at ht
    have hm:t∈[9,3]:=by simpa using Array.mem_of_getElem? ht
    have hall:([9,3].all fun u=>!Tryz.prog.wantsStandIn u) = true:=by kernel_rfl
    exact (show Tryz.prog.wantsStandIn t = false by simpa using List.all_eq_true.1 hall t hm)⟩)
  (by kernel_rfl)
#print axioms proved
end Go.Proofs.YtgnppnokkdghcaaGreatDoor.lawDeltaErrors
end
namespace Go.Proofs.YtgnppnokkdghcaaGreatDoor
end Go.Proofs.YtgnppnokkdghcaaGreatDoor
