/-
  Part 3 of the texts behind the statements of this seat: walks and laws Fx, Fw, Fy, Fz, Ga, Dh, Dl, Fn. Conditions: as each states.
-/
import Derived.Test.YtgnppnokkdghcaaGreatDoorAn2
import Derived.ChangeMaps5
import Derived.ChangeOld
import Derived.Deep.Slices
import Derived.LaidMore
import Derived.Laws.Rows
import Derived.Lib.SmallJoins
import Derived.OpenShut
import Derived.ProofKit
import Derived.SevenTiedAt
import Derived.ShutString
import Derived.SizedLaws
import Derived.Stop.Joined
import Derived.Test.YtgnppnokkdghcaaGreatDoorCards
import Derived.Test.YtgnppnokkdghcaaGreatDoorTie
set_option linter.unusedSimpArgs false
set_option linter.unusedVariables false
set_option maxRecDepth 100000
set_option maxHeartbeats 80000000
namespace Go.Proofs.YtgnppnokkdghcaaGreatDoor
section
open Go.RowKit Go.Maps
attribute [local go_sem] InGr strB_size
abbrev JnPost (X:Px) (qs:List Pz) (k:Nat) (M:List Nat) (w:World) (e:Ending) (w':World):Prop :=
 ∃ (X':Px) (v':Value) (ps:List Pi),e=.returned (.tuple #[v',.nilIface])∧X.Ext X'∧PxOk X'∧PiL X'.S ps qs∧X'.S.list.length≤X.S.list.length+k∧St w M [pA X',rowsA encPi 98 4 v' ps] w'
theorem chk_text {s:Nat} {f n:Int} {t:List Nat} (h:chkP s ⟨false,f,n,t⟩=0):f=0∧n=0:=by
 unfold chkP at h
 simp only [Bool.false_eq_true,if_false] at h
 by_cases h9:f≠0∨n≠0∨t=[]
 ·rw [if_pos h9] at h;cases h
 ·exact ⟨by by_cases h:f=0;exact h;exact absurd (.inl h) h9,by by_cases h:n=0;exact h;exact absurd (.inr (.inl h)) h9⟩
def JoRel (X:Px) (N:List Nat) (w:World) (qs:List Pz) (n T m:Nat) (v1 v:Value) (wr:World):Prop :=
 ∃ (i:Nat) (X1:Px) (out:List Pi),m=n-i∧i≤n∧v=.int .i64 i∧(PiL X1.S out (nrm (qs.take i))∧X.Ext X1∧PxOk X1∧X1.S.list.length≤X.S.list.length+i*T∧∀ q,qs[i]?=some q→nst (nrm (qs.take i)) q=nrm (qs.take i)++[q])∧St w N [pA X1,rowsA encPi 98 4 v1 out] wr
theorem normjoin_c {X:Px} {ps:List Pi} {qs:List Pz} {ad:Option Addr} {c s:Nat} (hX:PxOk X) (hps:PiL X.S ps qs) (hn:ps.length≤1024) (hall:∀ q∈qs,chkP s q=0) (hs:s≤1048576) (htx:txL qs≤1048576) (hroom:X.S.list.length+ps.length*txL qs≤X.S.most) (w:World) (h:PH X w) (hr:((pA X).sep (rowsA encPi 98 4 (.slice ad ps.length c) ps)).ho w) :
  Calls Tryz.prog 65 #[.pointer (some ⟨X.p,0,none⟩),.slice ad ps.length c] w (JnPost X (nrm qs) (ps.length*txL qs) (pA X).fp w):=by
 have h:((pA X).sep deA).ho w:=h
 rw [sep_ho] at h hr
 have H:=St.one h.1
 have HK:Ks w (pA X).fp [deA,(rowsA encPi 98 4 (.slice ad ps.length c) ps)]:=⟨fun A hA=>by
   simp at hA
   rcases hA with rfl|rfl
   ·exact h.2.1
   ·exact hr.2.1,fun A hA b hbA hm=>by
   simp at hA
   rcases hA with rfl|rfl
   ·exact h.2.2 b hm hbA
   ·exact hr.2.2 b hm hbA⟩
 generalize (pA X).fp=N at *
 clear h hr
 obtain ⟨n,hnn⟩:∃ n,ps.length=n:=⟨_,rfl⟩
 have hsl:=hps.len
 rw [hnn] at hsl hn HK ⊢
 have HRW:Hid (∀ (i:Nat) (a:Pi),ps[i]?=some a→∃ g,ad=some ⟨g,0,none⟩∧∀ w,(rowsA encPi 98 4 (.slice ad n c) ps).ho w→w.rangeAt g (i*4) [.bool a.c,.int .i64 a.f,.int .i64 a.n,.int .i64 a.id]):=Lib.hid fun i a hi=>by
  obtain ⟨g,c8,e1,_⟩:=rowsA_cases (HK.ho (rowsA encPi 98 4 (.slice ad n c) ps) (by simp)) (by have:=gelt hi;omega)
  injection e1 with e1 _ _
  exact ⟨g,e1,fun w h=>by rw [e1] at h;exact rowsA_rng h encPi_len hi⟩
 obtain ⟨T,hT⟩:∃ m,txL qs=m:=⟨_,rfl⟩
 rw [hT] at hroom htx ⊢
 rw [hnn] at hroom
 have HIN:Hid (PiL X.S ps qs∧ps.length=n∧qs.length=n∧(∀ q∈qs,chkP s q=0)∧PxOk X∧s≤1048576∧txL qs=T∧T≤1048576∧X.S.list.length+n*T≤X.S.most):=Lib.hid ⟨hps,hnn,by omega,hall,hX,hs,hT,htx,hroom⟩
 clear hX hps hall hs htx hroom hT hnn hsl
 go_enter Tryz.func65,Tryz.ntmps65
 go_wp2_with (first|refine sL ?_|(refine sS ?_;clear H;intros;rename_i H))
 replace H:=H.empty (A:=rowsA encPi 98 4 (.slice none 0 0) []) (rowsA_nil _) (by rw [rowsA_fp'];rfl)
 go_loopg [6,7] n (fun m v1 v2 wr=>JoRel X N w qs n T m v1 v2 wr)
 case atStart=>exact ⟨0,X,[],rfl,Nat.zero_le _,rfl,⟨trivial,.refl _,HIN.out.2.2.2.2.1,by omega,fun q _=>rfl⟩,H.picks (.cons (A:=pA X) pk (.cons (A:=rowsA encPi 98 4 (.slice none 0 0) []) pk .nil))⟩
 case round =>
  clear H
  obtain ⟨i,X1,out,rfl,hik,rfl,hrel,H⟩:=hrel
  have HX1:=Lib.hid hrel
  obtain ⟨ad2,c2,rfl,_⟩:=rowsA_shape (H.get (A:=rowsA encPi 98 4 _ out) pk)
  by_cases hlt:i<n
  ·obtain ⟨p,hp⟩:∃ a,ps[i]?=some a:=⟨_,List.getElem?_eq_getElem (by rw [HIN.out.2.1];exact hlt)⟩
   obtain ⟨q,hq,hpq⟩:=HIN.out.1.get hp
   obtain ⟨g,rfl,hcell⟩:=HRW.out i p hp
   have d5:decide ((i:Int)<(n:Int))=true:=by simp;omega
   have d5n:decide (i<n)=true:=by simp;omega
   have HRX:=Lib.hid hcell
   have hiL:i≤1024:=by omega
   obtain ⟨i1,hi1⟩:∃ n,i+1=n:=⟨_,rfl⟩
   have HI1:=Lib.hid hi1
   have hck:=HIN.out.2.2.2.1 q (List.mem_of_getElem? hq)
   have HNS:=Lib.hid (And.intro hck (And.intro (nrm_take_succ hq) (hrel.2.2.2.2 q hq)))
   obtain ⟨pc,pf,pn,id⟩:=p
   obtain ⟨qc,qf,qn,qt⟩:=q
   obtain ⟨g1,g2,g3,g4⟩:=hpq
   simp only at g1 g2 g3 g4 HRX
   subst g1 g2 g3
   have HG4:=Lib.hid g4
   clear hrel hp hq hcell hck g4 hi1
   cases pc with
   |true =>
    go_wp2_with (first|refine sL ?_|(refine sS ?_;clear H;intros;rename_i H)|((with_reducible refine isLoad ?_);refine AtLoad.rngT rfl rfl rfl (HRX.out _ (H.known HK (A:=rowsA encPi 98 4 (.slice (some ⟨g,0,none⟩) n c) ps) pk)) rfl ?_;simp only [Act.put,puA,puB,puC]))
    rename Nat=>b
    obtain ⟨e1,e2⟩:=chk_pos HNS.out.1
    obtain ⟨e3,e4,e5⟩:=e2 rfl
    simp only at e1 e3 e4 e5
    obtain ⟨f,rfl⟩:∃ f:Nat,pf=f:=⟨pf.toNat,by omega⟩
    obtain ⟨m0,rfl⟩:∃ f:Nat,pn=f:=⟨pn.toNat,by omega⟩
    clear e1 e2 e3 e4 e5
    have HOL:Hid (out.length≤1024):=Lib.hid (by have h1:=HX1.out.1.len;have h2:=nrm_len (qs.take i);rw [List.length_take] at h2;omega)
    go_loopg [7] n (fun m v wr=>∃ (j mm:Nat),m=n-(j-(i+1))∧j≤n∧v=.int .i64 j∧(i+1≤j∧nrm (qs.take j)=nrm (qs.take i)++[(⟨true,f,mm,qt⟩:Pz)])∧St w N [pA X1,rowsA encPi 98 4 (.slice ad2 out.length c2) out,blk b (.cells #[.bool true,.int .i64 f,.int .i64 mm,.int .i64 id] 98)] wr)
    case atStart=>exact ⟨i+1,m0,by omega,by omega,by go_num,⟨Nat.le_refl _,by rw [HNS.out.2.1,HNS.out.2.2]⟩,H.picks (.cons (A:=pA X1) pk (.cons (A:=rowsA encPi 98 4 (.slice ad2 out.length c2) out) pk (.cons (A:=blk b (.cells #[.bool true,.int .i64 f,.int .i64 m0,.int .i64 id] 98)) pk .nil)))⟩
    case round =>
     clear H
     obtain ⟨j,mm,rfl,hjk,rfl,hrel,H⟩:=hrel
     have HJR:=Lib.hid hrel
     have hkc:chkP s ⟨true,f,mm,qt⟩=0:=nrm_chk (qs:=qs.take j) (fun q hq=>HIN.out.2.2.2.1 q (List.mem_of_mem_take hq)) _ (by rw [hrel.2];simp)
     obtain ⟨e1,e2⟩:=chk_pos hkc
     obtain ⟨e3,e4,e5⟩:=e2 rfl
     simp only at e1 e3 e4 e5
     have hs9:=HIN.out.2.2.2.2.2.1
     obtain ⟨z,hz⟩:∃ e,f+mm=e:=⟨_,rfl⟩
     have y1:(f:Int)+(mm:Int)=(z:Int):=by omega
     have y3:z≤1048576:=by omega
     have hjL:j≤1024:=by omega
     clear hrel hkc e1 e2 e3 e4 e5 hs9
     by_cases hlj:j<n
     ·obtain ⟨p2,hp2⟩:∃ a,ps[j]?=some a:=⟨_,List.getElem?_eq_getElem (by rw [HIN.out.2.1];exact hlj)⟩
      obtain ⟨q2,hq2,hpq2⟩:=HIN.out.1.get hp2
      have d6:decide ((j:Int)<(n:Int))=true:=by simp;omega
      have d6n:decide (j<n)=true:=by simp;omega
      have hck2:=HIN.out.2.2.2.1 q2 (List.mem_of_getElem? hq2)
      have HN2:=Lib.hid (And.intro hck2 (nrm_take_succ hq2))
      have HQ2:=Lib.hid hq2
      obtain ⟨pc2,pf2,pn2,id2⟩:=p2
      obtain ⟨qc2,qf2,qn2,qt2⟩:=q2
      obtain ⟨g1,g2,g3,g4⟩:=hpq2
      simp only at g1 g2 g3 g4
      subst g1 g2 g3
      have hcl:∀ w,(rowsA encPi 98 4 (.slice (some ⟨g,0,none⟩) n c) ps).ho w→w.cell? ⟨g,j*4,none⟩=some (.bool pc2)∧w.cell? ⟨g,j*4+1,none⟩=some (.int .i64 pf2)∧w.cell? ⟨g,j*4+2,none⟩=some (.int .i64 pn2):=fun w h=>⟨rowsA_cell h encPi_len hp2 (j:=0) rfl,rowsA_cell h encPi_len hp2 (j:=1) rfl,rowsA_cell h encPi_len hp2 (j:=2) rfl⟩
      have HO0:=Lib.hid fun w h=>(hcl w h).1
      have HO1:=Lib.hid fun w h=>(hcl w h).2.1
      have HO2:=Lib.hid fun w h=>(hcl w h).2.2
      clear hcl hp2 hq2 hck2 g4
      cases pc2 with
      |false =>
       go_wp2_with (first|refine sL ?_|(refine sS ?_;clear H;intros;rename_i H))
       refine wp_region_h H 24 [] [] (by kernel_rfl) (by kernel_rfl) ?_
       apply Exists.intro
       refine ⟨fun w1 hw1 HX=>?_,fun bs wr Hr=>?_⟩
       ·refine sG ?_
        repeat (first|go_big_quiet_skip|refine sQ ?_|go_big_quiet_step (fail))
        exact wpQuiet_nil rfl
       clear H
       have H:=Hr
       clear Hr
       replace H:=sH H;refine sT ?_
       go_wp2_with (first|refine sL ?_|(refine sS ?_;clear H;intros;rename_i H)|((with_reducible refine isSlice ?_);refine AtSlice.one H rfl rfl rfl rfl rfl rfl rfl rfl rfl ?_;clear H;intro b9 _ H;simp only [Act.put,puA,puB,puC])|((with_reducible refine isAppend ?_);refine AtAppend.go (enc:=encPi) H rfl rfl rfl rfl rfl (by decide) (by decide) rfl pk rfl (H.at pk) [(⟨true,f,mm,id⟩:Pi)] rfl (by simp [flatG,encPi]) encPi_len encPi_one (by have:=HOL.out;simp;omega) ?_;clear H;intro ad9 cp9 _ H;simp only [Act.put,puA,puB,puC]))
       go_roundg (n-j)
       case measure=>have:=HJR.out.1;omega
       case rel =>
        have h1:=HX1.out
        have h5:i*T≤j*T:=Nat.mul_le_mul_right _ (by have:=HJR.out.1;omega)
        refine ⟨j,X1,out++[(⟨true,f,mm,id⟩:Pi)],rfl,by omega,rfl,⟨?_,h1.2.1,h1.2.2.1,by omega,?_⟩,H.picks (.cons (A:=pA X1) pk (.cons (A:=rowsA encPi 98 4 (.slice ad9 (out.length+1) cp9) (out++[(⟨true,f,mm,id⟩:Pi)])) pk .nil))⟩
        ·rw [HJR.out.2]
         exact h1.1.append ⟨⟨rfl,rfl,rfl,HG4.out.le HIN.out.2.2.2.2.1.ok h1.2.1.le⟩,trivial⟩
        ·intro q9 hq9
         rw [HQ2.out] at hq9
         cases hq9
         rw [HJR.out.2,nst_none (by simp [jn])]
      |true =>
       obtain ⟨e1,e2⟩:=chk_pos HN2.out.1
       obtain ⟨e3,e4,e5⟩:=e2 rfl
       simp only at e1 e3 e4 e5
       obtain ⟨f2,rfl⟩:∃ f:Nat,pf2=f:=⟨pf2.toNat,by omega⟩
       obtain ⟨m2,rfl⟩:∃ f:Nat,pn2=f:=⟨pn2.toNat,by omega⟩
       have hs9:=HIN.out.2.2.2.2.2.1
       obtain ⟨m3,hm3⟩:∃ e,mm+m2=e:=⟨_,rfl⟩
       have y2:(mm:Int)+(m2:Int)=(m3:Int):=by omega
       have y4:m3≤2097152:=by omega
       by_cases hzf:z=f2
       ·have HJ:Hid (jn ⟨true,f,mm,qt⟩ ⟨true,f2,m2,qt2⟩=some ⟨true,f,m3,qt⟩):=Lib.hid (by rw [← y2,← hzf,← y1];simp [jn])
        subst hzf
        have y5:((z:Int)==(z:Int))=true:=by simp
        clear e1 e2 e3 e4 e5 hs9 hz hm3
        go_wp2_with (first|refine sL ?_|(refine sS ?_;clear H;intros;rename_i H))
        refine wp_region_h H 24 [] [] (by kernel_rfl) (by kernel_rfl) ?_
        apply Exists.intro
        refine ⟨fun w1 hw1 HX=>?_,fun bs wr Hr=>?_⟩
        ·refine sG ?_
         repeat (first|go_big_quiet_skip|refine sQ ?_|go_big_quiet_step (fail))
         exact wpQuiet_nil rfl
        clear H
        have H:=Hr
        clear Hr
        replace H:=sH H;refine sT ?_
        go_wp2_with (first|refine sL ?_|(refine sS ?_;clear H;intros;rename_i H))
        refine wp_region_h H 9 [] [] (by kernel_rfl) (by kernel_rfl) ?_
        apply Exists.intro
        refine ⟨fun w1 hw1 HX=>?_,fun bs wr Hr=>?_⟩
        ·refine sG ?_
         repeat (first|refine sQ ?_|go_big_quiet_step (fail))
         exact wpQuiet_nil rfl
        clear H
        have H:=Hr
        clear Hr
        replace H:=sH H;refine sT ?_
        go_wp2_with (first|refine sL ?_|(refine sS ?_;clear H;intros;rename_i H))
        go_roundg (n-(j+1-(i+1)))
        case measure=>have:=HJR.out.1;omega
        case rel =>
         have h1:=HJR.out
         exact ⟨j+1,m3,rfl,by omega,rfl,⟨by omega,by rw [HN2.out.2,h1.2,nst_join HJ.out]⟩,H.picks (.cons (A:=pA X1) pk (.cons (A:=rowsA encPi 98 4 (.slice ad2 out.length c2) out) pk (.cons (A:=blk b (.cells #[.bool true,.int .i64 f,.int .i64 m3,.int .i64 id] 98)) pk .nil)))⟩
       ·have HJ:Hid (jn ⟨true,f,mm,qt⟩ ⟨true,f2,m2,qt2⟩=none):=Lib.hid (by
         unfold jn
         rw [if_neg (fun h=>hzf (by have:=h.2.2;simp only at this;omega)),if_neg (by simp)])
        have y5:((f2:Int)==(z:Int))=false:=by simp;omega
        clear e1 e2 e3 e4 e5 hs9 hz hm3 hzf
        go_wp2_with (first|refine sL ?_|(refine sS ?_;clear H;intros;rename_i H))
        refine wp_region_h H 24 [] [] (by kernel_rfl) (by kernel_rfl) ?_
        apply Exists.intro
        refine ⟨fun w1 hw1 HX=>?_,fun bs wr Hr=>?_⟩
        ·refine sG ?_
         repeat (first|go_big_quiet_skip|refine sQ ?_|go_big_quiet_step (fail))
         exact wpQuiet_nil rfl
        clear H
        have H:=Hr
        clear Hr
        replace H:=sH H;refine sT ?_
        go_wp2_with (first|refine sL ?_|(refine sS ?_;clear H;intros;rename_i H)|((with_reducible refine isSlice ?_);refine AtSlice.one H rfl rfl rfl rfl rfl rfl rfl rfl rfl ?_;clear H;intro b9 _ H;simp only [Act.put,puA,puB,puC])|((with_reducible refine isAppend ?_);refine AtAppend.go (enc:=encPi) H rfl rfl rfl rfl rfl (by decide) (by decide) rfl pk rfl (H.at pk) [(⟨true,f,mm,id⟩:Pi)] rfl (by simp [flatG,encPi]) encPi_len encPi_one (by have:=HOL.out;simp;omega) ?_;clear H;intro ad9 cp9 _ H;simp only [Act.put,puA,puB,puC]))
        go_roundg (n-j)
        case measure=>have:=HJR.out.1;omega
        case rel =>
         have h1:=HX1.out
         have h5:i*T≤j*T:=Nat.mul_le_mul_right _ (by have:=HJR.out.1;omega)
         refine ⟨j,X1,out++[(⟨true,f,mm,id⟩:Pi)],rfl,by omega,rfl,⟨?_,h1.2.1,h1.2.2.1,by omega,?_⟩,H.picks (.cons (A:=pA X1) pk (.cons (A:=rowsA encPi 98 4 (.slice ad9 (out.length+1) cp9) (out++[(⟨true,f,mm,id⟩:Pi)])) pk .nil))⟩
         ·rw [HJR.out.2]
          exact h1.1.append ⟨⟨rfl,rfl,rfl,HG4.out.le HIN.out.2.2.2.2.1.ok h1.2.1.le⟩,trivial⟩
         ·intro q9 hq9
          rw [HQ2.out] at hq9
          cases hq9
          rw [HJR.out.2,nst_none (HJ.out)]
     ·have d6:decide ((j:Int)<(n:Int))=false:=by simp;omega
      have d6n:decide (j<n)=false:=by simp;omega
      clear hz
      go_wp2_with (first|refine sL ?_|(refine sS ?_;clear H;intros;rename_i H))
      refine wp_region_h H 24 [] [] (by kernel_rfl) (by kernel_rfl) ?_
      apply Exists.intro
      refine ⟨fun w1 hw1 HX=>?_,fun bs wr Hr=>?_⟩
      ·refine sG ?_
       repeat (first|go_big_quiet_skip|refine sQ ?_|go_big_quiet_step (fail))
       exact wpQuiet_nil rfl
      clear H
      have H:=Hr
      clear Hr
      replace H:=sH H;refine sT ?_
      go_wp2_with (first|refine sL ?_|(refine sS ?_;clear H;intros;rename_i H)|((with_reducible refine isSlice ?_);refine AtSlice.one H rfl rfl rfl rfl rfl rfl rfl rfl rfl ?_;clear H;intro b9 _ H;simp only [Act.put,puA,puB,puC])|((with_reducible refine isAppend ?_);refine AtAppend.go (enc:=encPi) H rfl rfl rfl rfl rfl (by decide) (by decide) rfl pk rfl (H.at pk) [(⟨true,f,mm,id⟩:Pi)] rfl (by simp [flatG,encPi]) encPi_len encPi_one (by have:=HOL.out;simp;omega) ?_;clear H;intro ad9 cp9 _ H;simp only [Act.put,puA,puB,puC]))
      go_roundg (n-j)
      case measure=>have:=HJR.out.1;omega
      case rel =>
       have h1:=HX1.out
       have h5:i*T≤j*T:=Nat.mul_le_mul_right _ (by have:=HJR.out.1;omega)
       refine ⟨j,X1,out++[(⟨true,f,mm,id⟩:Pi)],rfl,by omega,rfl,⟨?_,h1.2.1,h1.2.2.1,by omega,?_⟩,H.picks (.cons (A:=pA X1) pk (.cons (A:=rowsA encPi 98 4 (.slice ad9 (out.length+1) cp9) (out++[(⟨true,f,mm,id⟩:Pi)])) pk .nil))⟩
       ·rw [HJR.out.2]
        exact h1.1.append ⟨⟨rfl,rfl,rfl,HG4.out.le HIN.out.2.2.2.2.1.ok h1.2.1.le⟩,trivial⟩
       ·intro q9 hq9
        exact absurd hq9 (by rw [List.getElem?_eq_none (by rw [HIN.out.2.2.1];omega)];simp)
   |false =>
    have hf0:pf=0∧pn=0:=by
     have:=HNS.out.1
     unfold chkP at this
     simp only [Bool.false_eq_true,if_false] at this
     by_cases h9:pf≠0∨pn≠0∨qt=[]
     ·rw [if_pos h9] at this;cases this
     ·exact ⟨by by_cases h:pf=0;exact h;exact absurd (.inl h) h9,by by_cases h:pn=0;exact h;exact absurd (.inr (.inl h)) h9⟩
    obtain ⟨rfl,rfl⟩:=hf0
    go_wp2_with (first|refine sL ?_|(refine sS ?_;clear H;intros;rename_i H)|((with_reducible refine isLoad ?_);refine AtLoad.rngT rfl rfl rfl (HRX.out _ (H.known HK (A:=rowsA encPi 98 4 (.slice (some ⟨g,0,none⟩) n c) ps) pk)) rfl ?_;simp only [Act.put,puA,puB,puC])|((with_reducible refine isSlice ?_);rename Nat=>b;refine AtSlice.one H rfl rfl rfl rfl rfl rfl rfl rfl rfl ?_;clear H;intro b9 _ H;simp only [Act.put,puA,puB,puC]))
    replace H:=H.conv (A':=rowsA encI 26 1 (.slice (some ⟨b9,0,none⟩) 1 1) [id]) (by rw [rowsA_fp',blk_fp];rfl) fun hb=>rowsA_of_blk (xs:=[id]) (by rw [blk_ho] at hb;exact hb) (by simp [maxLen]) (by simp [flatG,encI]) encI_len
    have HG1:Hid (IdIs X1.S id (qt.map Tr.leaf)):=Lib.hid (HG4.out.le HIN.out.2.2.2.2.1.ok HX1.out.2.1.le)
    have HOL:Hid (out.length≤1024):=Lib.hid (by have h1:=HX1.out.1.len;have h2:=nrm_len (qs.take i);rw [List.length_take] at h2;omega)
    go_loopg [7,9] n (fun m v1 v2 wr=>∃ (j:Nat) (ids:List Nat) (ts:List (List Nat)),m=n-(j-(i+1))∧j≤n∧v1=.int .i64 j∧(i+1≤j∧ids.length=j-i∧ids.head?=some id∧IdL X1.S ids (ts.map (·.map Tr.leaf))∧nrm (qs.take j)=nrm (qs.take i)++[(⟨false,0,0,ts.flatten⟩:Pz)])∧St w N [pA X1,rowsA encPi 98 4 (.slice ad2 out.length c2) out,blk b (.cells #[.bool false,.int .i64 0,.int .i64 0,.int .i64 id] 98),rowsA encI 26 1 v2 ids] wr)
    case atStart=>exact ⟨i+1,[id],[qt],by omega,by omega,by go_num,⟨Nat.le_refl _,by simp,rfl,⟨HG1.out,trivial⟩,by rw [HNS.out.2.1,HNS.out.2.2];simp⟩,H.picks (.cons (A:=pA X1) pk (.cons (A:=rowsA encPi 98 4 (.slice ad2 out.length c2) out) pk (.cons (A:=blk b (.cells #[.bool false,.int .i64 0,.int .i64 0,.int .i64 id] 98)) pk (.cons (A:=rowsA encI 26 1 (.slice (some ⟨b9,0,none⟩) 1 1) [id]) pk .nil))))⟩
    case round =>
     clear H
     obtain ⟨j,ids,ts,rfl,hjk,rfl,hrel,H⟩:=hrel
     have HJR:=Lib.hid hrel
     obtain ⟨ad3,c3,rfl,_⟩:=rowsA_shape (H.get (A:=rowsA encI 26 1 _ ids) pk)
     have hjL:j≤1024:=by omega
     have HLI:Hid (ids.length≤1024):=Lib.hid (by have:=hrel.2.1;omega)
     clear hrel
     by_cases hlj:j<n
     ·obtain ⟨p2,hp2⟩:∃ a,ps[j]?=some a:=⟨_,List.getElem?_eq_getElem (by rw [HIN.out.2.1];exact hlj)⟩
      obtain ⟨q2,hq2,hpq2⟩:=HIN.out.1.get hp2
      have d6:decide ((j:Int)<(n:Int))=true:=by simp;omega
      have d6n:decide (j<n)=true:=by simp;omega
      have hck2:=HIN.out.2.2.2.1 q2 (List.mem_of_getElem? hq2)
      have HN2:=Lib.hid (And.intro hck2 (nrm_take_succ hq2))
      have HQ2:=Lib.hid hq2
      obtain ⟨pc2,pf2,pn2,id2⟩:=p2
      obtain ⟨qc2,qf2,qn2,qt2⟩:=q2
      obtain ⟨g1,g2,g3,g4⟩:=hpq2
      simp only at g1 g2 g3 g4
      subst g1 g2 g3
      have hcl:∀ w,(rowsA encPi 98 4 (.slice (some ⟨g,0,none⟩) n c) ps).ho w→w.cell? ⟨g,j*4,none⟩=some (.bool pc2)∧w.cell? ⟨g,j*4+3,none⟩=some (.int .i64 id2):=fun w h=>⟨rowsA_cell h encPi_len hp2 (j:=0) rfl,rowsA_cell h encPi_len hp2 (j:=3) rfl⟩
      have HO0:=Lib.hid fun w h=>(hcl w h).1
      have HO3:=Lib.hid fun w h=>(hcl w h).2
      have HID2:Hid (IdIs X1.S id2 (qt2.map Tr.leaf)):=Lib.hid (g4.le HIN.out.2.2.2.2.1.ok HX1.out.2.1.le)
      clear hcl hp2 hq2 hck2 g4
      cases pc2 with
      |false =>
       obtain ⟨rfl,rfl⟩:=chk_text HN2.out.1
       have HJ:Hid (jn ⟨false,0,0,ts.flatten⟩ ⟨false,0,0,qt2⟩=some ⟨false,0,0,ts.flatten++qt2⟩):=Lib.hid (by simp [jn])
       go_wp2_with (first|refine sL ?_|(refine sS ?_;clear H;intros;rename_i H)|((with_reducible refine isSlice ?_);refine AtSlice.one H rfl rfl rfl rfl rfl rfl rfl rfl rfl ?_;clear H;intro b8 _ H;simp only [Act.put,puA,puB,puC])|((with_reducible refine isAppend ?_);refine AtAppend.go (enc:=encI) H rfl rfl rfl rfl rfl (by decide) (by decide) rfl pk rfl (H.at pk) [id2] rfl (by simp [flatG,encI]) encI_len encI_one (by have:=HLI.out;simp;omega) ?_;clear H;intro ad9 cp9 _ H;simp only [Act.put,puA,puB,puC]))
       go_roundg (n-(j+1-(i+1)))
       case measure=>have:=HJR.out.1;omega
       case rel =>
        have h1:=HJR.out
        refine ⟨j+1,ids++[id2],ts++[qt2],rfl,by omega,rfl,⟨by omega,by rw [List.length_append];simp;omega,?_,?_,?_⟩,H.picks (.cons (A:=pA X1) pk (.cons (A:=rowsA encPi 98 4 (.slice ad2 out.length c2) out) pk (.cons (A:=blk b (.cells #[.bool false,.int .i64 0,.int .i64 0,.int .i64 id] 98)) pk (.cons (A:=rowsA encI 26 1 _ (ids++[id2])) pk .nil))))⟩
        ·rw [List.head?_append,h1.2.2.1];rfl
        ·rw [List.map_append];exact h1.2.2.2.1.snoc HID2.out
        ·rw [HN2.out.2,h1.2.2.2.2,nst_join HJ.out,List.flatten_append];simp
      |true =>
       have HNJ:Hid (∀ q,qs[j]?=some q→nst (nrm (qs.take j)) q=nrm (qs.take j)++[q]):=Lib.hid fun q9 hq9=>by
        rw [HQ2.out] at hq9
        cases hq9
        rw [HJR.out.2.2.2.2,nst_none (by simp [jn])]
       obtain ⟨l9,hl9⟩:∃ m,ids.length=m:=⟨_,rfl⟩
       have HSI:Hid (¬ 1<l9→IdIs X1.S id (ts.flatten.map Tr.leaf)):=Lib.hid fun h9=>by
        have h2:=HJR.out
        match ids,ts,h2.2.2.1,h2.2.2.2.1,hl9 with
        |[a],[t0],e1,e2,_=>cases e1;simpa using e2.1
        |[_],[],_,e2,_=>exact e2.elim
        |[_],_::_::_,_,e2,_=>exact e2.2.elim
        |_::_::_,_,_,_,e3=>simp at e3;omega
       have HRM:Hid ((l9=j-i)∧ts.flatten.length≤T∧X1.S.list.length+l9*ts.flatten.length≤X.S.list.length+j*T∧j*T≤n*T):=Lib.hid (by
        have h1:=HX1.out
        have h2:=HJR.out
        have h3:=nrm_tx (qs:=qs.take j) (s:=s) fun q hq=>HIN.out.2.2.2.1 q (List.mem_of_mem_take hq)
        rw [h2.2.2.2.2,txL_app] at h3
        have h4:txL [(⟨false,0,0,ts.flatten⟩:Pz)]=ts.flatten.length:=by simp [txL]
        have h5:=txL_take qs j
        have h6:=HIN.out.2.2.2.2.2.2.1
        have h7:ts.flatten.length≤T:=by omega
        have h8:l9*ts.flatten.length≤(j-i)*T:=by rw [← hl9,h2.2.1];exact Nat.mul_le_mul_left _ h7
        have h10:(j-i)*T+i*T=j*T:=by rw [← Nat.add_mul];congr 1;omega
        have h11:j*T≤n*T:=Nat.mul_le_mul_right _ hjk
        exact ⟨by omega,h7,by omega,h11⟩)
       have HCC:Hid (∀ w,((pA X1).sep deA).ho w→((pA X1).sep (rowsA encI 26 1 (.slice ad3 l9 c3) ids)).ho w→Calls Tryz.prog 57 #[.pointer (some ⟨X.p,0,none⟩),.slice ad3 l9 c3] w (IdPost X1 (ts.flatten.map Tr.leaf) (l9*ts.flatten.length) (pA X1).fp w)):=Lib.hid fun w h k=>by
        have h1:=HX1.out
        have h2:=HJR.out
        have h3:=HIN.out
        have h4:=HRM.out
        have e0:(ts.map (·.map Tr.leaf)).flatten=ts.flatten.map Tr.leaf:=by rw [List.map_flatten]
        have e1:totL (ts.map (·.map Tr.leaf))=ts.flatten.length:=by unfold totL;rw [e0,List.length_map]
        have:=concat_c (ad:=ad3) (c:=c3) h1.2.2.1 h2.2.2.2.1 (by omega) (by rw [e1];omega) (by rw [e1,hl9,h1.2.1.le.1];omega) w h (by rw [hl9];exact k)
        rwa [h1.2.1.p,hl9,e1,e0] at this
       have hl1:1≤l9:=by have h2:=HJR.out;omega
       have hl2:l9≤1024:=by have:=HLI.out;omega
       rw [hl9] at H ⊢
       clear hl9
       by_cases h9:1<l9
       ·have d8:decide ((1:Int)<(l9:Int))=true:=by simp;omega
        have d8n:decide (1<l9)=true:=by simp;omega
        go_wp2_with (first|refine sL ?_|(refine sS ?_;clear H;intros;rename_i H))
        go_at_call 57
        with_reducible refine Calls.mono (HCC.out _ (H.sepK (A:=pA X1) HK pk pk) (H.sepO (A:=pA X1) (B:=rowsA encI 26 1 (.slice ad3 l9 c3) ids) pk pk)) ?_
        rintro e9 wc ⟨X2,id3,rfl,y1,y2,y3,y4,hb⟩
        have HZ:=Lib.hid (And.intro y1 (And.intro y2 (And.intro y3 y4)))
        clear y1 y2 y3 y4
        replace H:=(H.pick (A:=pA X1) pk).call hb
        clear hb
        simp only [List.cons_append,List.nil_append] at H
        go_wp2_with (first|refine sL ?_|(refine sS ?_;clear H;intros;rename_i H)|((with_reducible refine isSlice ?_);refine AtSlice.one H rfl rfl rfl rfl rfl rfl rfl rfl rfl ?_;clear H;intro b7 _ H;simp only [Act.put,puA,puB,puC])|((with_reducible refine isAppend ?_);refine AtAppend.go (enc:=encPi) H rfl rfl rfl rfl rfl (by decide) (by decide) rfl pk rfl (H.at pk) [(⟨false,0,0,id3⟩:Pi)] rfl (by simp [flatG,encPi]) encPi_len encPi_one (by have:=HOL.out;simp;omega) ?_;clear H;intro ad9 cp9 _ H;simp only [Act.put,puA,puB,puC]))
        go_roundg (n-j)
        case measure=>have:=HJR.out.1;omega
        case rel =>
         have h1:=HX1.out
         have h2:=HJR.out
         have h3:=HZ.out
         have h4:=HRM.out
         refine ⟨j,X2,out++[(⟨false,0,0,id3⟩:Pi)],rfl,by omega,rfl,⟨?_,h1.2.1.trans h3.1,h3.2.1,by omega,HNJ.out⟩,H.picks (.cons (A:=pA X2) pk (.cons (A:=rowsA encPi 98 4 (.slice ad9 (out.length+1) cp9) (out++[(⟨false,0,0,id3⟩:Pi)])) pk .nil))⟩
         rw [h2.2.2.2.2]
         exact (h1.1.le h1.2.2.1.ok h3.1.le).append ⟨⟨rfl,rfl,rfl,h3.2.2.1⟩,trivial⟩
       ·have d8:decide ((1:Int)<(l9:Int))=false:=by simp;omega
        have d8n:decide (1<l9)=false:=by simp;omega
        go_wp2_with (first|refine sL ?_|(refine sS ?_;clear H;intros;rename_i H)|((with_reducible refine isSlice ?_);refine AtSlice.one H rfl rfl rfl rfl rfl rfl rfl rfl rfl ?_;clear H;intro b7 _ H;simp only [Act.put,puA,puB,puC])|((with_reducible refine isAppend ?_);refine AtAppend.go (enc:=encPi) H rfl rfl rfl rfl rfl (by decide) (by decide) rfl pk rfl (H.at pk) [(⟨false,0,0,id⟩:Pi)] rfl (by simp [flatG,encPi]) encPi_len encPi_one (by have:=HOL.out;simp;omega) ?_;clear H;intro ad9 cp9 _ H;simp only [Act.put,puA,puB,puC]))
        go_roundg (n-j)
        case measure=>have:=HJR.out.1;omega
        case rel =>
         have h1:=HX1.out
         have h2:=HJR.out
         have h5:i*T≤j*T:=Nat.mul_le_mul_right _ (by omega)
         refine ⟨j,X1,out++[(⟨false,0,0,id⟩:Pi)],rfl,by omega,rfl,⟨?_,h1.2.1,h1.2.2.1,by omega,HNJ.out⟩,H.picks (.cons (A:=pA X1) pk (.cons (A:=rowsA encPi 98 4 (.slice ad9 (out.length+1) cp9) (out++[(⟨false,0,0,id⟩:Pi)])) pk .nil))⟩
         rw [h2.2.2.2.2]
         exact h1.1.append ⟨⟨rfl,rfl,rfl,HSI.out h9⟩,trivial⟩
     ·have d6:decide ((j:Int)<(n:Int))=false:=by simp;omega
      have d6n:decide (j<n)=false:=by simp;omega
      have HNJ:Hid (∀ q,qs[j]?=some q→nst (nrm (qs.take j)) q=nrm (qs.take j)++[q]):=Lib.hid fun q9 hq9=>by
       exact absurd hq9 (by rw [List.getElem?_eq_none (by rw [HIN.out.2.2.1];omega)];simp)
      obtain ⟨l9,hl9⟩:∃ m,ids.length=m:=⟨_,rfl⟩
      have HSI:Hid (¬ 1<l9→IdIs X1.S id (ts.flatten.map Tr.leaf)):=Lib.hid fun h9=>by
       have h2:=HJR.out
       match ids,ts,h2.2.2.1,h2.2.2.2.1,hl9 with
       |[a],[t0],e1,e2,_=>cases e1;simpa using e2.1
       |[_],[],_,e2,_=>exact e2.elim
       |[_],_::_::_,_,e2,_=>exact e2.2.elim
       |_::_::_,_,_,_,e3=>simp at e3;omega
      have HRM:Hid ((l9=j-i)∧ts.flatten.length≤T∧X1.S.list.length+l9*ts.flatten.length≤X.S.list.length+j*T∧j*T≤n*T):=Lib.hid (by
       have h1:=HX1.out
       have h2:=HJR.out
       have h3:=nrm_tx (qs:=qs.take j) (s:=s) fun q hq=>HIN.out.2.2.2.1 q (List.mem_of_mem_take hq)
       rw [h2.2.2.2.2,txL_app] at h3
       have h4:txL [(⟨false,0,0,ts.flatten⟩:Pz)]=ts.flatten.length:=by simp [txL]
       have h5:=txL_take qs j
       have h6:=HIN.out.2.2.2.2.2.2.1
       have h7:ts.flatten.length≤T:=by omega
       have h8:l9*ts.flatten.length≤(j-i)*T:=by rw [← hl9,h2.2.1];exact Nat.mul_le_mul_left _ h7
       have h10:(j-i)*T+i*T=j*T:=by rw [← Nat.add_mul];congr 1;omega
       have h11:j*T≤n*T:=Nat.mul_le_mul_right _ hjk
       exact ⟨by omega,h7,by omega,h11⟩)
      have HCC:Hid (∀ w,((pA X1).sep deA).ho w→((pA X1).sep (rowsA encI 26 1 (.slice ad3 l9 c3) ids)).ho w→Calls Tryz.prog 57 #[.pointer (some ⟨X.p,0,none⟩),.slice ad3 l9 c3] w (IdPost X1 (ts.flatten.map Tr.leaf) (l9*ts.flatten.length) (pA X1).fp w)):=Lib.hid fun w h k=>by
       have h1:=HX1.out
       have h2:=HJR.out
       have h3:=HIN.out
       have h4:=HRM.out
       have e0:(ts.map (·.map Tr.leaf)).flatten=ts.flatten.map Tr.leaf:=by rw [List.map_flatten]
       have e1:totL (ts.map (·.map Tr.leaf))=ts.flatten.length:=by unfold totL;rw [e0,List.length_map]
       have:=concat_c (ad:=ad3) (c:=c3) h1.2.2.1 h2.2.2.2.1 (by omega) (by rw [e1];omega) (by rw [e1,hl9,h1.2.1.le.1];omega) w h (by rw [hl9];exact k)
       rwa [h1.2.1.p,hl9,e1,e0] at this
      have hl1:1≤l9:=by have h2:=HJR.out;omega
      have hl2:l9≤1024:=by have:=HLI.out;omega
      rw [hl9] at H ⊢
      clear hl9
      by_cases h9:1<l9
      ·have d8:decide ((1:Int)<(l9:Int))=true:=by simp;omega
       have d8n:decide (1<l9)=true:=by simp;omega
       go_wp2_with (first|refine sL ?_|(refine sS ?_;clear H;intros;rename_i H))
       go_at_call 57
       with_reducible refine Calls.mono (HCC.out _ (H.sepK (A:=pA X1) HK pk pk) (H.sepO (A:=pA X1) (B:=rowsA encI 26 1 (.slice ad3 l9 c3) ids) pk pk)) ?_
       rintro e9 wc ⟨X2,id3,rfl,y1,y2,y3,y4,hb⟩
       have HZ:=Lib.hid (And.intro y1 (And.intro y2 (And.intro y3 y4)))
       clear y1 y2 y3 y4
       replace H:=(H.pick (A:=pA X1) pk).call hb
       clear hb
       simp only [List.cons_append,List.nil_append] at H
       go_wp2_with (first|refine sL ?_|(refine sS ?_;clear H;intros;rename_i H)|((with_reducible refine isSlice ?_);refine AtSlice.one H rfl rfl rfl rfl rfl rfl rfl rfl rfl ?_;clear H;intro b7 _ H;simp only [Act.put,puA,puB,puC])|((with_reducible refine isAppend ?_);refine AtAppend.go (enc:=encPi) H rfl rfl rfl rfl rfl (by decide) (by decide) rfl pk rfl (H.at pk) [(⟨false,0,0,id3⟩:Pi)] rfl (by simp [flatG,encPi]) encPi_len encPi_one (by have:=HOL.out;simp;omega) ?_;clear H;intro ad9 cp9 _ H;simp only [Act.put,puA,puB,puC]))
       go_roundg (n-j)
       case measure=>have:=HJR.out.1;omega
       case rel =>
        have h1:=HX1.out
        have h2:=HJR.out
        have h3:=HZ.out
        have h4:=HRM.out
        refine ⟨j,X2,out++[(⟨false,0,0,id3⟩:Pi)],rfl,by omega,rfl,⟨?_,h1.2.1.trans h3.1,h3.2.1,by omega,HNJ.out⟩,H.picks (.cons (A:=pA X2) pk (.cons (A:=rowsA encPi 98 4 (.slice ad9 (out.length+1) cp9) (out++[(⟨false,0,0,id3⟩:Pi)])) pk .nil))⟩
        rw [h2.2.2.2.2]
        exact (h1.1.le h1.2.2.1.ok h3.1.le).append ⟨⟨rfl,rfl,rfl,h3.2.2.1⟩,trivial⟩
      ·have d8:decide ((1:Int)<(l9:Int))=false:=by simp;omega
       have d8n:decide (1<l9)=false:=by simp;omega
       go_wp2_with (first|refine sL ?_|(refine sS ?_;clear H;intros;rename_i H)|((with_reducible refine isSlice ?_);refine AtSlice.one H rfl rfl rfl rfl rfl rfl rfl rfl rfl ?_;clear H;intro b7 _ H;simp only [Act.put,puA,puB,puC])|((with_reducible refine isAppend ?_);refine AtAppend.go (enc:=encPi) H rfl rfl rfl rfl rfl (by decide) (by decide) rfl pk rfl (H.at pk) [(⟨false,0,0,id⟩:Pi)] rfl (by simp [flatG,encPi]) encPi_len encPi_one (by have:=HOL.out;simp;omega) ?_;clear H;intro ad9 cp9 _ H;simp only [Act.put,puA,puB,puC]))
       go_roundg (n-j)
       case measure=>have:=HJR.out.1;omega
       case rel =>
        have h1:=HX1.out
        have h2:=HJR.out
        have h5:i*T≤j*T:=Nat.mul_le_mul_right _ (by omega)
        refine ⟨j,X1,out++[(⟨false,0,0,id⟩:Pi)],rfl,by omega,rfl,⟨?_,h1.2.1,h1.2.2.1,by omega,HNJ.out⟩,H.picks (.cons (A:=pA X1) pk (.cons (A:=rowsA encPi 98 4 (.slice ad9 (out.length+1) cp9) (out++[(⟨false,0,0,id⟩:Pi)])) pk .nil))⟩
        rw [h2.2.2.2.2]
        exact h1.1.append ⟨⟨rfl,rfl,rfl,HSI.out h9⟩,trivial⟩
  ·have d5:decide ((i:Int)<(n:Int))=false:=by simp;omega
   have d5n:decide (i<n)=false:=by simp;omega
   have hin:i=n:=by omega
   subst hin
   have HE:Hid (qs.take i=qs):=Lib.hid (List.take_of_length_le (by rw [HIN.out.2.2.1];exact Nat.le_refl _))
   clear hrel hlt
   go_wp2_with (first|refine sL ?_|(refine sS ?_;clear H;intros;rename_i H))
   go_ret2
   exact ⟨X1,_,out,rfl,HX1.out.2.1,HX1.out.2.2.1,by have:=HX1.out.1;rwa [HE.out] at this,HX1.out.2.2.2.1,H.picks (.cons (A:=pA X1) pk (.cons (A:=rowsA encPi 98 4 _ out) pk .nil))⟩
end
section
open Go.RowKit Go.Maps
attribute [local go_sem] InGr strB_size
theorem encR_one (p:Pz):∀ u∈encR p,u.oneCell'=true:=by
 intro u hu
 simp [encR] at hu
 rcases hu with rfl|rfl|rfl|rfl <;> rfl
def NmRel (w:World) (qs:List Pz) (n m:Nat) (v1 v2:Value) (wr:World):Prop :=
 ∃ (i:Nat) (out:List Pz),m=n-i∧i≤n∧v2=.int .i64 i∧(out=nrm (qs.take i)∧out.length≤i)∧St w [] [rowsA encR 106 4 v1 out] wr
theorem rnormal_c {P:PoolT} {qs:List Pz} {v:Value} {s:Nat} (hr:RowIn P encR 4 v qs) (hs:s≤1048576) (hall:∀ q∈qs,chkP s q=0) (hn:qs.length≤1024) (htx:txL qs≤1048576) (w:World) (hp:(poolA P).ho w) :
  Calls Tryz.prog 27 #[v] w fun e w'=>∃ v',e=.returned v'∧St w [] [rowsA encR 106 4 v' (nrm qs)] w':=by
 have H:=St.nil w []
 have HK:=Ks.one hp
 obtain ⟨n,hnn⟩:∃ n,qs.length=n:=⟨_,rfl⟩
 obtain ⟨ad,c,rfl,hmx9⟩:=hr.shape
 have HCL:Hid (∀ (i:Nat) (q:Pz),qs[i]?=some q→∃ g o,ad=some ⟨g,o,none⟩∧(∀ w,(poolA P).ho w→w.cell? ⟨g,o+i*4,none⟩=some (.bool q.c)∧w.cell? ⟨g,o+i*4+1,none⟩=some (.int .i64 q.f)∧w.cell? ⟨g,o+i*4+2,none⟩=some (.int .i64 q.n)∧w.cell? ⟨g,o+i*4+3,none⟩=some (.string (strB q.t)))∧∀ w,(poolA P).ho w→w.rangeAt g (o+i*4) [.bool q.c,.int .i64 q.f,.int .i64 q.n,.string (strB q.t)]):=Lib.hid fun i q hq=>by
  obtain ⟨ad',c',e1,_,h3⟩:=id hr
  obtain ⟨g,o,rfl,_⟩:=h3 (by have:=gelt hq;omega)
  injection e1 with e1 _ _
  subst e1
  exact ⟨g,o,rfl,row_cells hr hq,fun w h=>hr.rng h encR_len hq⟩
 rw [hnn] at hn ⊢
 have htx9:=Lib.hid htx
 clear htx
 have HIN:Hid (qs.length=n∧n≤1024∧(∀ q∈qs,chkP s q=0)∧s≤1048576):=Lib.hid ⟨hnn,hn,hall,hs⟩
 clear hr hnn hp hmx9 hall hs
 go_enter Tryz.func27,Tryz.ntmps27
 go_wp2_with (first|refine sL ?_|(refine sS ?_;clear H;intros;rename_i H))
 replace H:=H.empty (A:=rowsA encR 106 4 (.slice none 0 0) []) (rowsA_nil _) (by rw [rowsA_fp'];rfl)
 go_loopg [3,4] n (fun m v1 v2 wr=>NmRel w qs n m v1 v2 wr)
 case atStart=>exact ⟨0,[],rfl,Nat.zero_le _,rfl,⟨rfl,Nat.le_refl _⟩,H⟩
 case round =>
  clear H
  obtain ⟨i,out,rfl,hik,rfl,hrel,H⟩:=hrel
  have HRL:=Lib.hid hrel
  obtain ⟨ad2,c2,rfl,_⟩:=rowsA_shape (H.get (A:=rowsA encR 106 4 _ out) pk)
  by_cases hlt:i<n
  ·obtain ⟨q,hq⟩:∃ a,qs[i]?=some a:=⟨_,List.getElem?_eq_getElem (by rw [HIN.out.1];exact hlt)⟩
   obtain ⟨g,o,rfl,hcell,hrng⟩:=HCL.out i q hq
   have d5:decide ((i:Int)<(n:Int))=true:=by simp;omega
   have d5n:decide (i<n)=true:=by simp;omega
   have hil:i<n:=hlt
   have hib:i≤1024:=by have:=HIN.out.2.1;omega
   have HQ:=Lib.hid (HIN.out.2.2.1 q (List.mem_of_getElem? hq))
   have HTK:=Lib.hid (nrm_take_succ hq)
   have HTX:=Lib.hid (txL_take_succ hq)
   have HRX:=Lib.hid hrng
   obtain ⟨qc,qf,qn,qt⟩:=q
   simp only at hcell HRX
   have HC0:Hid (∀ w,(poolA P).ho w→w.cell? ⟨g,o+i*4,none⟩=some (.bool qc)):=Lib.hid fun w h=>(hcell w h).1
   have HC1:Hid (∀ w,(poolA P).ho w→w.cell? ⟨g,o+i*4+1,none⟩=some (.int .i64 qf)):=Lib.hid fun w h=>(hcell w h).2.1
   have HC2:Hid (∀ w,(poolA P).ho w→w.cell? ⟨g,o+i*4+2,none⟩=some (.int .i64 qn)):=Lib.hid fun w h=>(hcell w h).2.2.1
   have HC3:Hid (∀ w,(poolA P).ho w→w.cell? ⟨g,o+i*4+3,none⟩=some (.string (strB qt))):=Lib.hid fun w h=>(hcell w h).2.2.2
   have hrl:=hrel
   clear hrel hq hcell hrng hlt
   rcases snoc_pz out with h0|⟨L,k,h0⟩
   ·subst h0
    clear hrl
    simp only [List.length_nil] at H ⊢
    go_wp2_with (first|refine sL ?_|(refine sS ?_;clear H;intros;rename_i H))
    refine wp_region_h H 36 [] [] (by kernel_rfl) (by kernel_rfl) ?_
    apply Exists.intro
    refine ⟨fun w1 hw1 HX=>?_,fun bs wr Hr=>?_⟩
    ·refine sG ?_
     repeat (first|go_big_quiet_skip|refine sQ ?_|go_big_quiet_step (fail))
     exact wpQuiet_nil rfl
    clear H
    have H:=Hr
    clear Hr
    replace H:=sH H;refine sT ?_
    go_wp2_with (first|refine sL ?_|(refine sS ?_;clear H;intros;rename_i H)|((with_reducible refine isLoad ?_);refine AtLoad.rngT rfl rfl rfl (HRX.out _ (H.known HK (A:=poolA P) pk)) rfl ?_;simp only [Act.put,puA,puB,puC])|((with_reducible refine isSlice ?_);refine AtSlice.one H rfl rfl rfl rfl rfl rfl rfl rfl rfl ?_;clear H;intro b9 _ H;simp only [Act.put,puA,puB,puC])|((with_reducible refine isAppend ?_);refine AtAppend.go (enc:=encR) H rfl rfl rfl rfl rfl (by decide) (by decide) rfl pk rfl (H.at pk) [⟨qc,qf,qn,qt⟩] rfl (by simp [flatG,encR]) encR_len encR_one (by simp) ?_;clear H;intro ad9 cp9 _ H;simp only [Act.put,puA,puB,puC]))
    go_roundg (n-(i+1))
    case measure=>omega
    case rel =>
     have h1:=HRL.out.1
     refine ⟨i+1,[⟨qc,qf,qn,qt⟩],rfl,by omega,rfl,⟨by rw [HTK.out,← h1];rfl,by simp⟩,H.picks (.cons (A:=rowsA encR 106 4 (.slice ad9 (([]:List Pz).length+1) cp9) ([]++[⟨qc,qf,qn,qt⟩])) pk .nil)⟩
   ·subst h0
    obtain ⟨k1,hk1⟩:∃ m,L.length=m:=⟨_,rfl⟩
    have hl2:(L++[k]).length=k1+1:=by simp [hk1]
    have hkb:k1+1≤1024:=by have:=hrl.2;omega
    obtain ⟨n2,hn2⟩:∃ m,k1+1=m:=⟨_,rfl⟩
    rw [hl2,hn2] at H ⊢
    have i8:(n2:Int)-1=(k1:Int):=by omega
    have i9:(0:Int)≤(k1:Int):=by omega
    have i6:decide ((0:Int)≤(k1:Int))=true:=by simp
    have i7:k1<n2:=by omega
    have i5:n2≤1024:=by omega
    have hki:(L++[k])[k1]?=some k:=by rw [← hk1];simp
    obtain ⟨g2,c9,e9,_⟩:=rowsA_cases (H.get (A:=rowsA encR 106 4 (.slice ad2 n2 c2) (L++[k])) pk) (by simp)
    injection e9 with e9 e10 e11
    clear e10 e11
    subst e9
    obtain ⟨kc,kf,kn,kt⟩:=k
    have hcl:∀ w,(rowsA encR 106 4 (.slice (some ⟨g2,0,none⟩) n2 c2) (L++[⟨kc,kf,kn,kt⟩])).ho w→w.cell? ⟨g2,k1*4,none⟩=some (.bool kc)∧w.cell? ⟨g2,k1*4+1,none⟩=some (.int .i64 kf)∧w.cell? ⟨g2,k1*4+2,none⟩=some (.int .i64 kn)∧w.cell? ⟨g2,k1*4+3,none⟩=some (.string (strB kt)):=fun w h=>⟨rowsA_cell h encR_len hki (j:=0) rfl,rowsA_cell h encR_len hki (j:=1) rfl,rowsA_cell h encR_len hki (j:=2) rfl,rowsA_cell h encR_len hki (j:=3) rfl⟩
    have HO0:=Lib.hid fun w h=>(hcl w h).1
    have HO1:=Lib.hid fun w h=>(hcl w h).2.1
    have HO2:=Lib.hid fun w h=>(hcl w h).2.2.1
    have HO3:=Lib.hid fun w h=>(hcl w h).2.2.2
    have HKI:=Lib.hid hki
    have hkc:chkP s ⟨kc,kf,kn,kt⟩=0:=nrm_chk (qs:=qs.take i) (fun q hq=>HIN.out.2.2.1 q (List.mem_of_mem_take hq)) _ (by rw [← hrl.1];simp)
    have HKC:=Lib.hid hkc
    have HSZ:Hid ((strB kt).size+(strB qt).size≤1048576):=Lib.hid (by
     have h1:txL (qs.take (i+1))≤1048576:=Nat.le_trans (txL_take qs (i+1)) htx9.out
     have h2:=nrm_tx (qs:=qs.take i) (s:=s) fun q hq=>HIN.out.2.2.1 q (List.mem_of_mem_take hq)
     rw [← hrl.1,txL_app] at h2
     have h3:=HTX.out
     rw [strB_size,strB_size]
     have h4:txL [(⟨kc,kf,kn,kt⟩:Pz)]=kt.length:=by simp [txL]
     rw [h4] at h2
     simp only at h3
     omega)
    have HLK:Hid (L.length=k1∧k1+1≤1024):=Lib.hid ⟨hk1,hkb⟩
    clear hrl hk1 hl2 hkb hn2 hki hcl hkc
    cases qc with
    |false =>
     cases kc with
     |false =>
      have HJ:Hid (jn ⟨false,kf,kn,kt⟩ ⟨false,qf,qn,qt⟩=some ⟨false,kf,kn,kt++qt⟩):=Lib.hid (by simp [jn])
      have hsz:(strB kt).size+(strB qt).size≤1048576:=HSZ.out
      have z3:strB kt++strB qt=strB (kt++qt):=strB_append kt qt
      have z1:(strB kt).size=kt.length:=strB_size kt
      have z2:(strB qt).size=qt.length:=strB_size qt
      go_wp2_with (first|refine sL ?_|(refine sS ?_;clear H;intros;rename_i H))
      refine wp_region_h H 36 [] [] (by kernel_rfl) (by kernel_rfl) ?_
      apply Exists.intro
      refine ⟨fun w1 hw1 HX=>?_,fun bs wr Hr=>?_⟩
      ·refine sG ?_
       repeat (first|go_big_quiet_skip|refine sQ ?_|go_big_quiet_step (fail))
       exact wpQuiet_nil rfl
      clear H
      have H:=Hr
      clear Hr
      replace H:=sH H;refine sT ?_
      go_wp2_with (first|refine sL ?_|(refine sS ?_;clear H;intros;rename_i H))
      refine wp_region_h H 13 [] [] (by kernel_rfl) (by kernel_rfl) ?_
      apply Exists.intro
      refine ⟨fun w1 hw1 HX=>?_,fun bs wr Hr=>?_⟩
      ·refine sG ?_
       repeat (first|refine sQ ?_|go_big_quiet_step (fail))
       exact wpQuiet_nil rfl
      clear H
      have H:=Hr
      clear Hr
      replace H:=sH H;refine sT ?_
      go_wp2_with (first|refine sL ?_|(refine sS ?_;clear H;intros;rename_i H)|((with_reducible refine isStore ?_);refine AtStore.rowAk (enc:=encR) H rfl rfl rfl rfl rfl rfl (xs:=L++[(⟨false,kf,kn,kt⟩:Pz)]) pk encR_len HKI.out (j:=3) (by decide) rfl ⟨false,kf,kn,kt++qt⟩ rfl ?_;clear H;intro _ H;simp only [Act.put,puA,puB,puC]))
      have hset:(L++[(⟨false,kf,kn,kt⟩:Pz)]).set k1 (⟨false,kf,kn,kt++qt⟩:Pz)=L++[(⟨false,kf,kn,kt++qt⟩:Pz)]:=by rw [← HLK.out.1];simp
      rw [hset] at H
      go_roundg (n-(i+1))
      case measure=>omega
      case rel =>
       have h1:=HRL.out
       exact ⟨i+1,L++[(⟨false,kf,kn,kt++qt⟩:Pz)],rfl,by omega,rfl,⟨by rw [HTK.out,← h1.1];exact (nst_join HJ.out).symm,by have:=h1.2;simp at this ⊢;omega⟩,H.picks (.cons (A:=rowsA encR 106 4 (.slice (some ⟨g2,0,none⟩) n2 c2) (L++[(⟨false,kf,kn,kt++qt⟩:Pz)])) pk .nil)⟩
     |true =>
      have HJ:Hid (jn ⟨true,kf,kn,kt⟩ ⟨false,qf,qn,qt⟩=none):=Lib.hid (by simp [jn])
      go_wp2_with (first|refine sL ?_|(refine sS ?_;clear H;intros;rename_i H))
      refine wp_region_h H 36 [] [] (by kernel_rfl) (by kernel_rfl) ?_
      apply Exists.intro
      refine ⟨fun w1 hw1 HX=>?_,fun bs wr Hr=>?_⟩
      ·refine sG ?_
       repeat (first|go_big_quiet_skip|refine sQ ?_|go_big_quiet_step (fail))
       exact wpQuiet_nil rfl
      clear H
      have H:=Hr
      clear Hr
      replace H:=sH H;refine sT ?_
      go_wp2_with (first|refine sL ?_|(refine sS ?_;clear H;intros;rename_i H)|((with_reducible refine isLoad ?_);refine AtLoad.rngT rfl rfl rfl (HRX.out _ (H.known HK (A:=poolA P) pk)) rfl ?_;simp only [Act.put,puA,puB,puC])|((with_reducible refine isSlice ?_);refine AtSlice.one H rfl rfl rfl rfl rfl rfl rfl rfl rfl ?_;clear H;intro b9 _ H;simp only [Act.put,puA,puB,puC])|((with_reducible refine isAppend ?_);refine AtAppend.go (enc:=encR) H rfl rfl rfl rfl rfl (by decide) (by decide) rfl pk rfl (H.at pk) [(⟨false,qf,qn,qt⟩:Pz)] rfl (by simp [flatG,encR]) encR_len encR_one (by have:=HLK.out;simp;omega) ?_;clear H;intro ad9 cp9 _ H;simp only [Act.put,puA,puB,puC]))
      rw [show (L++[(⟨true,kf,kn,kt⟩:Pz)]).length+1=L.length+1+1 by simp] at H
      go_roundg (n-(i+1))
      case measure=>omega
      case rel =>
       have h1:=HRL.out
       exact ⟨i+1,L++[(⟨true,kf,kn,kt⟩:Pz)]++[(⟨false,qf,qn,qt⟩:Pz)],rfl,by omega,rfl,⟨by rw [HTK.out,← h1.1];exact (nst_none HJ.out).symm,by have:=h1.2;simp at this ⊢;omega⟩,H.picks (.cons (A:=rowsA encR 106 4 (.slice ad9 (L.length+1+1) cp9) (L++[(⟨true,kf,kn,kt⟩:Pz)]++[(⟨false,qf,qn,qt⟩:Pz)])) pk .nil)⟩
    |true =>
     obtain ⟨e1,e2⟩:=chk_pos HQ.out
     obtain ⟨e3,e4,e5⟩:=e2 rfl
     simp only at e1 e3 e4 e5
     obtain ⟨f2,rfl⟩:∃ f:Nat,qf=f:=⟨qf.toNat,by omega⟩
     obtain ⟨m2,rfl⟩:∃ f:Nat,qn=f:=⟨qn.toNat,by omega⟩
     cases kc with
     |false =>
      have HJ:Hid (jn ⟨false,kf,kn,kt⟩ ⟨true,f2,m2,qt⟩=none):=Lib.hid (by simp [jn])
      clear e1 e2 e3 e4 e5
      go_wp2_with (first|refine sL ?_|(refine sS ?_;clear H;intros;rename_i H))
      refine wp_region_h H 36 [] [] (by kernel_rfl) (by kernel_rfl) ?_
      apply Exists.intro
      refine ⟨fun w1 hw1 HX=>?_,fun bs wr Hr=>?_⟩
      ·refine sG ?_
       repeat (first|go_big_quiet_skip|refine sQ ?_|go_big_quiet_step (fail))
       exact wpQuiet_nil rfl
      clear H
      have H:=Hr
      clear Hr
      replace H:=sH H;refine sT ?_
      go_wp2_with (first|refine sL ?_|(refine sS ?_;clear H;intros;rename_i H)|((with_reducible refine isLoad ?_);refine AtLoad.rngT rfl rfl rfl (HRX.out _ (H.known HK (A:=poolA P) pk)) rfl ?_;simp only [Act.put,puA,puB,puC])|((with_reducible refine isSlice ?_);refine AtSlice.one H rfl rfl rfl rfl rfl rfl rfl rfl rfl ?_;clear H;intro b9 _ H;simp only [Act.put,puA,puB,puC])|((with_reducible refine isAppend ?_);refine AtAppend.go (enc:=encR) H rfl rfl rfl rfl rfl (by decide) (by decide) rfl pk rfl (H.at pk) [(⟨true,f2,m2,qt⟩:Pz)] rfl (by simp [flatG,encR]) encR_len encR_one (by have:=HLK.out;simp;omega) ?_;clear H;intro ad9 cp9 _ H;simp only [Act.put,puA,puB,puC]))
      rw [show (L++[(⟨false,kf,kn,kt⟩:Pz)]).length+1=L.length+1+1 by simp] at H
      go_roundg (n-(i+1))
      case measure=>omega
      case rel =>
       have h1:=HRL.out
       exact ⟨i+1,L++[(⟨false,kf,kn,kt⟩:Pz)]++[(⟨true,f2,m2,qt⟩:Pz)],rfl,by omega,rfl,⟨by rw [HTK.out,← h1.1];exact (nst_none HJ.out).symm,by have:=h1.2;simp at this ⊢;omega⟩,H.picks (.cons (A:=rowsA encR 106 4 (.slice ad9 (L.length+1+1) cp9) (L++[(⟨false,kf,kn,kt⟩:Pz)]++[(⟨true,f2,m2,qt⟩:Pz)])) pk .nil)⟩
     |true =>
      obtain ⟨x1,x2⟩:=chk_pos HKC.out
      obtain ⟨x3,x4,x5⟩:=x2 rfl
      simp only at x1 x3 x4 x5
      obtain ⟨f1,rfl⟩:∃ f:Nat,kf=f:=⟨kf.toNat,by omega⟩
      obtain ⟨m1,rfl⟩:∃ f:Nat,kn=f:=⟨kn.toNat,by omega⟩
      have hs9:=HIN.out.2.2.2
      obtain ⟨e,he⟩:∃ e,f1+m1=e:=⟨_,rfl⟩
      obtain ⟨m3,hm3⟩:∃ e,m1+m2=e:=⟨_,rfl⟩
      have y1:(f1:Int)+(m1:Int)=(e:Int):=by omega
      have y2:(m1:Int)+(m2:Int)=(m3:Int):=by omega
      have y3:e≤1048576:=by omega
      have y4:m3≤2097152:=by omega
      by_cases hef:e=f2
      ·have HJ:Hid (jn ⟨true,f1,m1,kt⟩ ⟨true,f2,m2,qt⟩=some ⟨true,f1,m3,kt⟩):=Lib.hid (by rw [← y2,← hef,← y1];simp [jn])
       subst hef
       have y5:((e:Int)==(e:Int))=true:=by simp
       clear e1 e2 e3 e4 e5 x1 x2 x3 x4 x5 hs9 he hm3
       go_wp2_with (first|refine sL ?_|(refine sS ?_;clear H;intros;rename_i H))
       refine wp_region_h H 36 [] [] (by kernel_rfl) (by kernel_rfl) ?_
       apply Exists.intro
       refine ⟨fun w1 hw1 HX=>?_,fun bs wr Hr=>?_⟩
       ·refine sG ?_
        repeat (first|go_big_quiet_skip|refine sQ ?_|go_big_quiet_step (fail))
        exact wpQuiet_nil rfl
       clear H
       have H:=Hr
       clear Hr
       replace H:=sH H;refine sT ?_
       go_wp2_with (first|refine sL ?_|(refine sS ?_;clear H;intros;rename_i H))
       refine wp_region_h H 13 [] [] (by kernel_rfl) (by kernel_rfl) ?_
       apply Exists.intro
       refine ⟨fun w1 hw1 HX=>?_,fun bs wr Hr=>?_⟩
       ·refine sG ?_
        repeat (first|refine sQ ?_|go_big_quiet_step (fail))
        exact wpQuiet_nil rfl
       clear H
       have H:=Hr
       clear Hr
       replace H:=sH H;refine sT ?_
       go_wp2_with (first|refine sL ?_|(refine sS ?_;clear H;intros;rename_i H)|((with_reducible refine isStore ?_);refine AtStore.rowAk (enc:=encR) H rfl rfl rfl rfl rfl rfl (xs:=L++[(⟨true,f1,m1,kt⟩:Pz)]) pk encR_len HKI.out (j:=2) (by decide) rfl ⟨true,f1,m3,kt⟩ rfl ?_;clear H;intro _ H;simp only [Act.put,puA,puB,puC]))
       have hset:(L++[(⟨true,f1,m1,kt⟩:Pz)]).set k1 (⟨true,f1,m3,kt⟩:Pz)=L++[(⟨true,f1,m3,kt⟩:Pz)]:=by rw [← HLK.out.1];simp
       rw [hset] at H
       go_roundg (n-(i+1))
       case measure=>omega
       case rel =>
        have h1:=HRL.out
        exact ⟨i+1,L++[(⟨true,f1,m3,kt⟩:Pz)],rfl,by omega,rfl,⟨by rw [HTK.out,← h1.1];exact (nst_join HJ.out).symm,by have:=h1.2;simp at this ⊢;omega⟩,H.picks (.cons (A:=rowsA encR 106 4 (.slice (some ⟨g2,0,none⟩) n2 c2) (L++[(⟨true,f1,m3,kt⟩:Pz)])) pk .nil)⟩
      ·have HJ:Hid (jn ⟨true,f1,m1,kt⟩ ⟨true,f2,m2,qt⟩=none):=Lib.hid (by
        unfold jn
        rw [if_neg (fun h=>hef (by have:=h.2.2;simp only at this;omega)),if_neg (by simp)])
       have y5:((e:Int)==(f2:Int))=false:=by simp;omega
       clear e1 e2 e3 e4 e5 x1 x2 x3 x4 x5 hs9 he hm3 hef
       go_wp2_with (first|refine sL ?_|(refine sS ?_;clear H;intros;rename_i H))
       refine wp_region_h H 36 [] [] (by kernel_rfl) (by kernel_rfl) ?_
       apply Exists.intro
       refine ⟨fun w1 hw1 HX=>?_,fun bs wr Hr=>?_⟩
       ·refine sG ?_
        repeat (first|go_big_quiet_skip|refine sQ ?_|go_big_quiet_step (fail))
        exact wpQuiet_nil rfl
       clear H
       have H:=Hr
       clear Hr
       replace H:=sH H;refine sT ?_
       go_wp2_with (first|refine sL ?_|(refine sS ?_;clear H;intros;rename_i H)|((with_reducible refine isLoad ?_);refine AtLoad.rngT rfl rfl rfl (HRX.out _ (H.known HK (A:=poolA P) pk)) rfl ?_;simp only [Act.put,puA,puB,puC])|((with_reducible refine isSlice ?_);refine AtSlice.one H rfl rfl rfl rfl rfl rfl rfl rfl rfl ?_;clear H;intro b9 _ H;simp only [Act.put,puA,puB,puC])|((with_reducible refine isAppend ?_);refine AtAppend.go (enc:=encR) H rfl rfl rfl rfl rfl (by decide) (by decide) rfl pk rfl (H.at pk) [(⟨true,f2,m2,qt⟩:Pz)] rfl (by simp [flatG,encR]) encR_len encR_one (by have:=HLK.out;simp;omega) ?_;clear H;intro ad9 cp9 _ H;simp only [Act.put,puA,puB,puC]))
       rw [show (L++[(⟨true,f1,m1,kt⟩:Pz)]).length+1=L.length+1+1 by simp] at H
       go_roundg (n-(i+1))
       case measure=>omega
       case rel =>
        have h1:=HRL.out
        exact ⟨i+1,L++[(⟨true,f1,m1,kt⟩:Pz)]++[(⟨true,f2,m2,qt⟩:Pz)],rfl,by omega,rfl,⟨by rw [HTK.out,← h1.1];exact (nst_none HJ.out).symm,by have:=h1.2;simp at this ⊢;omega⟩,H.picks (.cons (A:=rowsA encR 106 4 (.slice ad9 (L.length+1+1) cp9) (L++[(⟨true,f1,m1,kt⟩:Pz)]++[(⟨true,f2,m2,qt⟩:Pz)])) pk .nil)⟩
  ·have d5:decide ((i:Int)<(n:Int))=false:=by simp;omega
   have d5n:decide (i<n)=false:=by simp;omega
   have hin:i=n:=by omega
   subst hin
   have HE:Hid (qs.take i=qs):=Lib.hid (List.take_of_length_le (by rw [HIN.out.1];exact Nat.le_refl _))
   clear hrel hlt
   go_wp2_with (first|refine sL ?_|(refine sS ?_;clear H;intros;rename_i H))
   go_ret
   refine ⟨_,rfl,?_⟩
   have h1:=HRL.out.1
   rw [HE.out] at h1
   rw [← h1]
   exact H
end
section
open Go.RowKit Go.Maps
attribute [local go_sem] InGr strB_size
theorem normal_no {X:Px} {b:Nat} {s:List Tr} {ps:List Pi} {qs:List Pz} {ad:Option Addr} {c:Nat} (hX:PxOk X) (hd:IdIs X.S b s) (hps:PiL X.S ps qs) (hn:ps.length≤65536) (hs:s.length≤1048576) (hk:chkL s.length qs≠0) (w:World) (h:PH X w) (hr:((pA X).sep (rowsA encPi 98 4 (.slice ad ps.length c) ps)).ho w) :
  Calls Tryz.prog 25 #[.pointer (some ⟨X.p,0,none⟩),.int .i64 b,.slice ad ps.length c] w (PPost X (.tuple #[.slice none 0 0,.iface 73 (.int .i64 (chkL s.length qs:Nat))]) (pA X).fp w):=by
 obtain ⟨k,hk9⟩:∃ k,chkL s.length qs=k:=⟨_,rfl⟩
 have h:((pA X).sep deA).ho w:=h
 rw [sep_ho] at h hr
 have H:=St.one h.1
 have HK:Ks w (pA X).fp [deA,(rowsA encPi 98 4 (.slice ad ps.length c) ps)]:=⟨fun A hA=>by
   simp at hA
   rcases hA with rfl|rfl
   ·exact h.2.1
   ·exact hr.2.1,fun A hA b hbA hm=>by
   simp at hA
   rcases hA with rfl|rfl
   ·exact h.2.2 b hm hbA
   ·exact hr.2.2 b hm hbA⟩
 generalize (pA X).fp=N at *
 clear h hr
 obtain ⟨n,hnn⟩:∃ n,ps.length=n:=⟨_,rfl⟩
 have hsl:=hps.len
 rw [hnn] at hsl hn HK ⊢
 have HCK:Hid (∀ w,((pA X).sep deA).ho w→((pA X).sep (rowsA encPi 98 4 (.slice ad n c) ps)).ho w→Calls Tryz.prog 21 #[.pointer (some ⟨X.p,0,none⟩),.int .i64 b,.slice ad n c] w (PPost X (.iface 73 (.int .i64 (k:Nat))) (pA X).fp w)):=Lib.hid fun w h h2=>by
  rw [← hnn] at h2 hn ⊢
  have:=check_d hX hd hps hn hs (fun h=>absurd h hk) w h h2
  rw [hk9] at this hk
  simpa [erN,hk] using this
 rw [hk9]
 clear hX hd hps hnn hsl hk hk9
 go_enter Tryz.func25,Tryz.ntmps25
 go_wp2_with (first|refine sL ?_|(refine sS ?_;clear H;intros;rename_i H)|(go_at_call 21;with_reducible refine Calls.mono (HCK.out _ (H.sepK (A:=pA X) HK pk pk) (H.sepK (A:=pA X) (B:=rowsA encPi 98 4 (.slice ad n c) ps) HK pk pk)) ?_;rintro e9 wc ⟨X0,y1,y2,y3,rfl,hb⟩;have HX0:=Lib.hid (And.intro y1 (And.intro y2 y3));clear y1 y2 y3;replace H:=(H.pick (A:=pA X) pk).call hb;clear hb;simp only [List.cons_append,List.nil_append] at H))
 go_ret2
 exact ⟨X0,HX0.out.1,HX0.out.2.1,HX0.out.2.2,rfl,H.picks (.cons (A:=pA X0) pk .nil)⟩
theorem normal_ok {X:Px} {b:Nat} {s:List Tr} {ps:List Pi} {qs:List Pz} {ad:Option Addr} {c:Nat} (hX:PxOk X) (hd:IdIs X.S b s) (hps:PiL X.S ps qs) (hn:ps.length≤1024) (hs:s.length≤1048576) (hk:chkL s.length qs=0) (htot:szL qs≤1048576) (htx:txL qs≤1048576) (hroom:X.S.list.length+ps.length*txL qs≤X.S.most) (w:World) (h:PH X w) (hr:((pA X).sep (rowsA encPi 98 4 (.slice ad ps.length c) ps)).ho w) :
  Calls Tryz.prog 25 #[.pointer (some ⟨X.p,0,none⟩),.int .i64 b,.slice ad ps.length c] w (JnPost X (nrm qs) (ps.length*txL qs) (pA X).fp w):=by
 have h:((pA X).sep deA).ho w:=h
 rw [sep_ho] at h hr
 have H:=St.one h.1
 have HK:Ks w (pA X).fp [deA,(rowsA encPi 98 4 (.slice ad ps.length c) ps)]:=⟨fun A hA=>by
   simp at hA
   rcases hA with rfl|rfl
   ·exact h.2.1
   ·exact hr.2.1,fun A hA b hbA hm=>by
   simp at hA
   rcases hA with rfl|rfl
   ·exact h.2.2 b hm hbA
   ·exact hr.2.2 b hm hbA⟩
 generalize (pA X).fp=N at *
 clear h hr
 obtain ⟨n,hnn⟩:∃ n,ps.length=n:=⟨_,rfl⟩
 have hsl:=hps.len
 rw [hnn] at hsl hn HK ⊢
 obtain ⟨T,hT⟩:∃ m,ps.length*txL qs=m:=⟨_,rfl⟩
 rw [hT] at hroom
 have hT2:n*txL qs=T:=by rw [← hnn];exact hT
 rw [hT2]
 have HCK:Hid (∀ w,((pA X).sep deA).ho w→((pA X).sep (rowsA encPi 98 4 (.slice ad n c) ps)).ho w→Calls Tryz.prog 21 #[.pointer (some ⟨X.p,0,none⟩),.int .i64 b,.slice ad n c] w (PPost X .nilIface (pA X).fp w)):=Lib.hid fun w h h2=>by
  rw [← hnn] at h2 hn ⊢
  have:=check_d hX hd hps (by omega) hs (fun _=>htot) w h h2
  rw [hk] at this
  simpa [erN] using this
 have HJN:Hid (∀ X0:Px,X.Ext X0→PxOk X0→X0.S=X.S→∀ w,((pA X0).sep deA).ho w→((pA X0).sep (rowsA encPi 98 4 (.slice ad n c) ps)).ho w→Calls Tryz.prog 65 #[.pointer (some ⟨X.p,0,none⟩),.slice ad n c] w (JnPost X0 (nrm qs) T (pA X0).fp w)):=Lib.hid fun X0 q1 q2 q3 w h h2=>by
  have:=normjoin_c (ad:=ad) (c:=c) q2 (by rw [q3];exact hps) (by omega) (chkL_zero.1 hk) hs htx (by rw [q3,hT];exact hroom) w h (by rw [hnn];exact h2)
  rwa [hT,hnn,q1.p] at this
 clear hX hd hps hnn hsl hk hT hT2 hroom htx htot
 go_enter Tryz.func25,Tryz.ntmps25
 go_wp2_with (first|refine sL ?_|(refine sS ?_;clear H;intros;rename_i H)|(go_at_call 21;with_reducible refine Calls.mono (HCK.out _ (H.sepK (A:=pA X) HK pk pk) (H.sepK (A:=pA X) (B:=rowsA encPi 98 4 (.slice ad n c) ps) HK pk pk)) ?_;rintro e9 wc ⟨X0,y1,y2,y3,rfl,hb⟩;have HX0:=Lib.hid (And.intro y1 (And.intro y2 y3));clear y1 y2 y3;replace H:=(H.pick (A:=pA X) pk).call hb;clear hb;simp only [List.cons_append,List.nil_append] at H)|(go_at_call 65;with_reducible refine Calls.mono (HJN.out X0 HX0.out.1 HX0.out.2.1 HX0.out.2.2 _ (H.sepK (A:=pA X0) HK pk pk) (H.sepK (A:=pA X0) (B:=rowsA encPi 98 4 (.slice ad n c) ps) HK pk pk)) ?_;rintro e9 wc ⟨X2,v2,ps2,rfl,y1,y2,y3,y4,hb⟩;have HZ:=Lib.hid (And.intro y1 (And.intro y2 (And.intro y3 y4)));clear y1 y2 y3 y4;replace H:=(H.pick (A:=pA X0) pk).call hb;clear hb;simp only [List.cons_append,List.nil_append] at H))
 go_ret2
 have h0:=HX0.out
 have h1:=HZ.out
 exact ⟨X2,v2,ps2,rfl,h0.1.trans h1.1,h1.2.1,h1.2.2.1,by rw [← h0.2.2];exact h1.2.2.2,H.picks (.cons (A:=pA X2) pk (.cons (A:=rowsA encPi 98 4 v2 ps2) pk .nil))⟩
end
section
open Go.RowKit Go.Maps
attribute [local go_sem] InGr strB_size
theorem PiL.uniq {S:Sto} (hS:S.Ok):∀ {a b:List Pi} {u:List Pz},PiL S a u→PiL S b u→a=b
 |[],[],[],_,_=>rfl
 |x::a,y::b,t::u,h,k=>by
  have h1:=h.1
  have k1:=k.1
  obtain ⟨xc,xf,xn,xi⟩:=x
  obtain ⟨yc,yf,yn,yi⟩:=y
  have e1:xc=yc:=h1.c.trans k1.c.symm
  have e2:xf=yf:=h1.f.trans k1.f.symm
  have e3:xn=yn:=h1.n.trans k1.n.symm
  have e4:xi=yi:=IdIs.uniq hS h1.id k1.id
  rw [PiL.uniq hS h.2 k.2,e1,e2,e3,e4]
 |[],_::_,[],_,k=>k.elim
 |_::_,[],[],h,_=>h.elim
 |[],_,_::_,h,_=>h.elim
 |_::_,[],_::_,_,k=>k.elim
 |_::_,_::_,[],h,_=>h.elim
theorem equal_c {X:Px} {ps:List Pi} {qs:List Pz} {v1 v2:Value} (hX:PxOk X) (hps:PiL X.S ps qs) (hb:∀ q∈qs,∀ x∈q.t,x<256) (hn:qs.length≤1024) (htx:txL qs≤65536) (hroom:X.S.list.length+2*txL qs<X.S.most) (w:World) (h:PH X w) (h1:((pA X).sep (rowsA encPi 98 4 v1 ps)).ho w) (h2:((pA X).sep (rowsA encR 106 4 v2 qs)).ho w) :
  Calls Tryz.prog 26 #[.pointer (some ⟨X.p,0,none⟩),v1,v2] w fun e w'=>∃ X':Px,e=.returned (.bool true)∧X.Ext X'∧PxOk X'∧X'.S.list.length≤X.S.list.length+2*txL qs∧St w (pA X).fp [pA X'] w':=by
 have h:((pA X).sep deA).ho w:=h
 rw [sep_ho] at h h1 h2
 have H:=St.one h.1
 have HK:Ks w (pA X).fp [deA,rowsA encPi 98 4 v1 ps,rowsA encR 106 4 v2 qs]:=⟨fun A hA=>by
   simp at hA
   rcases hA with rfl|rfl|rfl
   ·exact h.2.1
   ·exact h1.2.1
   ·exact h2.2.1,fun A hA b hbA hm=>by
   simp at hA
   rcases hA with rfl|rfl|rfl
   ·exact h.2.2 b hm hbA
   ·exact h1.2.2 b hm hbA
   ·exact h2.2.2 b hm hbA⟩
 have HPC:Hid (∀ w,((pA X).sep deA).ho w→((pA X).sep (rowsA encR 106 4 v2 qs)).ho w→Calls Tryz.prog 16 #[.pointer (some ⟨X.p,0,none⟩),v2] w (PcsPost X qs (pA X).fp w)):=Lib.hid fun w h h2=>by
  rw [sep_ho] at h2
  obtain ⟨P,r1,r2,r3⟩:=rowsA_pool h2.2.1 encR_len
  exact pieces_c hX r1 hb hn htx hroom w h (by rw [sep_ho];exact ⟨h2.1,r2,fun b hb hc=>h2.2.2 b hb (r3 b hc)⟩)
 have hnl:=hps.len
 have HSA:Hid (∀ (v3:Value) w,(rowsA encPi 98 4 v1 ps).ho w→(rowsA encPi 98 4 v3 ps).ho w→Calls Tryz.prog 28 #[v1,v3] w fun e w'=>e=.returned (.bool true)∧St w [] [] w'):=Lib.hid fun v3 w h1 h2=>same_c (by omega) w h1 h2
 have HIN:Hid (PxOk X∧PiL X.S ps qs):=Lib.hid ⟨hX,hps⟩
 generalize (pA X).fp=N at H HK ⊢
 clear h h1 h2 hX hps hb hn htx hroom hnl
 go_enter Tryz.func26,Tryz.ntmps26
 go_wp2_with (first|refine sL ?_|(refine sS ?_;clear H;intros;rename_i H)|(go_at_call 16;with_reducible refine Calls.mono (HPC.out _ (H.sepK (A:=pA X) HK pk pk) (H.sepK (A:=pA X) (B:=rowsA encR 106 4 v2 qs) HK pk pk)) ?_;rintro e9 wc ⟨X2,v3,ps2,rfl,y1,y2,y3,y4,hb⟩;have HZ:=Lib.hid (And.intro y1 (And.intro y2 (And.intro y3 y4)));clear y1 y2 y3 y4;replace H:=(H.pick (A:=pA X) pk).call hb;clear hb;simp only [List.cons_append,List.nil_append] at H))
 have hpe:ps2=ps:=PiL.uniq HZ.out.2.1.ok HZ.out.2.2.1 (HIN.out.2.le HIN.out.1.ok HZ.out.1.le)
 subst hpe
 go_wp2_with (first|refine sL ?_|(refine sS ?_;clear H;intros;rename_i H)|(go_at_call 28;with_reducible refine Calls.mono (HSA.out v3 _ (H.known HK (A:=rowsA encPi 98 4 v1 ps2) pk) (H.get (A:=rowsA encPi 98 4 v3 ps2) pk)) ?_;rintro e9 wc ⟨rfl,hb⟩;replace H:=H.grew hb.below;clear hb))
 go_ret
 exact ⟨X2,rfl,HZ.out.1,HZ.out.2.1,HZ.out.2.2.2,H.picks (.cons (A:=pA X2) pk .nil)⟩
end
section
open Go.RowKit Go.Maps
attribute [local go_sem] InGr strB_size
theorem szL_app (a b:List Pz):szL (a++b)=szL a+szL b:=by simp [szL]
theorem jn_sz {s:Nat} {k q k':Pz} (h:jn k q=some k') (hk:chkP s k=0) (hq:chkP s q=0):szP k'=szP k+szP q:=by
 have h1:=chk_pos hk
 have h2:=chk_pos hq
 unfold jn at h
 split at h
 ·rename_i hc
  cases h
  simp only [szP,hc.1,hc.2.1,if_true]
  omega
 ·split at h
  ·rename_i hc
   cases h
   simp [szP,hc.1,hc.2]
  ·cases h
theorem nst_sz {s:Nat} {out:List Pz} {q:Pz} (h:∀ x∈out,chkP s x=0) (hq:chkP s q=0):szL (nst out q)=szL out+szP q:=by
 rcases snoc_pz out with rfl|⟨L,k,rfl⟩
 ·simp [nst_nil,szL]
 ·cases hj:jn k q with
  |none=>rw [nst_none hj,szL_app _ [q]];simp [szL]
  |some k' =>
   rw [nst_join hj,szL_app,szL_app]
   have:=jn_sz hj (h k (by simp)) hq
   simp [szL,this]
   omega
theorem foldl_nst_sz {s:Nat} {qs:List Pz}:∀ {out:List Pz},(∀ x∈out,chkP s x=0)→(∀ q∈qs,chkP s q=0)→szL (qs.foldl nst out)=szL out+szL qs:=by
 induction qs with
 |nil=>intro out _ _;simp [szL]
 |cons q r ih =>
  intro out h0 h
  have h1:=ih (out:=nst out q) (nst_chk h0 (h q (by simp))) fun x hx=>h x (by simp [hx])
  have h2:=nst_sz h0 (h q (by simp))
  have h3:szL (q::r)=szP q+szL r:=by simp [szL]
  simp only [List.foldl_cons]
  omega
theorem nrm_sz {s:Nat} {qs:List Pz} (h:∀ q∈qs,chkP s q=0):szL (nrm qs)=szL qs:=by have:=foldl_nst_sz (out:=[]) (by simp) h;simpa [nrm,szL] using this
theorem normal_law {P:PoolT} {qs:List Pz} {v:Value} {base:List Nat} (hr:RowIn P encR 4 v qs) (hb:∀ x∈base,x<256) (hbq:∀ q∈qs,∀ x∈q.t,x<256) (hbl:base.length≤1152921504606846976) (htl:∀ q∈qs,q.t.length≤1152921504606846976) (hf:∀ q∈qs,q.n≤9223372036854775807) (w:World) (hde:deA.ho w) (hp:(poolA P).ho w) :
  Calls Tryz.prog 4 #[.string (strB base),v] w fun e w'=>e=.returned (.bool true)∧St w [] [] w':=by
 have H:=St.nil w []
 have HK:Ks w [] [deA,poolA P]:=Ks.two hde hp
 have HAL:Hid (∀ w,deA.ho w→Calls Tryz.prog 13 #[] w fun e w'=>e=.returned (.bool true)∧St w [] [] w'):=Lib.hid fun w h=>alive_c w h
 have HSH:=Lib.hid (fun w h=>short_c (v:=v) hr hbl htl hf w h)
 have HIN:Hid (RowIn P encR 4 v qs∧(∀ x∈base,x<256)∧∀ q∈qs,∀ x∈q.t,x<256):=Lib.hid ⟨hr,hb,hbq⟩
 clear hr hb hbq hbl htl hf hde hp
 go_enter Tryz.func4,Tryz.ntmps4
 go_wp2_with (first|refine sL ?_|(refine sS ?_;clear H;intros;rename_i H)|(go_at_call 13;with_reducible refine Calls.mono (HAL.out _ (H.known HK pk)) ?_;rintro e9 wc ⟨rfl,hb⟩;replace H:=H.grew hb.below;clear hb))
 go_at_call 14
 with_reducible refine Calls.mono (HSH.out _ (H.known HK (A:=poolA P) pk)) ?_
 rintro e9 wc ⟨bs,rfl,hsh,hb⟩
 replace H:=H.grew hb.below
 clear hb HSH HAL
 cases bs with
 |false =>
  clear hsh
  go_wp2_with (first|refine sL ?_|(refine sS ?_;clear H;intros;rename_i H))
  go_ret
  exact ⟨rfl,H.nix⟩
 |true =>
  obtain ⟨hs1,hs2⟩:=hsh rfl
  obtain ⟨bl,hbl⟩:∃ n,base.length=n:=⟨_,rfl⟩
  obtain ⟨n,hn⟩:∃ n,qs.length=n:=⟨_,rfl⟩
  have htx:=txL_sh qs
  rw [hbl] at hs1
  rw [hn] at hs2
  have HLM:Hid (base.length=bl∧bl≤400∧qs.length=n∧n≤40∧txL qs≤400∧shL qs≤400):=Lib.hid ⟨hbl,by omega,hn,by omega,by omega,by omega⟩
  have HPA:Hid (∀ w,deA.ho w→Calls Tryz.prog 15 #[.string (strB base)] w (ParsePost base w)):=Lib.hid fun w h=>parse_c HIN.out.2.1 (by omega) w h
  have HPI:Hid (∀ X:Px,PxOk X→X.S.most=1048576→X.S.list.length≤2*base.length→∀ w,((pA X).sep deA).ho w→((pA X).sep (poolA P)).ho w→Calls Tryz.prog 16 #[.pointer (some ⟨X.p,0,none⟩),v] w (PcsPost X qs (pA X).fp w)):=Lib.hid fun X q1 q2 q3 w h1 h2=>pieces_c q1 HIN.out.1 HIN.out.2.2 (by omega) (by omega) (by omega) w h1 h2
  clear hsh hs1 hs2 hbl hn htx
  go_wp2_with (first|refine sL ?_|(refine sS ?_;clear H;intros;rename_i H)|(go_at_call 15;with_reducible refine Calls.mono (HPA.out _ (H.known HK pk)) ?_;rintro e9 wc ⟨X,id1,rfl,y1,y2,y3,y4,hb⟩;have HX:=Lib.hid (And.intro y1 (And.intro y2 (And.intro y3 y4)));clear y1 y2 y3 y4;replace H:=H.call0 hb;clear hb;simp only [List.cons_append,List.nil_append] at H)|(go_at_call 16;with_reducible refine Calls.mono (HPI.out X HX.out.1 HX.out.2.1 HX.out.2.2.2 _ (H.sepK (A:=pA X) HK pk pk) (H.sepK (A:=pA X) (B:=poolA P) HK pk pk)) ?_;rintro e9 wc ⟨X2,v2,ps,rfl,y1,y2,y3,y4,hb⟩;have HY:=Lib.hid (And.intro y1 (And.intro y2 (And.intro y3 y4)));clear y1 y2 y3 y4;replace H:=(H.pick (A:=pA X) pk).call hb;clear hb;simp only [List.cons_append,List.nil_append] at H))
  obtain ⟨ad2,c2,rfl,_⟩:=rowsA_shape (H.get (A:=rowsA encPi 98 4 v2 ps) pk)
  have hpl:ps.length=n:=by rw [HY.out.2.2.1.len];exact HLM.out.2.2.1
  rw [hpl] at H ⊢
  have HPL:=Lib.hid hpl
  clear hpl
  have HM2:Hid (X2.S.most=1048576∧X2.S.list.length≤1600∧IdIs X2.S id1 (base.map Tr.leaf)∧X2.p=X.p):=Lib.hid ⟨by rw [HY.out.1.le.1,HX.out.2.1],by have h1:=HY.out.2.2.2;have h2:=HX.out.2.2.2;have h3:=HLM.out;omega,HX.out.2.2.1.le HX.out.1.ok HY.out.1.le,HY.out.1.p⟩
  have HRC:Hid (∀ w,(poolA P).ho w→Calls Tryz.prog 17 #[.string (strB base),v] w fun e w'=>e=.returned (.int .i64 (chkL bl qs:Nat))∧St w [] [] w'):=Lib.hid fun w h=>by
   have h3:=HLM.out
   have:=rcheck_c HIN.out.1 (base:=base) (by omega) w h
   rwa [h3.1] at this
  have HNI:Hid (∀ w,Calls Tryz.prog 20 #[.nilIface] w fun e w'=>e=.returned (.int .i64 0)∧w'=w):=Lib.hid fun w=>num_nil w
  by_cases hk:chkL bl qs=0
  ·have hall:=chkL_zero.1 hk
   have hsz:szL qs≤400:=by have h1:=szL_sh HLM.out.2.1 hall;have h2:=HLM.out;omega
   rw [hk] at HRC
   obtain ⟨nq,hnq⟩:∃ l,nrm qs=l:=⟨_,rfl⟩
   have HNQ:Hid (nrm nq=nq∧nq.length≤40∧txL nq≤400∧szL nq≤400∧(∀ q∈nq,chkP bl q=0)∧∀ q∈nq,∀ x∈q.t,x<256):=Lib.hid ⟨by rw [← hnq];exact nrm_idem qs,by rw [← hnq];have h1:=nrm_len qs;have h2:=HLM.out;omega,by rw [← hnq,nrm_tx hall];have h2:=HLM.out;omega,by rw [← hnq,nrm_sz hall];exact hsz,by rw [← hnq];exact nrm_chk hall,by rw [← hnq];exact nrm_lt HIN.out.2.2⟩
   have HNO:Hid (∀ w,((pA X2).sep deA).ho w→((pA X2).sep (rowsA encPi 98 4 (.slice ad2 n c2) ps)).ho w→Calls Tryz.prog 25 #[.pointer (some ⟨X.p,0,none⟩),.int .i64 id1,.slice ad2 n c2] w (JnPost X2 nq 16000 (pA X2).fp w)):=Lib.hid fun w h1 h2=>by
    have h3:=HLM.out
    have h4:=HM2.out
    have h5:ps.length*txL qs≤40*400:=Nat.mul_le_mul (by rw [HPL.out];omega) (by omega)
    have:=normal_ok (ad:=ad2) (c:=c2) HY.out.2.1 h4.2.2.1 HY.out.2.2.1 (by rw [HPL.out];omega) (by simp;omega) (by rw [List.length_map,h3.1];exact hk) (by omega) (by omega) (by omega) w h1 (by rw [HPL.out];exact h2)
    rw [h4.2.2.2,HPL.out,hnq] at this
    refine this.mono ?_
    rintro e w' ⟨X',v',ps',rfl,y1,y2,y3,y4,y5⟩
    rw [HPL.out] at h5
    exact ⟨X',v',ps',rfl,y1,y2,y3,by omega,y5⟩
   have HN2:Hid (∀ (X3:Px) (v3:Value) (ps3:List Pi),X2.Ext X3→PxOk X3→PiL X3.S ps3 nq→X3.S.list.length≤X2.S.list.length+16000→∀ w,((pA X3).sep deA).ho w→((pA X3).sep (rowsA encPi 98 4 v3 ps3)).ho w→Calls Tryz.prog 25 #[.pointer (some ⟨X.p,0,none⟩),.int .i64 id1,v3] w (JnPost X3 nq 16000 (pA X3).fp w)):=Lib.hid fun X3 v3 ps3 q1 q2 q3 q4 w h1 h2=>by
    have h3:=HLM.out
    have h4:=HM2.out
    have h6:=HNQ.out
    have hl:=q3.len
    have hm:=q1.le.1
    have h5:ps3.length*txL nq≤40*400:=Nat.mul_le_mul (by omega) (by omega)
    obtain ⟨ad3,c3,rfl,_⟩:=rowsA_shape (by rw [sep_ho] at h2;exact h2.2.1)
    have:=normal_ok (ad:=ad3) (c:=c3) q2 (h4.2.2.1.le HY.out.2.1.ok q1.le) q3 (by omega) (by simp;omega) (by rw [List.length_map,h3.1];exact chkL_zero.2 h6.2.2.2.2.1) (by omega) (by omega) (by omega) w h1 h2
    rw [q1.p,h4.2.2.2,h6.1] at this
    refine this.mono ?_
    rintro e w' ⟨X',v',ps',rfl,y1,y2,y3,y4,y5⟩
    exact ⟨X',v',ps',rfl,y1,y2,y3,by omega,y5⟩
   have HRN:Hid (∀ w,(poolA P).ho w→Calls Tryz.prog 27 #[v] w fun e w'=>∃ v',e=.returned v'∧St w [] [rowsA encR 106 4 v' nq] w'):=Lib.hid fun w h=>by
    have h3:=HLM.out
    have:=rnormal_c (s:=bl) HIN.out.1 (by omega) hall (by omega) (by omega) w h
    rwa [hnq] at this
   have HEQ:Hid (∀ (X4:Px) (v3 v5:Value) (ps3:List Pi),X2.Ext X4→PxOk X4→PiL X4.S ps3 nq→X4.S.list.length≤X2.S.list.length+32000→∀ w,((pA X4).sep deA).ho w→((pA X4).sep (rowsA encPi 98 4 v3 ps3)).ho w→((pA X4).sep (rowsA encR 106 4 v5 nq)).ho w→Calls Tryz.prog 26 #[.pointer (some ⟨X.p,0,none⟩),v3,v5] w fun e w'=>∃ X':Px,e=.returned (.bool true)∧X4.Ext X'∧PxOk X'∧X'.S.list.length≤X4.S.list.length+2*txL nq∧St w (pA X4).fp [pA X'] w'):=Lib.hid fun X4 v3 v5 ps3 q1 q2 q3 q4 w h h1 h2=>by
    have h3:=HLM.out
    have h4:=HM2.out
    have h6:=HNQ.out
    have hm:=q1.le.1
    have:=equal_c q2 q3 h6.2.2.2.2.2 (by omega) (by omega) (by omega) w h h1 h2
    rwa [q1.p,h4.2.2.2] at this
   have HSM:Hid (∀ (v3 v4:Value) (ps3:List Pi),ps3.length≤65536→∀ w,(rowsA encPi 98 4 v3 ps3).ho w→(rowsA encPi 98 4 v4 ps3).ho w→Calls Tryz.prog 28 #[v3,v4] w fun e w'=>e=.returned (.bool true)∧St w [] [] w'):=Lib.hid fun v3 v4 ps3 hn w h1 h2=>same_c hn w h1 h2
   clear hk hall hsz hnq
   go_wp2_with (first|refine sL ?_|(refine sS ?_;clear H;intros;rename_i H)|(go_at_call 25;first|(with_reducible refine Calls.mono (HNO.out _ (H.sepK (A:=pA X2) HK pk pk) (H.sepO (A:=pA X2) (B:=rowsA encPi 98 4 (.slice ad2 n c2) ps) pk pk)) ?_;rintro e9 wc ⟨X3,v3,ps3,rfl,y1,y2,y3,y4,hb⟩;have HZ3:=Lib.hid (And.intro y1 (And.intro y2 (And.intro y3 y4)));clear y1 y2 y3 y4;replace H:=(H.pick (A:=pA X2) pk).call hb;clear hb;simp only [List.cons_append,List.nil_append] at H)|(with_reducible refine Calls.mono (HN2.out X3 v3 ps3 HZ3.out.1 HZ3.out.2.1 HZ3.out.2.2.1 HZ3.out.2.2.2 _ (H.sepK (A:=pA X3) HK pk pk) (H.sepO (A:=pA X3) (B:=rowsA encPi 98 4 v3 ps3) pk pk)) ?_;rintro e9 wc ⟨X4,v4,ps4,rfl,y1,y2,y3,y4,hb⟩;have HZ4:=Lib.hid (And.intro y1 (And.intro y2 (And.intro y3 y4)));clear y1 y2 y3 y4;replace H:=(H.pick (A:=pA X3) pk).call hb;clear hb;simp only [List.cons_append,List.nil_append] at H))|(go_at_call 17;with_reducible refine Calls.mono (HRC.out _ (H.known HK (A:=poolA P) pk)) ?_;rintro e9 wc ⟨rfl,hb⟩;replace H:=H.grew hb.below;clear hb)|(go_at_call 27;with_reducible refine Calls.mono (HRN.out _ (H.known HK (A:=poolA P) pk)) ?_;rintro e9 wc ⟨v5,rfl,hb⟩;replace H:=H.call0 hb;clear hb;simp only [List.cons_append,List.nil_append] at H))
   have hps:ps4=ps3:=PiL.uniq HZ4.out.2.1.ok HZ4.out.2.2.1 (HZ3.out.2.2.1.le HZ3.out.2.1.ok HZ4.out.1.le)
   subst hps
   have hlen:ps4.length≤65536:=by have h1:=HZ4.out.2.2.1.len;have h2:=HNQ.out.2.1;omega
   have HLE:=Lib.hid hlen
   have h16:X4.S.list.length≤X2.S.list.length+32000:=by have h1:=HZ3.out.2.2.2;have h2:=HZ4.out.2.2.2;omega
   have H16:=Lib.hid h16
   clear hlen h16
   with_reducible refine Calls.mono (HEQ.out X4 v3 v5 ps4 (HZ3.out.1.trans HZ4.out.1) HZ4.out.2.1 HZ4.out.2.2.1 H16.out _ (H.sepK (A:=pA X4) HK pk pk) (H.sepO (A:=pA X4) (B:=rowsA encPi 98 4 v3 ps4) pk pk) (H.sepO (A:=pA X4) (B:=rowsA encR 106 4 v5 nq) pk pk)) ?_
   rintro e9 wc ⟨X6,rfl,y1,y2,y3,hb⟩
   replace H:=(H.pick (A:=pA X4) pk).call hb
   clear hb y1 y2 y3
   simp only [List.cons_append,List.nil_append] at H
   go_wp2_with (first|refine sL ?_|(refine sS ?_;clear H;intros;rename_i H)|(go_at_call 28;with_reducible refine Calls.mono (HSM.out v3 v4 ps4 HLE.out _ (H.get (A:=rowsA encPi 98 4 v3 ps4) pk) (H.get (A:=rowsA encPi 98 4 v4 ps4) pk)) ?_;rintro e9 wc ⟨rfl,hb⟩;replace H:=H.grew hb.below;clear hb))
   go_ret
   exact ⟨rfl,H.nix⟩
  ·obtain ⟨k,hk9⟩:∃ k,chkL bl qs=k:=⟨_,rfl⟩
   rw [hk9] at HRC hk
   have HKK:=Lib.hid (And.intro hk9 hk)
   have HNO:Hid (∀ w,((pA X2).sep deA).ho w→((pA X2).sep (rowsA encPi 98 4 (.slice ad2 n c2) ps)).ho w→Calls Tryz.prog 25 #[.pointer (some ⟨X.p,0,none⟩),.int .i64 id1,.slice ad2 n c2] w (PPost X2 (.tuple #[.slice none 0 0,.iface 73 (.int .i64 (k:Nat))]) (pA X2).fp w)):=Lib.hid fun w h1 h2=>by
    have h3:=HLM.out
    have h4:=HM2.out
    have:=normal_no (ad:=ad2) (c:=c2) HY.out.2.1 h4.2.2.1 HY.out.2.2.1 (by rw [HPL.out];omega) (by simp;omega) (by rw [List.length_map,h3.1,HKK.out.1];exact HKK.out.2) w h1 (by rw [HPL.out];exact h2)
    rwa [h4.2.2.2,HPL.out,List.length_map,h3.1,HKK.out.1] at this
   have HNU:Hid (∀ w,Calls Tryz.prog 20 #[.iface 73 (.int .i64 (k:Nat))] w fun e w'=>e=.returned (.int .i64 (k:Nat))∧w'=w):=Lib.hid fun w=>num_ev k w
   have ek:((k:Int)==(k:Int))=true:=by simp
   have ek0:((k:Int) != 0)=true:=by simp;omega
   clear hk9 hk
   go_wp2_with (first|refine sL ?_|(refine sS ?_;clear H;intros;rename_i H)|(go_at_call 17;with_reducible refine Calls.mono (HRC.out _ (H.known HK (A:=poolA P) pk)) ?_;rintro e9 wc ⟨rfl,hb⟩;replace H:=H.grew hb.below;clear hb)|(go_at_call 25;with_reducible refine Calls.mono (HNO.out _ (H.sepK (A:=pA X2) HK pk pk) (H.sepO (A:=pA X2) (B:=rowsA encPi 98 4 (.slice ad2 n c2) ps) pk pk)) ?_;rintro e9 wc ⟨X3,y1,y2,y3,rfl,hb⟩;have HZ3:=Lib.hid (And.intro y1 (And.intro y2 y3));clear y1 y2 y3;replace H:=(H.pick (A:=pA X2) pk).call hb;clear hb;simp only [List.cons_append,List.nil_append] at H)|(go_at_call 20;with_reducible refine same (HNU.out _) ?_))
   go_ret
   exact ⟨rfl,H.nix⟩
end
section
open Go.RowKit Go.Maps
attribute [local go_sem] InGr
section
variable {ops:Array Oper} {a:Act} {w w0:World} {M:List Nat} {L R:List As} {o1:Oper} {Rr:Value→World→Prop}
theorem run_append_nil {t e ty:TypeId} (hte:sliceO t=some e) {z:Value} {k bytes:Nat} (hi:infoO e=some (z,k,bytes)) {n c c':Nat} {ad ad':Option Addr} (hn:n≤c) {w:World}:(Builtin.append_ #[t,t] ty #[.slice ad n c,.slice ad' 0 c']).run Tryz.prog w=.ok (.slice ad n c) w:=by
 obtain ⟨i,h2,h3,h4,h5⟩:=infoO_ok hi
 have hu:=sliceO_ok hte
 cases ad with
 |none=>cases ad' with
  |none=>simp [Builtin.append_,run_underlying hu,sizeOf,typeInfo,h2,Builtin.lenOf,Builtin.firstCells,loadCells,loadCellsFrom,storeCells,hn]
  |some x=>simp [Builtin.append_,run_underlying hu,sizeOf,typeInfo,h2,Builtin.lenOf,Builtin.firstCells,loadCells,loadCellsFrom,storeCells,hn]
 |some y=>cases ad' with
  |none=>simp [Builtin.append_,run_underlying hu,sizeOf,typeInfo,h2,Builtin.lenOf,Builtin.firstCells,loadCells,loadCellsFrom,storeCells,hn]
  |some x=>simp [Builtin.append_,run_underlying hu,sizeOf,typeInfo,h2,Builtin.lenOf,Builtin.firstCells,loadCells,loadCellsFrom,storeCells,hn]
end
end
section
open Go.ChangeShapes Go.WideShapes Go.ChangeAt Go.RowKit Go.Deep
def fits64 (z:Int):Prop:=-9223372036854775808≤z∧z≤9223372036854775807
theorem ownK:ownKnob Tryz.prog.godebug=none:=by kernel_rfl
theorem i64_wf {x:Int} (h:(Lit.int .i64 x).wf=true):fits64 x:=by
 simp [Lit.wf,IntKind.min,IntKind.max,IntKind.signed,IntKind.bits] at h
 unfold fits64
 omega
theorem gTab:Tryz.prog.globalNamed "math/bits.deBruijn64tab"=some 0:=by kernel_rfl
theorem tTab:(Tryz.prog.globals[0]?).map (·.type)=some 291:=by kernel_rfl
theorem tab_is {H:Type}:(Rows.laid_math_bits_deBruijn64tab:DataW H)=.agg (Lib.deBruijn64tab.map fun (n:Nat)=>.lit (.int .u8 n)):=rfl
theorem tab_of {W:World} (h:laidMetH Tryz.prog [("math/bits.deBruijn64tab",Rows.laid_math_bits_deBruijn64tab)] W):deA.ho W:=by
  rw [deA_ho]
  rw [MakeChecks.laidMetH_plain _ _ _ (by kernel_rfl)] at h
  obtain ⟨ps,⟨g0,t0,cs0,f0,p0,q0,hg0,ht0,hv0,hd0,_,_⟩,_,_⟩:=h
  obtain rfl:=Option.some.inj (gTab.symm.trans hg0)
  obtain rfl:=Option.some.inj (tTab.symm.trans ht0)
  obtain ⟨xs,m1,hfu,hx1,hlen,hn3,hel⟩:=DataW.trod_array Tryz.underlying291 hd0
  have c5:Tryz.prog.cellsOf 5=1:=by kernel_rfl
  have key:∀ j,j<64→W.cell? ⟨0,j,none⟩=some (.int .u8 (Lib.deBruijn64tab.getD j 0:Nat)):=fun j hj=>by
    have h0:=hel j hj
    rw [c5] at h0
    obtain ⟨y,hy⟩:∃ y,xs[j]?=some y:=⟨xs[j]'(by omega),List.getElem?_eq_getElem _⟩
    rw [hy] at h0
    obtain ⟨k,e1,e2,_⟩:=DataW.trod_int Tryz.underlying5 h0
    rw [tab_is] at hx1
    simp only [Prod.mk.injEq,DataW.agg.injEq] at hx1
    have e3:=congrArg (fun l:List (DataW Unit)=>l[j]?) hx1.1
    simp only [List.getElem?_map,hy,Option.map_some] at e3
    have hl : j < Lib.deBruijn64tab.length := by have : Lib.deBruijn64tab.length = 64 := by decide
                                                 omega
    rw [List.getElem?_eq_getElem hl,Option.map_some] at e3
    have hk:k=(Lib.deBruijn64tab[j]:Nat):=by
      have:=Option.some.inj e3
      rw [e2] at this
      simp at this
      exact this.symm
    have hcl:=World.var?_cell hg0 hv0 j
    have e4:cs0.toList[j]?=some (.int .u8 k):=by
      have:=congrArg List.head? e1
      rw [Nat.mul_one,List.head?_take,if_neg (by omega),List.head?_drop] at this
      simpa using this
    rw [hcl,← Array.getElem?_toList,e4,hk]
    simp [List.getD,hl]
  have h64:Lib.deBruijn64tab.length=64:=by decide
  exact ⟨fun j hj=>key j (by omega),by have:=block_lt_of_cell (key 0 (by omega));exact this⟩
theorem door_met (os:Os) (args:Array Value):laidMetH Tryz.prog [("math/bits.deBruijn64tab",Rows.laid_math_bits_deBruijn64tab)] ((World.doorLaid Tryz.prog 400 os).forCall (fun _ _=>0) ⟨#[],args,[]⟩).memory :=
 laidMetH_of_parts3 (fuel:=80) (laidMet_of_run' 80 (by kernel_rfl) (by kernel_rfl)) (by kernel_rfl) (by kernel_rfl)
end
section
open Go.ChangeShapes Go.WideShapes Go.ChangeAt Go.RowKit Go.Deep
open Go.ChangeMaps (open_string shut_string)
theorem strB_of (b:ByteArray):∃ L:List Nat,b=strB L∧∀ x∈L,x<256:=by
 refine ⟨b.data.toList.map UInt8.toNat,?_,?_⟩
 ·apply ByteArray.ext
  unfold strB
  apply Array.ext'
  have e:∀ l:List UInt8,l=(l.map UInt8.toNat).map UInt8.ofNat:=fun l=>by
   induction l with
   |nil=>rfl
   |cons x l ih=>rw [List.map_cons,List.map_cons,← ih,UInt8.ofNat_toNat]
  exact e _
 ·intro x hx
  obtain ⟨u,_,rfl⟩:=List.mem_map.1 hx
  exact u.toNat_lt
theorem strB_dlen (L:List Nat):(strB L).data.toList.length=L.length:=by
 have h1:=strB_size L
 have h2:(strB L).data.toList.length=(strB L).size:=Array.length_toList
 omega
section
variable {H:Type} {enc:TypeId×Value→H} {w:World} {base:Nat} {spare:Nat→Bool} {held:Bool}
theorem weightsAll_mem {P:Program} {e:TypeId} {m:Nat} {d:DataW H} (hm:m∈d.weights P e):∀ {ds:List (DataW H)},d∈ds→m∈DataW.weightsAll P e ds
 |[],h=>by simp at h
 |x::r,h=>by
  simp only [DataW.weightsAll,List.mem_append]
  rcases List.mem_cons.1 h with h|h
  ·subst h;exact .inl hm
  ·exact .inr (weightsAll_mem hm h)
instance:Inhabited Pz:=⟨⟨false,0,0,[]⟩⟩
theorem open_rowD {α:Type} [Inhabited α] {ec:α→List Value} {k:Nat} (hk:∀ x,(ec x).length=k) (hk0:0<k) {t e:TypeId} (ht:Tryz.prog.underlying t=some (.slice e)) (hc:Tryz.prog.cellsOf e=k) (Ok:α→DataW H→Prop)
  (el:∀ n cs y,cs.length=k→DataW.trod enc Tryz.prog w base spare held n e cs=some y→∃ x,cs=ec x∧Ok x y.1) {fuel:Nat} {cs:List Value} {x:DataW H×List MemPlace} (h:DataW.trod enc Tryz.prog w base spare held fuel t cs=some x) :
  ∃ (v:Value) (xs:List α) (P:PoolT),cs=[v]∧RowIn P ec k v xs∧(poolA P).ho w∧∀ y∈xs,∃ d,Ok y d∧∀ m∈d.weights Tryz.prog e,m∈x.1.weights Tryz.prog t:=by
 rcases open_slice ht h with ⟨hcs,_⟩|⟨a,len,cap,m,n,D,Pl,hcs,_,hl,hm,hmm,hxx,hx⟩
 ·exact ⟨_,[],[],hcs,RowIn.nil 0,poolA_nil w,by simp⟩
 ·have hml:len≤m:=by rw [hmm];split <;> omega
  rw [hc] at hx
  by_cases h0:len=0
  ·subst h0
   exact ⟨_,[],[],hcs,⟨some a,cap,rfl,by simp,fun h=>by simp at h⟩,poolA_nil w,by simp⟩
  obtain ⟨b,o,spot⟩:=a
  have key:∀ i,i<len→∃ x:α,w.cells? base ((⟨b,o,spot⟩:Addr).add (i*k)) k=some (ec x)∧Ok x (D i):=fun i hi=>by
   obtain ⟨cs',h1,h2⟩:=hx i (by omega)
   obtain ⟨x,rfl,hok⟩:=el _ _ _ (World.cells?_some h1).2.1 h2
   exact ⟨x,h1,hok⟩
  obtain ⟨f,hf2⟩:=choose_lt (α:=α) key
  have hcell:∀ i,i<len→∀ j u,(ec (f i))[j]?=some u→w.cell? (((⟨b,o,spot⟩:Addr).add (i*k)).add j)=some u:=fun i hi j u hj=>by
   have hj4:j<k:=by have:=(List.getElem?_eq_some_iff.1 hj).1;rwa [hk] at this
   have:=(World.cells?_some (hf2 i hi).1).2.2 j hj4
   rw [this,hj]
  have hl4:0<(ec (f 0)).length:=by rw [hk];omega
  have hspot:spot=none:=by
   have:=World.cell?_spot (hcell 0 (by omega) 0 _ (List.getElem?_eq_getElem hl4))
   simpa [Addr.add] using this
  subst hspot
  have hadd:∀ i j,((⟨b,o,none⟩:Addr).add (i*k)).add j=⟨b,o+(i*k+j),none⟩:=fun i j=>by rw [Addr.add_mid,Addr.add_mid];congr 1;omega
  have hblk:b<w.heap.size:=by
   have:=block_lt_of_cell (hcell 0 (by omega) 0 _ (List.getElem?_eq_getElem hl4))
   rw [hadd] at this
   exact this
  unfold maxLen at hm
  have hlen:((List.range len).map f).length=len:=by simp
  refine ⟨_,(List.range len).map f,[(b,o,flatG ec ((List.range len).map f))],hcs,⟨some ⟨b,o,none⟩,cap,by rw [hlen],by rw [hlen];unfold maxLen;omega,fun _=>⟨b,o,rfl,by simp⟩⟩,?_,?_⟩
  ·rw [poolA_ho]
   intro y hy
   simp only [List.mem_singleton] at hy
   subst hy
   refine ⟨hblk,fun jj u hj=>?_⟩
   have hjl:=getElem_len hj
   rw [flatG_len ec k hk,hlen] at hjl
   have hi:jj/k<len:=by rw [Nat.div_lt_iff_lt_mul hk0];exact hjl
   have hjk:jj%k<k:=Nat.mod_lt _ hk0
   have hget:((List.range len).map f)[jj/k]?=some (f (jj/k)):=by rw [List.getElem?_map,List.getElem?_range hi];rfl
   have hfl:=flatG_get ec k hk _ (jj/k) _ hget (jj%k) hjk
   have hdm:jj/k*k+jj%k=jj:=by have:=Nat.div_add_mod jj k;rw [Nat.mul_comm] at this;exact this
   rw [hdm,hj] at hfl
   have:=hcell (jj/k) hi (jj%k) u hfl.symm
   rw [hadd,hdm] at this
   exact this
  ·intro y hy
   obtain ⟨i,hi,rfl⟩:=List.mem_map.1 hy
   have hi2:=List.mem_range.1 hi
   refine ⟨D i,(hf2 i hi2).2,fun m hm=>?_⟩
   rw [hxx]
   simp only [DataW.weights,ht,List.mem_cons,List.mem_append]
   exact .inr (.inl (weightsAll_mem hm (List.mem_map.2 ⟨i,hi,rfl⟩)))
def PzOk (q:Pz) (d:DataW H):Prop:=(∀ x∈q.t,x<256)∧q.n≤9223372036854775807∧q.t.length∈d.weights Tryz.prog 106
theorem open_piece {n:Nat} {cs:List Value} {y:DataW H×List MemPlace} (hl:cs.length=4) (h:DataW.trod enc Tryz.prog w base spare held n 106 cs=some y):∃ q:Pz,cs=encR q∧PzOk q y.1:=by
 obtain ⟨a0,a1,a2,a3,rfl⟩:∃ a0 a1 a2 a3,cs=[a0,a1,a2,a3]:=by
  match cs,hl with
  |[a0,a1,a2,a3],_=>exact ⟨a0,a1,a2,a3,rfl⟩
 have c3:Tryz.prog.cellsOf 3=1:=by kernel_rfl
 have c4:Tryz.prog.cellsOf 4=1:=by kernel_rfl
 have c9:Tryz.prog.cellsOf 9=1:=by kernel_rfl
 obtain ⟨y0,y1,y2,y3,n2,hy,_,f0,f1,f2,f3⟩:=Joins.trod_struct4 Tryz.underlying106 h
 simp only [c3,c4,c9,List.drop_zero,List.take_succ_cons,List.take_zero,List.drop_succ_cons] at f0 f1 f2 f3
 obtain ⟨b0,e0,_⟩:=DataW.trod_bool Tryz.underlying4 f0
 obtain ⟨z1,e1,_,w1⟩:=DataW.trod_int Tryz.underlying3 f1
 obtain ⟨z2,e2,_,w2⟩:=DataW.trod_int Tryz.underlying3 f2
 obtain ⟨s3,e3,hy3,_⟩:=DataW.trod_string Tryz.underlying9 f3
 obtain ⟨L,rfl,hL⟩:=strB_of s3
 simp only [List.cons.injEq,and_true] at e0 e1 e2 e3
 subst e0 e1 e2 e3
 refine ⟨⟨b0,z1,z2,L⟩,rfl,hL,(i64_wf w2).2,?_⟩
 rw [hy]
 simp only [DataW.weights,Tryz.underlying106]
 simp only [List.toList_toArray,List.map_cons,List.map_nil,DataW.weightsEach,List.mem_append]
 refine .inr (.inr (.inr (.inl ?_)))
 rw [hy3]
 simp [DataW.weights,strB_dlen,strB_size]
theorem arg_pieces {r:Reach} {b0:Nat} {v:Value} {d:DataW H} {p:List MemPlace} (hv:Value.okWide Tryz.prog w r b0 22 v) (h:DataW.Trod enc Tryz.prog w base spare held 22 v d p) :
  ∃ (qs:List Pz) (P:PoolT),RowIn P encR 4 v qs∧(poolA P).ho w∧∀ q∈qs,(∀ x∈q.t,x<256)∧q.n≤9223372036854775807∧q.t.length∈d.weights Tryz.prog 22:=by
 obtain ⟨a,n,c,rfl⟩:=okWide_slice Tryz.underlying22 hv
 obtain ⟨fuel,hf⟩:=h
 have c5:Tryz.prog.cellsOf 106=4:=by kernel_rfl
 obtain ⟨v2,qs,P,e,h1,h2,h3⟩:=open_rowD (ec:=encR) encR_len (by omega) Tryz.underlying22 c5 PzOk (fun n cs y hl hy=>open_piece hl hy) hf
 simp only [Value.cells,List.cons.injEq,and_true] at e
 first|subst e|(have e:=(List.cons.inj e).1;subst e)
 exact ⟨qs,P,h1,h2,fun q hq=>by
  obtain ⟨d',⟨k1,k2,k3⟩,k4⟩:=h3 q hq
  exact ⟨k1,k2,k4 _ k3⟩⟩
end
end
end Go.Proofs.YtgnppnokkdghcaaGreatDoor
