/-
  Part 4 of the texts behind the statements of this seat: walks and laws Gf, Fm, Fz, Gn, Dl, Fn. Conditions: as each states.
-/
import Derived.Test.YtgnppnokkdghcaaGreatDoorAw3
import Derived.ChangeMaps5
import Derived.ChangeOld
import Derived.Deep.Slices
import Derived.LaidMore
import Derived.Laws.Rows
import Derived.Lib.SmallJoins
import Derived.OpenShut
import Derived.ProofKit
import Derived.SevenTiedAt
import Derived.ShutString
import Derived.SizedLaws
import Derived.Stop.Joined
import Derived.Test.YtgnppnokkdghcaaGreatDoorCards
import Derived.Test.YtgnppnokkdghcaaGreatDoorTie
set_option linter.unusedSimpArgs false
set_option linter.unusedVariables false
set_option maxRecDepth 100000
set_option maxHeartbeats 80000000
namespace Go.Proofs.YtgnppnokkdghcaaGreatDoor
section
open Go.RowKit Go.Maps
attribute [local go_sem] InGr strB_size
section
variable {ops:Array Oper} {Q:Exit->Act->World->Prop} {rest:List Oper} {a:Act} {w w0:World} {M:List Nat} {L R:List As} {o1:Oper} {dst:Option Tmp} {ty0:TypeId} {pos:String} {aft:Array Edge} {gd:Option (Nat×Bool)}
def AtMakeSlice (P:Program) (ops:Array Oper) (Q:Exit->Act->World->Prop) (o:Oper) (_:TypeId) (_ _:Operand) (rest:List Oper) (a:Act) (w:World):Prop:=wpList P ops Q (o::rest) a w
theorem isMakeSlice {P:Program} {t:TypeId} {x y:Operand} (h:AtMakeSlice P ops Q ⟨dst,.makeSlice t x y,ty0,pos,aft,gd⟩ t x y rest a w):wpList P ops Q (⟨dst,.makeSlice t x y,ty0,pos,aft,gd⟩::rest) a w:=h
theorem AtMakeSlice.ints {t:TypeId} {x y:Operand} (H:St w0 M L w) (hw:Region.wanted o1 (yielded ops a.tmps)=true) (ho:o1.op=.makeSlice t x y) (n:Nat) (hx:a.eval x=.int .i64 (n:Int)) (hy:a.eval y=.int .i64 (n:Int)) (hte:sliceO t=some 3) {bytes:Nat} (hi:infoO 3=some (.int .i64 0,1,bytes)) (hn:n*bytes<=281474976710656) (h63:n<=16777216)
  (h:∀ b w',St w0 M (rowsA encI 3 1 (.slice (some ⟨b,0,none⟩) n n) (List.replicate n 0)::L) w'->wpList Tryz.prog ops Q rest (a.put o1.dst (.slice (some ⟨b,0,none⟩) n n)) w'):AtMakeSlice Tryz.prog ops Q o1 t x y rest a w :=
 wpList_step fun _ hK=>by
  rw [if_pos hw];obtain ⟨i,h2,h3,h4,h5⟩:=infoO_ok hi;have hb3:(bytes:Int)*(n:Int)<=281474976710656:=by
   have h9:((n*bytes:Nat):Int)<=281474976710656:=(by omega);rw [Nat.mul_comm] at h9;rwa [Int.natCast_mul] at h9
  have hr:=run_makeSlice (P:=Tryz.prog) (w:=w) t 3 i (.int .i64 0) (sliceO_ok hte) h2 h3 .i64 .i64 n n (by omega) (by omega) (by rw [h4];simp;omega) (by rw [h5];exact hb3) (by omega);rw [show (Value.int .i64 0).cells=#[.int .i64 0] from rfl,h4] at hr;simp only [Int.toNat_natCast,Nat.mul_one] at hr;unfold Oper.wp execOp;simp only [ho,hx,hy,Sem.run_bind,hr,Result.andThen_ok,Sem.run_pure];refine hK _ _ (h _ _ ((H.alloc (.cells (madeCells #[.int .i64 0] n) 3)).conv (by rw [rowsA_fp',blk_fp];rfl) fun hb=>?_));rw [blk_ho] at hb;have:=rowsA_of_blk (enc:=encI) (k:=1) (xs:=List.replicate n 0) hb (by simp [maxLen];omega) (by
   rw [show (madeCells #[Value.int .i64 0] n).toList=List.replicate n (.int .i64 0) from toList_madeCells_one _ _];clear h h3 h4 h5 hb hr hb3 hn h63 hx hy;induction n with
   |zero=>rfl
   |succ n ih=>rw [List.replicate_succ,List.replicate_succ];show _=encI 0++flatG encI _;rw [← ih];rfl) encI_len
  simpa using this
end
theorem ends_set {qs:List Pz} {i n:Nat} (hn:qs.length=n) (hi:i<n):((endsL qs).take i++List.replicate (n-i) 0).set i (szL (qs.take (i+1)))=(endsL qs).take (i+1)++List.replicate (n-(i+1)) 0:=by
 have hl:((endsL qs).take i).length=i:=(by rw [List.length_take,endsL_len];omega);have hE:=endsL_at (qs:=qs) (i:=i) (by omega);generalize szL (qs.take (i+1))=E at *;rw [List.set_append_right _ _ (by omega),hl,Nat.sub_self,show n-i=(n-(i+1))+1 by omega,List.replicate_succ,List.set_cons_zero,List.take_add_one,hE];simp
theorem ends_get {qs:List Pz} {i n:Nat} (hn:qs.length=n) (hi:i<n):((endsL qs).take i++List.replicate (n-i) 0)[i]?=some 0:=by
 have hl:((endsL qs).take i).length=i:=(by rw [List.length_take,endsL_len];omega);rw [List.getElem?_append_right (by omega),hl,Nat.sub_self,List.getElem?_replicate];rw [if_pos (by omega)]
def CoRel1 (X1:Px) (N:List Nat) (w:World) (b5:Nat) (qs:List Pz) (n m:Nat) (v1 v2:Value) (wr:World):Prop :=
 ∃ i:Nat,m=n-i∧i<=n∧v1=.int .i64 (szL (qs.take i):Nat)∧v2=.int .i64 i∧St w N [pA X1,rowsA encI 3 1 (.slice (some ⟨b5,0,none⟩) n n) ((endsL qs).take i++List.replicate (n-i) 0)] wr
def CoRel2 (X1:Px) (N:List Nat) (w:World) (b5:Nat) (qs es:List Pz) (n k m:Nat) (v1 v2:Value) (wr:World):Prop :=
 ∃ (j:Nat) (X2:Px) (out:List Pi),m=k-j∧j<=k∧v2=.int .i64 j∧(PiL X2.S out (cmpW qs (es.take j))∧X1.Ext X2∧PxOk X2∧X2.S.list.length<=X1.S.list.length+j*(2*txL qs))∧St w N [pA X2,rowsA encPi 98 4 v1 out,rowsA encI 3 1 (.slice (some ⟨b5,0,none⟩) n n) (endsL qs)] wr
theorem compose_ok {X:Px} {b:Nat} {base:List Nat} {ps ms:List Pi} {qs es:List Pz} {ad am:Option Addr} {c cm n k C1 C2 C3:Nat} (hX:PxOk X) (hd:IdIs X.S b (base.map Tr.leaf)) (hps:PiL X.S ps qs) (hms:PiL X.S ms es) (hnn:ps.length=n) (hkk:ms.length=k) (hn:n<=1024) (hk:k<=1024) (hs:base.length<=1048576) (hz:chkL base.length qs=0) (hz2:chkL (apL base qs).length es=0) (htot:szL qs<=1048576) (htot2:szL es<=1024) (hC1:n*(2*base.length)+n*szL qs<=C1) (hC2:k*(2*txL qs)<=C2) (hC3:szL es*szL es<=C3) (hroom:X.S.list.length+C1+C2+C3<=X.S.most) (w:World) (h:PH X w) (hr:((pA X).sep (rowsA encPi 98 4 (.slice ad n c) ps)).ho w) (hm:((pA X).sep (rowsA encPi 98 4 (.slice am k cm) ms)).ho w) :
  Calls Tryz.prog 29 #[.pointer (some ⟨X.p,0,none⟩),.int .i64 b,.slice ad n c,.slice am k cm] w (JnPost X (nrm (cmpW qs es)) (C1+C2+C3) (pA X).fp w):=by
 have h:((pA X).sep deA).ho w:=h;rw [sep_ho] at h hr hm;have H:=St.one h.1;have HK:Ks w (pA X).fp [deA,rowsA encPi 98 4 (.slice ad n c) ps,rowsA encPi 98 4 (.slice am k cm) ms]:=⟨fun A hA=>by
   simp at hA;rcases hA with rfl|rfl|rfl
   ·exact h.2.1
   ·exact hr.2.1
   ·exact hm.2.1,fun A hA b hbA hm9=>by
   simp at hA;rcases hA with rfl|rfl|rfl
   ·exact h.2.2 b hm9 hbA
   ·exact hr.2.2 b hm9 hbA
   ·exact hm.2.2 b hm9 hbA⟩
 generalize (pA X).fp=N at *;clear h hr hm;have hsl:=hps.len;have hml:=hms.len;have hall:=chkL_zero.1 hz;have hall2:=chkL_zero.1 hz2;have HAP:Hid (∀ w,((pA X).sep deA).ho w->((pA X).sep (rowsA encPi 98 4 (.slice ad n c) ps)).ho w->Calls Tryz.prog 18 #[.pointer (some ⟨X.p,0,none⟩),.int .i64 b,.slice ad n c] w (IdPost X ((apL base qs).map Tr.leaf) C1 (pA X).fp w)):=zh fun w h h2=>by
  rw [← hnn] at h2 ⊢;have:=apply_c hX hd hps (by omega) hs hz htot (by rw [hnn];omega) w h h2;refine this.mono ?_;rintro e w' ⟨X',id,rfl,y1,y2,y3,y4,y5⟩;exact ⟨X',id,rfl,y1,y2,y3,by rw [hnn] at y4;omega,y5⟩
 have HCK:Hid (∀ (X1:Px) (y:Nat),X.Ext X1->PxOk X1->IdIs X1.S y ((apL base qs).map Tr.leaf)->∀ w,((pA X1).sep deA).ho w->((pA X1).sep (rowsA encPi 98 4 (.slice am k cm) ms)).ho w->Calls Tryz.prog 21 #[.pointer (some ⟨X.p,0,none⟩),.int .i64 y,.slice am k cm] w (PPost X1 .nilIface (pA X1).fp w)):=zh fun X1 y q1 q2 q3 w h h2=>by
  rw [← hkk] at h2 ⊢;have hap:(apL base qs).length=szL qs:=apL_len hall;have:=check_d q2 q3 (hms.le hX.ok q1.le) (by omega) (by simp;omega) (fun _=>by omega) w h h2;rw [List.length_map,hz2,q1.p] at this;simpa [erN] using this
 have hst:szL qs<=1048576:=htot;have HIN:Hid (PiL X.S ps qs∧ps.length=n∧qs.length=n∧PiL X.S ms es∧ms.length=k∧es.length=k∧(∀ q∈qs,chkP base.length q=0)∧(∀ q∈es,chkP (szL qs) q=0)∧PxOk X∧base.length<=1048576∧szL es<=1024∧k*(2*txL qs)<=C2∧szL es*szL es<=C3∧X.S.list.length+C1+C2+C3<=X.S.most):=zh ⟨hps,hnn,by omega,hms,hkk,by omega,hall,by rw [← apL_len hall];exact hall2,hX,hs,htot2,hC2,hC3,hroom⟩;have HRD:Hid (∀ (i:Nat) (a:Pi),ps[i]?=some a->∃ g,ad=some ⟨g,0,none⟩∧∀ w,(rowsA encPi 98 4 (.slice ad n c) ps).ho w->w.rangeAt g (i*4) [.bool a.c,.int .i64 a.f,.int .i64 a.n,.int .i64 a.id]):=zh fun i a hi=>by
  obtain ⟨g,c8,e1,_⟩:=rowsA_cases (HK.ho (rowsA encPi 98 4 (.slice ad n c) ps) (by simp)) (by have:=gelt hi;omega);injection e1 with e1 _ _
  exact ⟨g,e1,fun w h=>by rw [e1] at h;exact rowsA_rng h encPi_len hi⟩
 have HRM:Hid (∀ (i:Nat) (a:Pi),ms[i]?=some a->∃ g,am=some ⟨g,0,none⟩∧∀ w,(rowsA encPi 98 4 (.slice am k cm) ms).ho w->w.rangeAt g (i*4) [.bool a.c,.int .i64 a.f,.int .i64 a.n,.int .i64 a.id]):=zh fun i a hi=>by
  obtain ⟨g,c8,e1,_⟩:=rowsA_cases (HK.ho (rowsA encPi 98 4 (.slice am k cm) ms) (by simp)) (by have:=gelt hi;omega);injection e1 with e1 _ _
  exact ⟨g,e1,fun w h=>by rw [e1] at h;exact rowsA_rng h encPi_len hi⟩
 clear hX hd hps hms hnn hkk hs hz hz2 htot htot2 hC1 hC2 hC3 hroom hsl hml hall hall2;go_enter Tryz.func29,Tryz.ntmps29;go_wp2_with (first|refine sL ?_|(refine sS ?_;clear H;intros;rename_i H)|(go_at_call 18;with_reducible refine zm (HAP.out _ (H.sepK HK pk pk) (H.sepK HK pk pk)) ?_;rintro e9 wc ⟨X0,id0,rfl,y1,y2,y3,y4,hb⟩;have HZ0:=zh (za y1 (za y2 (za y3 y4)));clear y1 y2 y3 y4;replace H:=zn ((H.pick pk).call hb);clear hb)|(go_at_call 21;with_reducible refine zm (HCK.out X0 id0 HZ0.out.1 HZ0.out.2.1 HZ0.out.2.2.1 _ (H.sepK HK pk pk) (H.sepK HK pk pk)) ?_;rintro e9 wc ⟨X1,y1,y2,y3,rfl,hb⟩;have HZ1:=zh (za y1 (za y2 y3));clear y1 y2 y3;replace H:=zn ((H.pick pk).call hb);clear hb)|((with_reducible refine isMakeSlice ?_);refine AtMakeSlice.ints H rfl rfl n rfl rfl rfl rfl (by omega) (by omega) ?_;clear H;intro b5 _ H;simp only [Act.put,puA,puB,puC]));go_loopg [14,44] n (fun m v1 v2 wr=>CoRel1 X1 N w b5 qs n m v1 v2 wr);case atStart=>exact ⟨0,rfl,Nat.zero_le _,by simp [szL],rfl,by
  have:=H.picks (.cons (A:=pA X1) pk (.cons (A:=rowsA encI 3 1 (.slice (some ⟨b5,0,none⟩) n n) (List.replicate n 0)) pk .nil));simpa using this⟩
 case round =>
  clear H;obtain ⟨i,rfl,hik,rfl,rfl,H⟩:=hrel;by_cases hlt:i<n
  ·have d5:decide ((i:Int)<(n:Int))=true:=(by simp;omega);have d5n:decide (i<n)=true:=(by simp;omega);obtain ⟨p,hp⟩:∃ a,ps[i]?=some a:=⟨_,zg (by rw [HIN.out.2.1];exact hlt)⟩
   obtain ⟨q,hq,hpq⟩:=HIN.out.1.get hp;obtain ⟨g,rfl,hcell⟩:=HRD.out i p hp;have hck:=HIN.out.2.2.2.2.2.2.1 q (List.mem_of_getElem? hq);have HRX:=zh hcell;have hts:=szL_take_succ hq;have hE:=szL_take qs (i+1);have HSET:=zh (ends_set HIN.out.2.2.1 hlt);have HGET:=zh (ends_get HIN.out.2.2.1 hlt);obtain ⟨T0,hT0⟩:∃ k,szL (qs.take i)=k:=⟨_,rfl⟩
   obtain ⟨T1,hT1⟩:∃ k,szL (qs.take (i+1))=k:=⟨_,rfl⟩
   obtain ⟨sz,hsz⟩:∃ k,szP q=k:=⟨_,rfl⟩
   rw [hT1] at hts hE HSET;rw [hT0,hsz] at hts;rw [hT0];have hT1b:T1<=1048576:=(by omega);have i1:(T0:Int)+(sz:Int)=(T1:Int):=(by omega);have HT1:=zh hT1;have HX9:Hid (PxOk X1∧X.Ext X1):=zh ⟨HZ1.out.2.1,HZ0.out.1.trans HZ1.out.1⟩;have HPS:Hid (∀ w,(pA X1).ho w->Calls Tryz.prog 58 #[.pointer (some ⟨X.p,0,none⟩),.agg #[.bool p.c,.int .i64 p.f,.int .i64 p.n,.int .i64 p.id]] w fun e w'=>e=.returned (.tuple #[.int .i64 (sz:Nat),.nilIface])∧St w [] [] w'):=zh fun w h=>by
    have:=pieceSize_c HX9.out.1 (hpq.le HIN.out.2.2.2.2.2.2.2.2.1.ok HX9.out.2.le) (chk_pos hck).1 w h;rwa [HX9.out.2.p,hsz] at this
   clear hp hq hcell hT0 hT1 hsz hpq hck hts hE;go_wp2_with (first|refine sL ?_|(refine sS ?_;clear H;intros;rename_i H)|(go_at_call 58;with_reducible refine zm (HPS.out _ (H.get pk)) ?_;rintro e9 wc ⟨rfl,hb⟩;replace H:=H.grew hb.below;clear hb)|((with_reducible refine isLoad ?_);refine AtLoad.rngT rfl rfl rfl (HRX.out _ (H.known HK pk)) rfl ?_;simp only [Act.put,puA,puB,puC])|((with_reducible refine isStore ?_);refine AtStore.rowAk (enc:=encI) H rfl rfl rfl rfl rfl rfl (xs:=(endsL qs).take i++List.replicate (n-i) 0) pk encI_len HGET.out (j:=0) (by decide) (by omega) T1 rfl ?_;clear H;intro _ H;simp only [Act.put,puA,puB,puC]));rw [HSET.out] at H;go_roundg (n-(i+1));case measure=>omega
   case rel=>exact ⟨i+1,rfl,by omega,by rw [HT1.out],by go_num,H.picks (.cons pk (.cons pk .nil))⟩
  ·have d5:decide ((i:Int)<(n:Int))=false:=(by simp;omega);have d5n:decide (i<n)=false:=(by simp;omega);have hin:n=i:=(by omega);subst hin;rw [Nat.sub_self,List.replicate_zero,List.append_nil,List.take_of_length_le (by rw [endsL_len,HIN.out.2.2.1];exact Nat.le_refl _)] at H;go_wp2_with (first|refine sL ?_|(refine sS ?_;clear H;intros;rename_i H));replace H:=H.empty (A:=rowsA encPi 98 4 (.slice none 0 0) []) (rowsA_nil _) (by rw [rowsA_fp'];rfl);have HX9:Hid (PxOk X1∧X.Ext X1∧X1.S.list.length<=X.S.list.length+C1):=zh ⟨HZ1.out.2.1,HZ0.out.1.trans HZ1.out.1,by rw [HZ1.out.2.2];exact HZ0.out.2.2.2⟩;have HWI:Hid (∀ (X2:Px) (out:List Pi) (outq:List Pz) (v1:Value) (f m xid:Nat),X1.Ext X2->PxOk X2->PiL X2.S out outq->out.length<=65536->f+m<=szL qs->X2.S.list.length+2*txL qs<=X.S.most->∀ w,(((pA X2).sep (rowsA encPi 98 4 v1 out)).sep deA).ho w->(((pA X2).sep (rowsA encPi 98 4 v1 out)).sep (rowsA encPi 98 4 (.slice ad n c) ps)).ho w->(((pA X2).sep (rowsA encPi 98 4 v1 out)).sep (rowsA encI 3 1 (.slice (some ⟨b5,0,none⟩) n n) (endsL qs))).ho w->Calls Tryz.prog 66 #[.pointer (some ⟨X.p,0,none⟩),v1,.slice ad n c,.slice (some ⟨b5,0,none⟩) n n,.agg #[.bool true,.int .i64 (f:Nat),.int .i64 (m:Nat),.int .i64 (xid:Nat)]] w (WiPost X2 (outq++win qs f m) (out.length+n) (2*txL qs) ((pA X2).sep (rowsA encPi 98 4 v1 out)).fp w)):=zh fun X2 out outq v1 f m xid q1 q2 q3 q4 q5 q6 w h1 h2 h3=>by
    have hm:X2.S.most=X.S.most:=(HX9.out.2.1.trans q1).le.1;have:=within_c (xid:=xid) q2 (HIN.out.1.le HIN.out.2.2.2.2.2.2.2.2.1.ok (HX9.out.2.1.trans q1).le) HIN.out.2.1 hn HIN.out.2.2.2.2.2.2.1 HIN.out.2.2.2.2.2.2.2.2.2.1 hst q3 q4 q5 (by rw [hm];exact q6) w h1 h2 h3;rwa [(HX9.out.2.1.trans q1).p] at this
   have HJN:Hid (∀ (X2:Px) (out:List Pi) (ad2:Option Addr) (c2:Nat),X1.Ext X2->PxOk X2->PiL X2.S out (cmpW qs es)->X2.S.list.length<=X.S.list.length+C1+C2->∀ w,((pA X2).sep deA).ho w->((pA X2).sep (rowsA encPi 98 4 (.slice ad2 out.length c2) out)).ho w->Calls Tryz.prog 65 #[.pointer (some ⟨X.p,0,none⟩),.slice ad2 out.length c2] w (JnPost X2 (nrm (cmpW qs es)) C3 (pA X2).fp w)):=zh fun X2 out ad2 c2 q1 q2 q3 q4 w h1 h2=>by
    have hm:X2.S.most=X.S.most:=(HX9.out.2.1.trans q1).le.1;have hi:=HIN.out;obtain ⟨l1,l2⟩:=cmp_len (qs:=qs) hi.2.2.2.2.2.2.2.1;have hl:=q3.len;have hmul:out.length*txL (cmpW qs es)<=szL es*szL es:=Nat.mul_le_mul (by omega) l2;have h9:=hi.2.2.2.2.2.2.2.2.2.2;have:=normjoin_c (ad:=ad2) (c:=c2) q2 q3 (by omega) (cmp_chk hi.2.2.2.2.2.2.1 hi.2.2.2.2.2.2.2.1) hi.2.2.2.2.2.2.2.2.2.1 (by omega) (by rw [hm];omega) w h1 h2;rw [(HX9.out.2.1.trans q1).p] at this;refine this.mono ?_;rintro e w' ⟨X',v',ps',rfl,y1,y2,y3,y4,y5⟩;exact ⟨X',v',ps',rfl,y1,y2,y3,by omega,y5⟩
   clear hlt d5 d5n;go_loopg [19,68] k (fun m v1 v2 wr=>CoRel2 X1 N w b5 qs es n k m v1 v2 wr);case atStart=>exact ⟨0,X1,[],rfl,Nat.zero_le _,rfl,⟨trivial,.refl _,HX9.out.1,by omega⟩,H.picks (.cons pk (.cons pk (.cons pk .nil)))⟩
   case round =>
    clear H;obtain ⟨j,X2,out,rfl,hjk,rfl,hrel,H⟩:=hrel;have HRL:=zh hrel;have HOL:Hid (out.length<=1024):=zh (by
     have h1:=hrel.1.len;obtain ⟨l1,l2⟩:=cmp_len (qs:=qs) (es:=es.take j) (s:=szL qs) fun e he=>HIN.out.2.2.2.2.2.2.2.1 e (List.mem_of_mem_take he)
     have h2:=szL_take es j;have h3:=HIN.out.2.2.2.2.2.2.2.2.2.2.1;omega)
    have hol:=HOL.out;obtain ⟨ad2,c2,rfl,_⟩:=rowsA_shape (H.get (A:=rowsA encPi 98 4 _ out) pk);by_cases hlt:j<k
    ·have d5:decide ((j:Int)<(k:Int))=true:=(by simp;omega);have d5n:decide (j<k)=true:=(by simp;omega);obtain ⟨p,hp⟩:∃ a,ms[j]?=some a:=⟨_,zg (by rw [HIN.out.2.2.2.2.1];exact hlt)⟩
     obtain ⟨q,hq,hpq⟩:=HIN.out.2.2.2.1.get hp;obtain ⟨g,rfl,hcell⟩:=HRM.out j p hp;have hck:=HIN.out.2.2.2.2.2.2.2.1 q (List.mem_of_getElem? hq);have HRX:=zh hcell;have HTK:=zh (cmp_take_succ (qs:=qs) hq);have hjm:(j+1)*(2*txL qs)<=k*(2*txL qs):=Nat.mul_le_mul_right _ (by omega);have hrm:X2.S.list.length+2*txL qs<=X.S.most:=by
      have h1:=hrel.2.2.2;have h2:=HX9.out.2.2;have h3:=HIN.out;rw [Nat.add_mul,Nat.one_mul] at hjm;omega
     have HRM2:=zh hrm;obtain ⟨pc,pf,pn,pid⟩:=p;obtain ⟨qc,qf,qn,qt⟩:=q;obtain ⟨g1,g2,g3,g4⟩:=hpq;simp only at g1 g2 g3 g4 HRX;subst g1 g2 g3;have HPK:Hid (PiOk X.S ⟨pc,pf,pn,pid⟩ ⟨pc,pf,pn,qt⟩):=zh ⟨rfl,rfl,rfl,g4⟩;cases pc with
     |true =>
      obtain ⟨e1,e2⟩:=chk_pos hck;obtain ⟨e3,e4,e5⟩:=e2 rfl;simp only at e1 e3 e4 e5;obtain ⟨f1,rfl⟩:∃ f:Nat,pf=f:=⟨pf.toNat,by omega⟩
      obtain ⟨m1,rfl⟩:∃ f:Nat,pn=f:=⟨pn.toNat,by omega⟩
      have HFM:Hid (f1+m1<=szL qs):=zh (by omega);clear hrel hp hq hcell hck hjm hrm g4 e1 e2 e3 e4 e5;go_wp2_with (first|refine sL ?_|(refine sS ?_;clear H;intros;rename_i H)|((with_reducible refine isLoad ?_);refine AtLoad.rngT rfl rfl rfl (HRX.out _ (H.known HK pk)) rfl ?_;simp only [Act.put,puA,puB,puC])|(go_at_call 66;with_reducible refine zm (HWI.out X2 out (cmpW qs (es.take j)) (.slice ad2 out.length c2) f1 m1 pid HRL.out.2.1 HRL.out.2.2.1 HRL.out.1 (by omega) HFM.out HRM2.out _ ((H.pick2 (A:=pA X2) (B:=rowsA encPi 98 4 (.slice ad2 out.length c2) out) pk pk).join.sepK (A:=(pA X2).sep (rowsA encPi 98 4 (.slice ad2 out.length c2) out)) HK pk pk) ((H.pick2 (A:=pA X2) (B:=rowsA encPi 98 4 (.slice ad2 out.length c2) out) pk pk).join.sepK (A:=(pA X2).sep (rowsA encPi 98 4 (.slice ad2 out.length c2) out)) HK pk pk) ((H.pick2 (A:=pA X2) (B:=rowsA encPi 98 4 (.slice ad2 out.length c2) out) pk pk).join.sepO (A:=(pA X2).sep (rowsA encPi 98 4 (.slice ad2 out.length c2) out)) pk pk)) ?_;rintro e9 wc ⟨X3,v3,out3,rfl,y1,y2,y3,y4,y5,hb⟩;have HZ:=zh (za y1 (za y2 (za y3 (za y4 y5))));clear y1 y2 y3 y4 y5;replace H:=zn (((H.pick2 pk pk).join).call hb);clear hb));go_roundg (k-(j+1));case measure=>omega
      case rel =>
       have h1:=HRL.out;have h2:=HZ.out;refine ⟨j+1,X3,out3,rfl,by omega,by go_num,⟨by rw [HTK.out];exact h2.2.2.1,h1.2.1.trans h2.1,h2.2.1,?_⟩,H.picks (.cons pk (.cons pk (.cons pk .nil)))⟩;rw [Nat.add_mul,Nat.one_mul];omega
     |false =>
      clear hrel hp hq hcell hck hjm hrm g4;go_wp2_with (first|refine sL ?_|(refine sS ?_;clear H;intros;rename_i H)|((with_reducible refine isLoad ?_);refine AtLoad.rngT rfl rfl rfl (HRX.out _ (H.known HK pk)) rfl ?_;simp only [Act.put,puA,puB,puC])|((with_reducible refine isSlice ?_);refine AtSlice.one H rfl rfl rfl rfl rfl rfl rfl rfl rfl ?_;clear H;intro b8 _ H;simp only [Act.put,puA,puB,puC])|((with_reducible refine isAppend ?_);refine AtAppend.go (enc:=encPi) H rfl rfl rfl rfl rfl (by decide) (by decide) rfl pk rfl (H.at pk) [(⟨false,pf,pn,pid⟩:Pi)] rfl (by simp [flatG,encPi]) encPi_len encPi_one (by simp;omega) ?_;clear H;intro ad9 cp9 _ H;simp only [Act.put,puA,puB,puC]));go_roundg (k-(j+1));case measure=>omega
      case rel =>
       have h1:=HRL.out;refine ⟨j+1,X2,out++[⟨false,pf,pn,pid⟩],rfl,by omega,by go_num,⟨?_,h1.2.1,h1.2.2.1,?_⟩,H.picks (.cons pk (.cons pk (.cons pk .nil)))⟩
       ·rw [HTK.out];exact h1.1.append ⟨HPK.out.le HIN.out.2.2.2.2.2.2.2.2.1.ok (HX9.out.2.1.trans h1.2.1).le,trivial⟩
       ·rw [Nat.add_mul,Nat.one_mul];omega
    ·have d5:decide ((j:Int)<(k:Int))=false:=(by simp;omega);have d5n:decide (j<k)=false:=(by simp;omega);have hjk9:k=j:=(by omega);subst hjk9;have HPL:Hid (PiL X2.S out (cmpW qs es)∧X2.S.list.length<=X.S.list.length+C1+C2):=zh ⟨by
      have:=hrel.1;rwa [List.take_of_length_le (by rw [HIN.out.2.2.2.2.2.1];exact Nat.le_refl _)] at this,by
      have h1:=hrel.2.2.2;have h2:=HX9.out.2.2;have h3:=HIN.out;omega⟩
     clear hrel hlt;go_wp2_with (first|refine sL ?_|(refine sS ?_;clear H;intros;rename_i H)|(go_at_call 65;with_reducible refine zm (HJN.out X2 out ad2 c2 HRL.out.2.1 HRL.out.2.2.1 HPL.out.1 HPL.out.2 _ (H.sepK HK pk pk) (H.sepO pk pk)) ?_;rintro e9 wc ⟨X3,v3,ps3,rfl,y1,y2,y3,y4,hb⟩;have HZ:=zh (za y1 (za y2 (za y3 y4)));clear y1 y2 y3 y4;replace H:=zn ((H.pick pk).call hb);clear hb));go_ret2;have h1:=HRL.out;have h2:=HZ.out;have h3:=HPL.out.2;exact ⟨X3,v3,ps3,rfl,(HX9.out.2.1.trans h1.2.1).trans h2.1,h2.2.1,h2.2.2.1,by omega,H.picks (.cons pk (.cons pk .nil))⟩
end
section
open Go.RowKit Go.Maps
attribute [local go_sem] InGr strB_size
theorem szL_sh {bl:Nat} (hb:bl<=400):∀ {qs:List Pz},(∀ q∈qs,chkP bl q=0)->szL qs<=shL qs
 |[],_=>by simp [szL,shL]
 |q::r,h=>by
  have h1:=szL_sh hb (qs:=r) fun x hx=>h x (by simp [hx])
  have h2:=chk_pos (h q (by simp));have h3:szP q<=shQ q:=by
   unfold szP shQ;split
   ·rename_i hc;have:=h2.2 hc;rw [if_pos ⟨hc,by omega⟩];omega
   ·omega
  unfold szL shL at h1 ⊢;simp only [List.map_cons,List.sum_cons];omega
theorem txL_sh:∀ qs:List Pz,txL qs<=shL qs
 |[]=>by simp [txL,shL]
 |q::r=>by
  have:=txL_sh r;unfold txL shL at this ⊢;simp only [List.map_cons,List.sum_cons];have:q.t.length<=shQ q:=by unfold shQ;omega
  omega
theorem apL_lt {base:List Nat} {qs:List Pz} (hb:∀ x∈base,x<256) (hq:∀ q∈qs,∀ x∈q.t,x<256):∀ x∈apL base qs,x<256:=by
 intro x hx;unfold apL at hx;obtain ⟨q,hq1,hx⟩:=List.mem_flatMap.1 hx;unfold apP at hx;split at hx
 ·exact hb x (List.mem_of_mem_drop (List.mem_of_mem_take hx))
 ·exact hq q hq1 x hx
end
section
open Go.RowKit Go.Maps
attribute [local go_sem] InGr strB_size
theorem PiL.uniq {S:Sto} (hS:S.Ok):∀ {a b:List Pi} {u:List Pz},PiL S a u->PiL S b u->a=b
 |[],[],[],_,_=>rfl
 |x::a,y::b,t::u,h,k=>by
  have h1:=h.1;have k1:=k.1;obtain ⟨xc,xf,xn,xi⟩:=x;obtain ⟨yc,yf,yn,yi⟩:=y;have e1:xc=yc:=h1.c.trans k1.c.symm;have e2:xf=yf:=h1.f.trans k1.f.symm;have e3:xn=yn:=h1.n.trans k1.n.symm;have e4:xi=yi:=IdIs.uniq hS h1.id k1.id;rw [PiL.uniq hS h.2 k.2,e1,e2,e3,e4]
 |[],_::_,[],_,k=>k.elim
 |_::_,[],[],h,_=>h.elim
 |[],_,_::_,h,_=>h.elim
 |_::_,[],_::_,_,k=>k.elim
 |_::_,_::_,[],h,_=>h.elim
end
section
open Go.RowKit Go.Maps
attribute [local go_sem] InGr strB_size
theorem cmp_base {bl:Nat}:∀ {qs:List Pz},(∀ q∈qs,chkP bl q=0)->cmpW [⟨true,0,(bl:Nat),[]⟩] qs=qs
 |[],_=>rfl
 |q::r,h=>by
  rw [cmp_cons,cmp_base fun x hx=>h x (by simp [hx])];have hq:=h q (by simp);obtain ⟨c,f,n,t⟩:=q;cases c with
  |false=>rfl
  |true =>
   obtain ⟨e1,e2⟩:=chk_pos hq;obtain ⟨e3,e4,e5⟩:=e2 rfl;simp only at e1 e3 e4 e5;have ht:t=[]:=by
    unfold chkP at hq;simp only [if_true] at hq;by_cases h8:t=[]
    ·exact h8
    ·rw [if_pos (.inl h8)] at hq;cases hq
   subst ht;have hs:szP ⟨true,0,(bl:Int),[]⟩=bl:=(by simp [szP]);simp only [if_true];rw [win,if_neg (by omega),hs,if_neg (by omega),win,show min n.toNat (bl-f.toNat)=n.toNat by omega];simp only [sgP,if_true,List.singleton_append,List.cons.injEq,Pz.mk.injEq,true_and,and_true];omega
theorem cmp_all {s:Nat} {qs:List Pz} (h:∀ q∈qs,chkP s q=0):cmpW qs [⟨true,0,(szL qs:Nat),[]⟩]=qs:=by
 have h1:=win_whole h;simp [cmpW,h1]
theorem whole_law {P:PoolT} {qs:List Pz} {v:Value} {base:List Nat} (hr:RowIn P encR 4 v qs) (hb:∀ x∈base,x<256) (hbq:∀ q∈qs,∀ x∈q.t,x<256) (hbl:base.length<=1152921504606846976) (htl:∀ q∈qs,q.t.length<=1152921504606846976) (hf:∀ q∈qs,q.n<=9223372036854775807) (w:World) (hde:deA.ho w) (hp:(poolA P).ho w) :
  Calls Tryz.prog 11 #[.string (strB base),v] w fun e w'=>e=.returned (.bool true)∧St w [] [] w':=by
 have H:=St.nil w [];have HK:Ks w [] [deA,poolA P]:=Ks.two hde hp;have HAL:Hid (∀ w,deA.ho w->Calls Tryz.prog 13 #[] w fun e w'=>e=.returned (.bool true)∧St w [] [] w'):=zh fun w h=>alive_c w h
 have HSH:=zh (fun w h=>short_c (v:=v) hr hbl htl hf w h);have HIN:Hid (RowIn P encR 4 v qs∧(∀ x∈base,x<256)∧∀ q∈qs,∀ x∈q.t,x<256):=zh ⟨hr,hb,hbq⟩;clear hr hb hbq hbl htl hf hde hp;rcases Nat.eq_zero_or_pos base.length with hz0|hz0
 ·have:base=[]:=List.eq_nil_of_length_eq_zero hz0;subst this;rw [strB_nil];clear HSH hz0;go_enter Tryz.func11,Tryz.ntmps11;go_wp2_with (first|refine sL ?_|(refine sS ?_;clear H;intros;rename_i H)|(go_at_call 13;with_reducible refine zm (HAL.out _ (H.known HK pk)) ?_;rintro e9 wc ⟨rfl,hb⟩;replace H:=H.grew hb.below;clear hb));go_ret;exact ⟨rfl,H.nix⟩
 obtain ⟨bl,hbl⟩:∃ n,base.length=n:=⟨_,rfl⟩
 have zs:(strB base).size=bl:=(by rw [strB_size];exact hbl);have zb:((bl:Int)==0)=false:=(by simp;omega);have HBL:=zh hbl;have HBP:Hid (0<bl):=zh (by omega);clear hbl hz0;go_enter Tryz.func11,Tryz.ntmps11;go_wp2_with (first|refine sL ?_|(refine sS ?_;clear H;intros;rename_i H)|(go_at_call 13;with_reducible refine zm (HAL.out _ (H.known HK pk)) ?_;rintro e9 wc ⟨rfl,hb⟩;replace H:=H.grew hb.below;clear hb));go_at_call 14
 with_reducible refine zm (HSH.out _ (H.known HK pk)) ?_
 rintro e9 wc ⟨bs,rfl,hsh,hb⟩;replace H:=H.grew hb.below;clear hb HSH HAL;cases bs with
 |false =>
  clear hsh;go_wp2_with (first|refine sL ?_|(refine sS ?_;clear H;intros;rename_i H));go_ret;exact ⟨rfl,H.nix⟩
 |true =>
  obtain ⟨hs1,hs2⟩:=hsh rfl;have hbl:=HBL.out;obtain ⟨n,hn⟩:∃ n,qs.length=n:=⟨_,rfl⟩
  have htx:=txL_sh qs;rw [hbl] at hs1;rw [hn] at hs2;have HLM:Hid (base.length=bl∧bl<=400∧qs.length=n∧n<=40∧txL qs<=400∧shL qs<=400):=zh ⟨hbl,by omega,hn,by omega,by omega,by omega⟩;have HPA:Hid (∀ w,deA.ho w->Calls Tryz.prog 15 #[.string (strB base)] w (ParsePost base w)):=zh fun w h=>parse_c HIN.out.2.1 (by omega) w h
  have HPI:Hid (∀ X:Px,PxOk X->X.S.most=1048576->X.S.list.length<=2*base.length->∀ w,((pA X).sep deA).ho w->((pA X).sep (poolA P)).ho w->Calls Tryz.prog 16 #[.pointer (some ⟨X.p,0,none⟩),v] w (PcsPost X qs (pA X).fp w)):=zh fun X q1 q2 q3 w h1 h2=>pieces_c q1 HIN.out.1 HIN.out.2.2 (by omega) (by omega) (by omega) w h1 h2
  clear hsh hs1 hs2 hbl hn htx;go_wp2_with (first|refine sL ?_|(refine sS ?_;clear H;intros;rename_i H)|(go_at_call 15;with_reducible refine zm (HPA.out _ (H.known HK pk)) ?_;rintro e9 wc ⟨X,id1,rfl,y1,y2,y3,y4,hb⟩;have HX:=zh (za y1 (za y2 (za y3 y4)));clear y1 y2 y3 y4;replace H:=zn (H.call0 hb);clear hb)|(go_at_call 16;with_reducible refine zm (HPI.out X HX.out.1 HX.out.2.1 HX.out.2.2.2 _ (H.sepK HK pk pk) (H.sepK HK pk pk)) ?_;rintro e9 wc ⟨X2,v2,ps,rfl,y1,y2,y3,y4,hb⟩;have HY:=zh (za y1 (za y2 (za y3 y4)));clear y1 y2 y3 y4;replace H:=zn ((H.pick pk).call hb);clear hb));obtain ⟨ad2,c2,rfl,_⟩:=rowsA_shape (H.get (A:=rowsA encPi 98 4 v2 ps) pk);have hpl:ps.length=n:=(by rw [HY.out.2.2.1.len];exact HLM.out.2.2.1);rw [hpl] at H ⊢;have HPL:=zh hpl;clear hpl;have HM2:Hid (X2.S.most=1048576∧X2.S.list.length<=1600∧IdIs X2.S id1 (base.map Tr.leaf)∧X2.p=X.p):=zh ⟨by rw [HY.out.1.le.1,HX.out.2.1],by have h1:=HY.out.2.2.2;have h2:=HX.out.2.2.2;have h3:=HLM.out;omega,HX.out.2.2.1.le HX.out.1.ok HY.out.1.le,HY.out.1.p⟩;have HRC:Hid (∀ w,(poolA P).ho w->Calls Tryz.prog 17 #[.string (strB base),v] w fun e w'=>e=.returned (.int .i64 (chkL bl qs:Nat))∧St w [] [] w'):=zh fun w h=>by
   have h3:=HLM.out;have:=rcheck_c HIN.out.1 (base:=base) (by omega) w h;rwa [h3.1] at this
  clear HRC;by_cases hk:chkL bl qs=0
  ·have hall:=chkL_zero.1 hk;have hsz:szL qs<=400:=(by have h1:=szL_sh HLM.out.2.1 hall;have h2:=HLM.out;omega);have hall2:∀ q∈qs,chkP base.length q=0:=(by rw [HLM.out.1];exact hall);obtain ⟨nq,hnq⟩:∃ l,nrm qs=l:=⟨_,rfl⟩
   obtain ⟨out,hout⟩:∃ l,apL base qs=l:=⟨_,rfl⟩
   obtain ⟨lo,hlo⟩:∃ k,out.length=k:=⟨_,rfl⟩
   have hlz:lo=szL qs:=(by rw [← hlo,← hout];exact apL_len hall2);have hnl:nq.length<=40:=(by rw [← hnq];have h1:=nrm_len qs;have h2:=HLM.out;omega);have HNL:=zh hnl;have HNO:Hid (∀ w,((pA X2).sep deA).ho w->((pA X2).sep (rowsA encPi 98 4 (.slice ad2 n c2) ps)).ho w->Calls Tryz.prog 25 #[.pointer (some ⟨X.p,0,none⟩),.int .i64 id1,.slice ad2 n c2] w (JnPost X2 nq 16000 (pA X2).fp w)):=zh fun w h1 h2=>by
    have h3:=HLM.out;have h4:=HM2.out;have h5:ps.length*txL qs<=40*400:=Nat.mul_le_mul (by rw [HPL.out];omega) (by omega);have:=normal_ok (ad:=ad2) (c:=c2) HY.out.2.1 h4.2.2.1 HY.out.2.2.1 (by rw [HPL.out];omega) (by simp;omega) (by rw [List.length_map,h3.1];exact hk) (by omega) (by omega) (by omega) w h1 (by rw [HPL.out];exact h2);rw [h4.2.2.2,HPL.out,hnq] at this;refine this.mono ?_;rintro e w' ⟨X',v',ps',rfl,y1,y2,y3,y4,y5⟩;rw [HPL.out] at h5;exact ⟨X',v',ps',rfl,y1,y2,y3,by omega,y5⟩
   have HAP:Hid (∀ X3:Px,X2.Ext X3->PxOk X3->X3.S.list.length<=X2.S.list.length+16000->∀ w,((pA X3).sep deA).ho w->((pA X3).sep (rowsA encPi 98 4 (.slice ad2 n c2) ps)).ho w->Calls Tryz.prog 18 #[.pointer (some ⟨X.p,0,none⟩),.int .i64 id1,.slice ad2 n c2] w (IdPost X3 (out.map Tr.leaf) 48000 (pA X3).fp w)):=zh fun X3 q1 q2 q3 w h1 h2=>by
    have h3:=HLM.out;have h4:=HM2.out;have hm:=q1.le.1;have h5:ps.length*(2*base.length)<=40*800:=Nat.mul_le_mul (by rw [HPL.out];omega) (by omega);have h6:ps.length*szL qs<=40*400:=Nat.mul_le_mul (by rw [HPL.out];omega) hsz;have:=apply_c (ad:=ad2) (c:=c2) q2 (h4.2.2.1.le HY.out.2.1.ok q1.le) (HY.out.2.2.1.le HY.out.2.1.ok q1.le) (by rw [HPL.out];omega) (by omega) (by rw [h3.1];exact hk) (by omega) (by omega) w h1 (by rw [HPL.out];exact h2);rw [q1.p,h4.2.2.2,HPL.out,hout] at this;refine this.mono ?_;rintro e w' ⟨X',id,rfl,y1,y2,y3,y4,y5⟩;rw [HPL.out] at h5 h6;exact ⟨X',id,rfl,y1,y2,y3,by omega,y5⟩
   have HTX:Hid (∀ (X4:Px) (y:Nat),X4.p=X.p->PxOk X4->IdIs X4.S y (out.map Tr.leaf)->∀ w,(pA X4).ho w->Calls Tryz.prog 49 #[.pointer (some ⟨X.p,0,none⟩),.int .i64 (y:Nat)] w fun e w'=>e=.returned (.tuple #[.string (strB out),.bool true])∧St w [] [] w'):=zh fun X4 y q0 q1 q2 w h=>by
    have:=text_c q1 q2 (by omega) (by rw [← hout];exact apL_lt HIN.out.2.1 HIN.out.2.2) w h;rwa [q0] at this
   have h8:szL qs*szL qs<=400*400:=Nat.mul_le_mul hsz hsz;have HC1:Hid (∀ (X4:Px) (b9:Nat),X2.Ext X4->PxOk X4->X4.S.list.length<=X2.S.list.length+64000->∀ w,((pA X4).sep deA).ho w->((pA X4).sep (rowsA encPi 98 4 (.slice (some ⟨b9,0,none⟩) 1 1) [(⟨true,0,(bl:Nat),0⟩:Pi)])).ho w->((pA X4).sep (rowsA encPi 98 4 (.slice ad2 n c2) ps)).ho w->Calls Tryz.prog 29 #[.pointer (some ⟨X.p,0,none⟩),.int .i64 id1,.slice (some ⟨b9,0,none⟩) 1 1,.slice ad2 n c2] w (JnPost X4 nq 162000 (pA X4).fp w)):=zh fun X4 b9 q1 q2 q3 w h1 h2 h3=>by
    have h4:=HM2.out;have h5:=HLM.out;have hm:=q1.le.1;have hw:PiL X4.S [(⟨true,0,(bl:Nat),0⟩:Pi)] [(⟨true,0,(bl:Nat),[]⟩:Pz)]:=⟨⟨rfl,rfl,rfl,.inl ⟨rfl,rfl⟩⟩,trivial⟩
    have hz:chkL base.length [(⟨true,0,(bl:Nat),[]⟩:Pz)]=0:=by
     have:=HBP.out;rw [h5.1];simp [chkL,chkP];omega
    have hap:apL base [(⟨true,0,(bl:Nat),[]⟩:Pz)]=base:=(by simp [apL,apP,← h5.1]);have hs1:szL [(⟨true,0,(bl:Nat),[]⟩:Pz)]=bl:=(by simp [szL,szP]);have ht1:txL [(⟨true,0,(bl:Nat),[]⟩:Pz)]=0:=(by simp [txL]);have:=compose_ok (n:=1) (k:=n) (C1:=2000) (C2:=0) (C3:=160000) q2 (h4.2.2.1.le HY.out.2.1.ok q1.le) hw (HY.out.2.2.1.le HY.out.2.1.ok q1.le) rfl HPL.out (by omega) (by omega) (by omega) hz (by rw [hap,h5.1];exact hk) (by omega) (by omega) (by rw [hs1];omega) (by rw [ht1];omega) h8 (by omega) w h1 h2 h3;rwa [cmp_base hall,hnq,q1.p,h4.2.2.2] at this
   have HC2:Hid (0<lo->∀ (X5:Px) (b9:Nat),X2.Ext X5->PxOk X5->X5.S.list.length<=X2.S.list.length+226000->∀ w,((pA X5).sep deA).ho w->((pA X5).sep (rowsA encPi 98 4 (.slice ad2 n c2) ps)).ho w->((pA X5).sep (rowsA encPi 98 4 (.slice (some ⟨b9,0,none⟩) 1 1) [(⟨true,0,(lo:Nat),0⟩:Pi)])).ho w->Calls Tryz.prog 29 #[.pointer (some ⟨X.p,0,none⟩),.int .i64 id1,.slice ad2 n c2,.slice (some ⟨b9,0,none⟩) 1 1] w (JnPost X5 nq 209000 (pA X5).fp w)):=zh fun hlp X5 b9 q1 q2 q3 w h1 h2 h3=>by
    have h4:=HM2.out;have h5:=HLM.out;have hm:=q1.le.1;have hw:PiL X5.S [(⟨true,0,(lo:Nat),0⟩:Pi)] [(⟨true,0,(lo:Nat),[]⟩:Pz)]:=⟨⟨rfl,rfl,rfl,.inl ⟨rfl,rfl⟩⟩,trivial⟩
    have hz:chkL (apL base qs).length [(⟨true,0,(lo:Nat),[]⟩:Pz)]=0:=by
     rw [hout,hlo];simp [chkL,chkP];omega
    have hs1:szL [(⟨true,0,(lo:Nat),[]⟩:Pz)]=lo:=(by simp [szL,szP]);have g5:n*(2*base.length)<=40*800:=Nat.mul_le_mul (by omega) (by omega);have g6:n*szL qs<=40*400:=Nat.mul_le_mul (by omega) hsz;have:=compose_ok (n:=n) (k:=1) (C1:=48000) (C2:=1000) (C3:=160000) q2 (h4.2.2.1.le HY.out.2.1.ok q1.le) (HY.out.2.2.1.le HY.out.2.1.ok q1.le) hw HPL.out rfl (by omega) (by omega) (by omega) (by rw [h5.1];exact hk) hz (by omega) (by omega) (by omega) (by omega) (by rw [hs1,hlz];exact h8) (by omega) w h1 h2 h3;rwa [hlz,cmp_all hall,hnq,q1.p,h4.2.2.2] at this
   have HSM:Hid (∀ (v3 v4:Value) (ps3:List Pi),ps3.length<=65536->∀ w,(rowsA encPi 98 4 v3 ps3).ho w->(rowsA encPi 98 4 v4 ps3).ho w->Calls Tryz.prog 28 #[v3,v4] w fun e w'=>e=.returned (.bool true)∧St w [] [] w'):=zh fun v3 v4 ps3 hn w h1 h2=>same_c hn w h1 h2
   have zl:(strB out).size=lo:=(by rw [strB_size];exact hlo);have HLO:Hid (lo<=400):=zh (by omega);have hlob:lo<=400:=(by omega);have hblb:bl<=400:=(by have:=HLM.out;omega);clear hk hall hall2 hsz hnq hout hlo hlz hnl h8;go_wp2_with (first|refine sL ?_|(refine sS ?_;clear H;intros;rename_i H)|(go_at_call 25;with_reducible refine zm (HNO.out _ (H.sepK HK pk pk) (H.sepO pk pk)) ?_;rintro e9 wc ⟨X3,v3,ps3,rfl,y1,y2,y3,y4,hb⟩;have HZ3:=zh (za y1 (za y2 (za y3 y4)));clear y1 y2 y3 y4;replace H:=zn ((H.pick pk).call hb);clear hb)|(go_at_call 18;with_reducible refine zm (HAP.out X3 HZ3.out.1 HZ3.out.2.1 HZ3.out.2.2.2 _ (H.sepK HK pk pk) (H.sepO pk pk)) ?_;rintro e9 wc ⟨X4,id4,rfl,y1,y2,y3,y4,hb⟩;have HZ4:=zh (za y1 (za y2 (za y3 y4)));clear y1 y2 y3 y4;replace H:=zn ((H.pick pk).call hb);clear hb;have HE4:Hid (X2.Ext X4∧PxOk X4∧X4.S.list.length<=X2.S.list.length+64000∧X4.p=X.p):=zh ⟨HZ3.out.1.trans HZ4.out.1,HZ4.out.2.1,(by have h1:=HZ3.out.2.2.2;have h2:=HZ4.out.2.2.2;omega),(by rw [(HZ3.out.1.trans HZ4.out.1).p];exact HM2.out.2.2.2)⟩)|(go_at_call 49;with_reducible refine zm (HTX.out X4 id4 HE4.out.2.2.2 HE4.out.2.1 HZ4.out.2.2.1 _ (H.get pk)) ?_;rintro e9 wc ⟨rfl,hb⟩;replace H:=H.grew hb.below;clear hb)|((with_reducible refine isSlice ?_);refine AtSlice.one H rfl rfl rfl rfl rfl rfl rfl rfl rfl ?_;clear H;intro b9 _ H;simp only [Act.put,puA,puB,puC]));replace H:=H.conv (A':=rowsA encPi 98 4 (.slice (some ⟨b9,0,none⟩) 1 1) [(⟨true,0,(bl:Nat),0⟩:Pi)]) (by rw [rowsA_fp',blk_fp];rfl) fun hb=>rowsA_of_blk (xs:=[(⟨true,0,(bl:Nat),0⟩:Pi)]) (by rw [blk_ho] at hb;exact hb) (by simp [maxLen]) (by simp [flatG,encPi]) encPi_len
   with_reducible refine zm (HC1.out X4 b9 HE4.out.1 HE4.out.2.1 HE4.out.2.2.1 _ (H.sepK HK pk pk) (H.sepO pk pk) (H.sepO pk pk)) ?_
   rintro e9 wc ⟨X5,v5,ps5,rfl,y1,y2,y3,y4,hb⟩;have HZ5:=zh (za y1 (za y2 (za y3 y4)));clear y1 y2 y3 y4;replace H:=zn ((H.pick pk).call hb);clear hb;have hps:ps5=ps3:=PiL.uniq HZ5.out.2.1.ok HZ5.out.2.2.1 ((HZ3.out.2.2.1.le HZ3.out.2.1.ok HZ4.out.1.le).le HE4.out.2.1.ok HZ5.out.1.le);subst hps;have HE5:Hid (X2.Ext X5∧PxOk X5∧X5.S.list.length<=X2.S.list.length+226000∧X5.p=X.p∧ps5.length<=65536):=zh ⟨HE4.out.1.trans HZ5.out.1,HZ5.out.2.1,by have h1:=HE4.out.2.2.1;have h2:=HZ5.out.2.2.2;omega,by rw [HZ5.out.1.p];exact HE4.out.2.2.2,by have h1:=HZ5.out.2.2.1.len;have h2:=HNL.out;omega⟩;rcases Nat.eq_zero_or_pos lo with hl0|hl0
   ·have d9:((lo:Int)==0)=true:=(by simp;omega);clear hl0;go_wp2_with (first|refine sL ?_|(refine sS ?_;clear H;intros;rename_i H)|(go_at_call 28;with_reducible refine zm (HSM.out v5 v3 ps5 HE5.out.2.2.2.2 _ (H.get pk) (H.get pk)) ?_;rintro e9 wc ⟨rfl,hb⟩;replace H:=H.grew hb.below;clear hb));go_ret;exact ⟨rfl,H.nix⟩
   ·have d9:((lo:Int)==0)=false:=(by simp;omega);have HC3:=zh (HC2.out hl0);clear hl0;go_wp2_with (first|refine sL ?_|(refine sS ?_;clear H;intros;rename_i H)|(go_at_call 28;with_reducible refine zm (HSM.out v5 v3 ps5 HE5.out.2.2.2.2 _ (H.get pk) (H.get pk)) ?_;rintro e9 wc ⟨rfl,hb⟩;replace H:=H.grew hb.below;clear hb)|((with_reducible refine isSlice ?_);refine AtSlice.one H rfl rfl rfl rfl rfl rfl rfl rfl rfl ?_;clear H;intro b9 _ H;simp only [Act.put,puA,puB,puC]));replace H:=H.conv (A':=rowsA encPi 98 4 (.slice (some ⟨b9,0,none⟩) 1 1) [(⟨true,0,(lo:Nat),0⟩:Pi)]) (by rw [rowsA_fp',blk_fp];rfl) fun hb=>rowsA_of_blk (xs:=[(⟨true,0,(lo:Nat),0⟩:Pi)]) (by rw [blk_ho] at hb;exact hb) (by simp [maxLen]) (by simp [flatG,encPi]) encPi_len
    with_reducible refine zm (HC3.out X5 b9 HE5.out.1 HE5.out.2.1 HE5.out.2.2.1 _ (H.sepK HK pk pk) (H.sepO pk pk) (H.sepO pk pk)) ?_
    rintro e9 wc ⟨X6,v6,ps6,rfl,y1,y2,y3,y4,hb⟩;have HZ6:=zh (za y1 (za y2 (za y3 y4)));clear y1 y2 y3 y4;replace H:=zn ((H.pick pk).call hb);clear hb;have hps:ps6=ps5:=PiL.uniq HZ6.out.2.1.ok HZ6.out.2.2.1 (HZ5.out.2.2.1.le HZ5.out.2.1.ok HZ6.out.1.le);subst hps;go_wp2_with (first|refine sL ?_|(refine sS ?_;clear H;intros;rename_i H)|(go_at_call 28;with_reducible refine zm (HSM.out v6 v3 ps6 HE5.out.2.2.2.2 _ (H.get pk) (H.get pk)) ?_;rintro e9 wc ⟨rfl,hb⟩;replace H:=H.grew hb.below;clear hb));go_ret;exact ⟨rfl,H.nix⟩
  ·obtain ⟨k,hk9⟩:∃ k,chkL bl qs=k:=⟨_,rfl⟩
   rw [hk9] at hk;have HKK:=zh (za hk9 hk);have HNO:Hid (∀ w,((pA X2).sep deA).ho w->((pA X2).sep (rowsA encPi 98 4 (.slice ad2 n c2) ps)).ho w->Calls Tryz.prog 25 #[.pointer (some ⟨X.p,0,none⟩),.int .i64 id1,.slice ad2 n c2] w (PPost X2 (.tuple #[.slice none 0 0,.iface 73 (.int .i64 (k:Nat))]) (pA X2).fp w)):=zh fun w h1 h2=>by
    have h3:=HLM.out;have h4:=HM2.out;have:=normal_no (ad:=ad2) (c:=c2) HY.out.2.1 h4.2.2.1 HY.out.2.2.1 (by rw [HPL.out];omega) (by simp;omega) (by rw [List.length_map,h3.1,HKK.out.1];exact HKK.out.2) w h1 (by rw [HPL.out];exact h2);rwa [h4.2.2.2,HPL.out,List.length_map,h3.1,HKK.out.1] at this
   clear hk9 hk;go_wp2_with (first|refine sL ?_|(refine sS ?_;clear H;intros;rename_i H)|(go_at_call 25;with_reducible refine zm (HNO.out _ (H.sepK HK pk pk) (H.sepO pk pk)) ?_;rintro e9 wc ⟨X3,y1,y2,y3,rfl,hb⟩;have HZ3:=zh (za y1 (za y2 y3));clear y1 y2 y3;replace H:=zn ((H.pick pk).call hb);clear hb));go_ret;exact ⟨rfl,H.nix⟩
end
section
open Go.ChangeShapes Go.WideShapes Go.ChangeAt Go.RowKit Go.Deep
def fits64 (z:Int):Prop:=-9223372036854775808<=z∧z<=9223372036854775807
theorem ownK:ownKnob Tryz.prog.godebug=none:=by kernel_rfl
theorem i64_wf {x:Int} (h:(Lit.int .i64 x).wf=true):fits64 x:=by
 simp [Lit.wf,IntKind.min,IntKind.max,IntKind.signed,IntKind.bits] at h;unfold fits64;omega
theorem gTab:Tryz.prog.globalNamed "math/bits.deBruijn64tab"=some 0:=by kernel_rfl
theorem tTab:(Tryz.prog.globals[0]?).map (·.type)=some 291:=by kernel_rfl
theorem tab_is {H:Type}:(Rows.laid_math_bits_deBruijn64tab:DataW H)=.agg (Lib.deBruijn64tab.map fun (n:Nat)=>.lit (.int .u8 n)):=rfl
theorem tab_of {W:World} (h:laidMetH Tryz.prog [("math/bits.deBruijn64tab",Rows.laid_math_bits_deBruijn64tab)] W):deA.ho W:=by
  rw [deA_ho];rw [MakeChecks.laidMetH_plain _ _ _ (by kernel_rfl)] at h;obtain ⟨ps,⟨g0,t0,cs0,f0,p0,q0,hg0,ht0,hv0,hd0,_,_⟩,_,_⟩:=h;obtain rfl:=Option.some.inj (gTab.symm.trans hg0);obtain rfl:=Option.some.inj (tTab.symm.trans ht0);obtain ⟨xs,m1,hfu,hx1,hlen,hn3,hel⟩:=DataW.trod_array Tryz.underlying291 hd0;have c5:Tryz.prog.cellsOf 5=1:=(by kernel_rfl);have key:∀ j,j<64->W.cell? ⟨0,j,none⟩=some (.int .u8 (Lib.deBruijn64tab.getD j 0:Nat)):=fun j hj=>by
    have h0:=hel j hj;rw [c5] at h0;obtain ⟨y,hy⟩:∃ y,xs[j]?=some y:=⟨xs[j]'(by omega),zg _⟩
    rw [hy] at h0;obtain ⟨k,e1,e2,_⟩:=DataW.trod_int Tryz.underlying5 h0;rw [tab_is] at hx1;simp only [Prod.mk.injEq,DataW.agg.injEq] at hx1;have e3:=congrArg (fun l:List (DataW Unit)=>l[j]?) hx1.1;simp only [List.getElem?_map,hy,Option.map_some] at e3
    have hl : j < Lib.deBruijn64tab.length := by have : Lib.deBruijn64tab.length = 64 := by decide
                                                 omega
    rw [zg hl,Option.map_some] at e3;have hk:k=(Lib.deBruijn64tab[j]:Nat):=by
      have:=Option.some.inj e3;rw [e2] at this;simp at this;exact this.symm
    have hcl:=World.var?_cell hg0 hv0 j;have e4:cs0.toList[j]?=some (.int .u8 k):=by
      have:=congrArg List.head? e1;rw [Nat.mul_one,List.head?_take,if_neg (by omega),List.head?_drop] at this;simpa using this
    rw [hcl,← Array.getElem?_toList,e4,hk];simp [List.getD,hl]
  have h64:Lib.deBruijn64tab.length=64:=(by decide);exact ⟨fun j hj=>key j (by omega),by have:=block_lt_of_cell (key 0 (by omega));exact this⟩
theorem door_met (os:Os) (args:Array Value):laidMetH Tryz.prog [("math/bits.deBruijn64tab",Rows.laid_math_bits_deBruijn64tab)] ((World.doorLaid Tryz.prog 400 os).forCall (fun _ _=>0) ⟨#[],args,[]⟩).memory :=
 laidMetH_of_parts3 (fuel:=80) (laidMet_of_run' 80 (by kernel_rfl) (by kernel_rfl)) (by kernel_rfl) (by kernel_rfl)
end
section
open Go.ChangeShapes Go.WideShapes Go.ChangeAt Go.RowKit Go.Deep
open Go.ChangeMaps (open_string shut_string)
theorem strB_of (b:ByteArray):∃ L:List Nat,b=strB L∧∀ x∈L,x<256:=by
 refine ⟨b.data.toList.map UInt8.toNat,?_,?_⟩
 ·apply ByteArray.ext;unfold strB;apply Array.ext';have e:∀ l:List UInt8,l=(l.map UInt8.toNat).map UInt8.ofNat:=fun l=>by
   induction l with
   |nil=>rfl
   |cons x l ih=>rw [List.map_cons,List.map_cons,← ih,UInt8.ofNat_toNat]
  exact e _
 ·intro x hx;obtain ⟨u,_,rfl⟩:=List.mem_map.1 hx;exact u.toNat_lt
theorem strB_dlen (L:List Nat):(strB L).data.toList.length=L.length:=by
 have h1:=strB_size L;have h2:(strB L).data.toList.length=(strB L).size:=Array.length_toList;omega
section
variable {H:Type} {enc:TypeId×Value->H} {w:World} {base:Nat} {spare:Nat->Bool} {held:Bool}
theorem weightsAll_mem {P:Program} {e:TypeId} {m:Nat} {d:DataW H} (hm:m∈d.weights P e):∀ {ds:List (DataW H)},d∈ds->m∈DataW.weightsAll P e ds
 |[],h=>by simp at h
 |x::r,h=>by
  simp only [DataW.weightsAll,List.mem_append];rcases List.mem_cons.1 h with h|h
  ·subst h;exact .inl hm
  ·exact .inr (weightsAll_mem hm h)
instance:Inhabited Pz:=⟨⟨false,0,0,[]⟩⟩
theorem open_rowD {α:Type} [Inhabited α] {ec:α->List Value} {k:Nat} (hk:∀ x,(ec x).length=k) (hk0:0<k) {t e:TypeId} (ht:Tryz.prog.underlying t=some (.slice e)) (hc:Tryz.prog.cellsOf e=k) (Ok:α->DataW H->Prop)
  (el:∀ n cs y,cs.length=k->DataW.trod enc Tryz.prog w base spare held n e cs=some y->∃ x,cs=ec x∧Ok x y.1) {fuel:Nat} {cs:List Value} {x:DataW H×List MemPlace} (h:DataW.trod enc Tryz.prog w base spare held fuel t cs=some x) :
  ∃ (v:Value) (xs:List α) (P:PoolT),cs=[v]∧RowIn P ec k v xs∧(poolA P).ho w∧∀ y∈xs,∃ d,Ok y d∧∀ m∈d.weights Tryz.prog e,m∈x.1.weights Tryz.prog t:=by
 rcases open_slice ht h with ⟨hcs,_⟩|⟨a,len,cap,m,n,D,Pl,hcs,_,hl,hm,hmm,hxx,hx⟩
 ·exact ⟨_,[],[],hcs,RowIn.nil 0,poolA_nil w,by simp⟩
 ·have hml:len<=m:=(by rw [hmm];split <;> omega);rw [hc] at hx;by_cases h0:len=0
  ·subst h0;exact ⟨_,[],[],hcs,⟨some a,cap,rfl,by simp,fun h=>by simp at h⟩,poolA_nil w,by simp⟩
  obtain ⟨b,o,spot⟩:=a;have key:∀ i,i<len->∃ x:α,w.cells? base ((⟨b,o,spot⟩:Addr).add (i*k)) k=some (ec x)∧Ok x (D i):=fun i hi=>by
   obtain ⟨cs',h1,h2⟩:=hx i (by omega);obtain ⟨x,rfl,hok⟩:=el _ _ _ (World.cells?_some h1).2.1 h2;exact ⟨x,h1,hok⟩
  obtain ⟨f,hf2⟩:=choose_lt (α:=α) key;have hcell:∀ i,i<len->∀ j u,(ec (f i))[j]?=some u->w.cell? (((⟨b,o,spot⟩:Addr).add (i*k)).add j)=some u:=fun i hi j u hj=>by
   have hj4:j<k:=(by have:=(List.getElem?_eq_some_iff.1 hj).1;rwa [hk] at this);have:=(World.cells?_some (hf2 i hi).1).2.2 j hj4;rw [this,hj]
  have hl4:0<(ec (f 0)).length:=(by rw [hk];omega);have hspot:spot=none:=by
   have:=World.cell?_spot (hcell 0 (by omega) 0 _ (zg hl4));simpa [Addr.add] using this
  subst hspot;have hadd:∀ i j,((⟨b,o,none⟩:Addr).add (i*k)).add j=⟨b,o+(i*k+j),none⟩:=fun i j=>by rw [Addr.add_mid,Addr.add_mid];congr 1;omega
  have hblk:b<w.heap.size:=by
   have:=block_lt_of_cell (hcell 0 (by omega) 0 _ (zg hl4));rw [hadd] at this;exact this
  unfold maxLen at hm;have hlen:((List.range len).map f).length=len:=(by simp);refine ⟨_,(List.range len).map f,[(b,o,flatG ec ((List.range len).map f))],hcs,⟨some ⟨b,o,none⟩,cap,by rw [hlen],by rw [hlen];unfold maxLen;omega,fun _=>⟨b,o,rfl,by simp⟩⟩,?_,?_⟩
  ·rw [poolA_ho];intro y hy;simp only [List.mem_singleton] at hy;subst hy;refine ⟨hblk,fun jj u hj=>?_⟩;have hjl:=getElem_len hj;rw [flatG_len ec k hk,hlen] at hjl;have hi:jj/k<len:=(by rw [Nat.div_lt_iff_lt_mul hk0];exact hjl);have hjk:jj%k<k:=Nat.mod_lt _ hk0;have hget:((List.range len).map f)[jj/k]?=some (f (jj/k)):=(by rw [List.getElem?_map,List.getElem?_range hi];rfl);have hfl:=flatG_get ec k hk _ (jj/k) _ hget (jj%k) hjk;have hdm:jj/k*k+jj%k=jj:=(by have:=Nat.div_add_mod jj k;rw [Nat.mul_comm] at this;exact this);rw [hdm,hj] at hfl;have:=hcell (jj/k) hi (jj%k) u hfl.symm;rw [hadd,hdm] at this;exact this
  ·intro y hy;obtain ⟨i,hi,rfl⟩:=List.mem_map.1 hy;have hi2:=List.mem_range.1 hi;refine ⟨D i,(hf2 i hi2).2,fun m hm=>?_⟩;rw [hxx];simp only [DataW.weights,ht,List.mem_cons,List.mem_append];exact .inr (.inl (weightsAll_mem hm (List.mem_map.2 ⟨i,hi,rfl⟩)))
def PzOk (q:Pz) (d:DataW H):Prop:=(∀ x∈q.t,x<256)∧q.n<=9223372036854775807∧q.t.length∈d.weights Tryz.prog 106
theorem open_piece {n:Nat} {cs:List Value} {y:DataW H×List MemPlace} (hl:cs.length=4) (h:DataW.trod enc Tryz.prog w base spare held n 106 cs=some y):∃ q:Pz,cs=encR q∧PzOk q y.1:=by
 obtain ⟨a0,a1,a2,a3,rfl⟩:∃ a0 a1 a2 a3,cs=[a0,a1,a2,a3]:=by
  match cs,hl with
  |[a0,a1,a2,a3],_=>exact ⟨a0,a1,a2,a3,rfl⟩
 have c3:Tryz.prog.cellsOf 3=1:=(by kernel_rfl);have c4:Tryz.prog.cellsOf 4=1:=(by kernel_rfl);have c9:Tryz.prog.cellsOf 9=1:=(by kernel_rfl);obtain ⟨y0,y1,y2,y3,n2,hy,_,f0,f1,f2,f3⟩:=Joins.trod_struct4 Tryz.underlying106 h;simp only [c3,c4,c9,List.drop_zero,List.take_succ_cons,List.take_zero,List.drop_succ_cons] at f0 f1 f2 f3;obtain ⟨b0,e0,_⟩:=DataW.trod_bool Tryz.underlying4 f0;obtain ⟨z1,e1,_,w1⟩:=DataW.trod_int Tryz.underlying3 f1;obtain ⟨z2,e2,_,w2⟩:=DataW.trod_int Tryz.underlying3 f2;obtain ⟨s3,e3,hy3,_⟩:=DataW.trod_string Tryz.underlying9 f3;obtain ⟨L,rfl,hL⟩:=strB_of s3;simp only [List.cons.injEq,and_true] at e0 e1 e2 e3;subst e0 e1 e2 e3;refine ⟨⟨b0,z1,z2,L⟩,rfl,hL,(i64_wf w2).2,?_⟩;rw [hy];simp only [DataW.weights,Tryz.underlying106];simp only [List.toList_toArray,List.map_cons,List.map_nil,DataW.weightsEach,List.mem_append];refine .inr (.inr (.inr (.inl ?_)));rw [hy3];simp [DataW.weights,strB_dlen,strB_size]
theorem arg_pieces {r:Reach} {b0:Nat} {v:Value} {d:DataW H} {p:List MemPlace} (hv:Value.okWide Tryz.prog w r b0 22 v) (h:DataW.Trod enc Tryz.prog w base spare held 22 v d p) :
  ∃ (qs:List Pz) (P:PoolT),RowIn P encR 4 v qs∧(poolA P).ho w∧∀ q∈qs,(∀ x∈q.t,x<256)∧q.n<=9223372036854775807∧q.t.length∈d.weights Tryz.prog 22:=by
 obtain ⟨a,n,c,rfl⟩:=okWide_slice Tryz.underlying22 hv;obtain ⟨fuel,hf⟩:=h;have c5:Tryz.prog.cellsOf 106=4:=(by kernel_rfl);obtain ⟨v2,qs,P,e,h1,h2,h3⟩:=open_rowD (ec:=encR) encR_len (by omega) Tryz.underlying22 c5 PzOk (fun n cs y hl hy=>open_piece hl hy) hf;simp only [Value.cells,List.cons.injEq,and_true] at e;first|subst e|(have e:=(List.cons.inj e).1;subst e)
 exact ⟨qs,P,h1,h2,fun q hq=>by
  obtain ⟨d',⟨k1,k2,k3⟩,k4⟩:=h3 q hq;exact ⟨k1,k2,k4 _ k3⟩⟩
end
end
end Go.Proofs.YtgnppnokkdghcaaGreatDoor
