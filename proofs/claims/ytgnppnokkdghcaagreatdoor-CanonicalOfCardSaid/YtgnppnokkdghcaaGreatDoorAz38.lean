/-
  Part 38 of the texts behind CanonicalOf: walks and laws. Conditions: as each states.
-/
import Derived.Test.YtgnppnokkdghcaaGreatDoorAz37
import Derived.ChangeOld
import Derived.Deep.Slices
import Derived.LaidMore
import Derived.Laws.Rows
import Derived.OpenShut
import Derived.ProofKit
import Derived.SevenTiedAt
import Derived.ShutString
import Derived.Stop.Joined
import Derived.Test.YtgnppnokkdghcaaGreatDoorCards
import Derived.Test.YtgnppnokkdghcaaGreatDoorTie
set_option linter.unusedSimpArgs false
set_option linter.unusedVariables false
set_option maxRecDepth 100000
set_option maxHeartbeats 80000000
open Bool renaming and_eq_true→zu,eq_false_or_eq_true→zW
open Go.Proofs.Tryz renaming prog→zb,underlying76→xv
open List renaming append_assoc→zQ,append_nil→qO,cons→Zq,cons_append→zo,drop_succ_cons→wQ,drop_zero→yw,flatMap_cons→zt,flatMap_nil→wW,flatten_append→Xy,getElem?_append_left→qv,getElem?_eq_some_iff→xB,getElem?_map→yf,getElem?_set_ne→j5,getElem?_set_self→kb,length_append→zi,length_set→wo,map_cons→zX,map_nil→ye,map_replicate→Qa,mem_append→zl,mem_cons_self→zN,mem_flatten→vc,mem_map→qY,mem_of_getElem?→zy,mem_range→zJ,mem_replicate→wq,mem_singleton→Zx,nil_append→zv,range→zk,replicate→zd,replicate_succ'→xG,reverse_cons→ke,sum_replicate_nat→Xz,take_zero→jA
open Nat renaming add_assoc→wA,add_comm→kf,add_mul→xl,exists_eq_succ_of_ne_zero→zA,le_refl→zr,lt_or_ge→yI,mod_eq_of_lt→xI,mod_lt→qM,mul_assoc→Zo,mul_comm→xO,one_mul→QK,strongRecOn→yJ,zero_add→qQ,zero_le→qy,zero_mul→QM
open Option renaming map_some→Qb,some→yk
namespace Go.Proofs.YtgnppnokkdghcaaGreatDoor
section
open Go.RowKit Go.Maps
attribute [local go_sem] qt yq
abbrev XZ (X:Px) (P:Sto->Nat->Prop) (M:List Nat) (w:World) (e:Ending) (w':World):Prop :=
 ∃ (X':Px) (id:Nat),e=.returned (.tuple #[.int .i64 id,.nilIface])∧X.Ext X'∧zK X'∧X'.S.list.length<=X.S.list.length+1∧P X'.S id∧St w M [pA X'] w'
theorem k6 {X:Px} {f:FuncId} {args:Array Value} {t:Tr} {P:Sto->Nat->Prop} {M:List Nat} {w:World} (hr:X.S.list.length<X.S.most) (hP:∀ S id,Den S id t->P S id) (h:Calls zb f args w (QH X t M w)):Calls zb f args w (XZ X P M w):=by
 refine h.mono ?_;rintro e w' ⟨X',id,c,rfl,h1,h2,h3,h4,h5⟩;rcases h4 with ⟨rfl,h4⟩|⟨_,_,_,h4⟩
 ·exact ⟨X',id,rfl,h1,h2,h3,hP _ _ h4,h5⟩
 ·omega
def TxtIs (S:Sto) (id:Nat) (ts:List Nat):Prop:=(ts=[]∧id=0)∨∃ t,Den S id t∧t.txt=ts
theorem TxtIs.le {S S':Sto} {id:Nat} {ts:List Nat} (h:TxtIs S id ts) (hS:S.Ok) (hl:S.Le S'):TxtIs S' id ts:=by
 rcases h with h|⟨t,h1,h2⟩
 ·exact .inl h
 ·exact .inr ⟨t,h1.le hS hl,h2⟩
theorem al_canon:Canon (.pow (.leaf 97) 3)∧(Tr.pow (.leaf 97) 3).lay 0=[.leaf 97,.leaf 97,.leaf 97]:=by
 have h:=ZF (s:=[.leaf 97,.leaf 97,.leaf 97]) (m:=1) (t:=.pow (.leaf 97) 3) (fun t ht=>⟨97,by simpa using ht⟩) (by decide);exact ⟨h.1,h.2.1⟩
theorem al_rule {S:Sto} (hS:S.Ok) {x a c:Nat} (hx:IdIs S x ([97,97,97].map Tr.leaf)) (ha:Den S a (.leaf 97)) (hc:Den S c (.pair (.pair (.leaf 97) (.leaf 97)) (.leaf 97))):x≠c∧∃ i e,x=i+1∧S.list[i]?=some e∧e.r=⟨3,0,a,0,3⟩:=by
 rcases hx with ⟨h,_⟩|⟨T,h1,h2,h3⟩
 ·simp at h
 ·have hT:T=.pow (.leaf 97) 3:=Qo h2 al_canon.1 (h3.trans (by rw [al_canon.2];rfl));subst hT;refine ⟨fun e=>by subst e;exact absurd (h1.tr_inj hc) (by simp),?_⟩;obtain ⟨i,e,rfl,he,ht⟩:=xZ h1;refine ⟨i,e,rfl,he,?_⟩;cases xh hS he with
  |letter b hb hr hw ht2=>rw [ht] at ht2;simp at ht2
  |pair l r y z hl hr hy hz hr2 hw hs ht2=>rw [ht] at ht2;simp at ht2
  |pow l k y hl hy hk hr hw hs ht2 =>
   rw [ht] at ht2;injection ht2 with q1 q2
   have hd:Den S (l+1) (.leaf 97):=⟨by omega,by have:=yE hy;omega,q1.symm⟩
   rw [hr,hd.id_inj hS ha,← q2]
theorem alive_c (w:World) (hde:deA.ho w):Calls zb 31 #[] w fun e w'=>e=.returned (.bool true)∧St w [] [] w':=by
 have H:=St.nil w [];have HK:Ks w [] [deA]:=Ks.one hde;clear hde;have HST:Hid (∀ w,Calls zb 33 #[.int .i64 100] w (Kg 100 w)):=zh fun w=>start_c 100 (by decide) _ rfl w
 go_enter Tryz.func31,Tryz.ntmps31;go_wp2_with (first|refine sL ?_|(refine sS ?_;clear H;intros;rename_i H)|(go_at_call 33;with_reducible refine zm (HST.out _) ?_;rintro e9 wc ⟨X,bm,mp,rfl,y1,y2,hb⟩;have HX:=zh (za y1 y2);clear y1 y2;replace H:=zn (H.call0 hb);clear hb));have HL1:Hid (∀ w,(pA X).ho w->Calls zb 42 #[.pointer (some ⟨X.s,0,none⟩),.int .u8 97] w (XZ X (fun S id=>Den S id (.leaf 97)) (pA X).fp w)):=zh fun w h=>k6 (by rw [HX.out.2];simp) (fun S id h=>h) (Ws 97 (by decide) HX.out.1 w h)
 go_wp2_with (first|refine sL ?_|(refine sS ?_;clear H;intros;rename_i H)|(go_at_call 42;with_reducible refine zm (HL1.out _ (H.get pk)) ?_;rintro e9 wc ⟨X1,a1,rfl,y1,y2,y3,y4,hb⟩;have HX1:=zh (za y1 (za y2 (za y3 y4)));clear y1 y2 y3 y4;replace H:=zn ((H.pick pk).call hb);clear hb));have HY1:Hid (X1.s=X.s∧X1.p=X.p∧zK X1∧X1.S.most=100∧X1.S.list.length<=1∧Den X1.S a1 (.leaf 97)):=zh (by
  obtain ⟨h1,h2,h3,h4⟩:=HX1.out;have h5:=HX.out.2;rw [h5] at h3;exact ⟨h1.s,h1.p,h2,by rw [h1.le.1,h5],h3,h4⟩)
 clear HX HX1 HL1;have HL2:Hid (∀ w,(pA X1).ho w->Calls zb 43 #[.pointer (some ⟨X.s,0,none⟩),.int .i64 a1,.int .i64 a1] w (XZ X1 (fun S id=>Den S id (.pair (.leaf 97) (.leaf 97))) (pA X1).fp w)):=zh fun w h=>by
  obtain ⟨h1,h2,h3,h4,h5,h6⟩:=HY1.out;rw [← h1];exact k6 (by omega) (fun S id h=>h) (WA h6 h6 (by simp [Tr.len,yG]) h3 w h)
 go_wp2_with (first|refine sL ?_|(refine sS ?_;clear H;intros;rename_i H)|(go_at_call 43;with_reducible refine zm (HL2.out _ (H.get pk)) ?_;rintro e9 wc ⟨X2,a2,rfl,y1,y2,y3,y4,hb⟩;have HX2:=zh (za y1 (za y2 (za y3 y4)));clear y1 y2 y3 y4;replace H:=zn ((H.pick pk).call hb);clear hb));have HY2:Hid (X2.s=X.s∧X2.p=X.p∧zK X2∧X2.S.most=100∧X2.S.list.length<=2∧Den X2.S a1 (.leaf 97)∧Den X2.S a2 (.pair (.leaf 97) (.leaf 97))):=zh (by
  obtain ⟨h1,h2,h3,h4⟩:=HX2.out;obtain ⟨g1,g2,g3,g4,g5,g6⟩:=HY1.out;exact ⟨h1.s.trans g1,h1.p.trans g2,h2,by rw [h1.le.1,g4],by omega,g6.le g3.ok h1.le,h4⟩)
 clear HX2 HY1 HL2;have HL3:Hid (∀ w,(pA X2).ho w->Calls zb 43 #[.pointer (some ⟨X.s,0,none⟩),.int .i64 a2,.int .i64 a1] w (XZ X2 (fun S id=>Den S id (.pair (.pair (.leaf 97) (.leaf 97)) (.leaf 97))) (pA X2).fp w)):=zh fun w h=>by
  obtain ⟨h1,h2,h3,h4,h5,h6,h7⟩:=HY2.out;rw [← h1];exact k6 (by omega) (fun S id h=>h) (WA h7 h6 (by simp [Tr.len,yG]) h3 w h)
 go_wp2_with (first|refine sL ?_|(refine sS ?_;clear H;intros;rename_i H)|(go_at_call 43;with_reducible refine zm (HL3.out _ (H.get pk)) ?_;rintro e9 wc ⟨X3,a3,rfl,y1,y2,y3,y4,hb⟩;have HX3:=zh (za y1 (za y2 (za y3 y4)));clear y1 y2 y3 y4;replace H:=zn ((H.pick pk).call hb);clear hb));have HY3:Hid (X3.s=X.s∧X3.p=X.p∧zK X3∧X3.S.most=100∧X3.S.list.length<=3∧Den X3.S a1 (.leaf 97)∧Den X3.S a3 (.pair (.pair (.leaf 97) (.leaf 97)) (.leaf 97))):=zh (by
  obtain ⟨h1,h2,h3,h4⟩:=HX3.out;obtain ⟨g1,g2,g3,g4,g5,g6,g7⟩:=HY2.out;exact ⟨h1.s.trans g1,h1.p.trans g2,h2,by rw [h1.le.1,g4],by omega,g6.le g3.ok h1.le,h4⟩)
 clear HX3 HY2 HL3;have HOF:Hid (∀ w,((pA X3).sep ((blk bm (.cells #[.pointer (some ⟨X.p,0,none⟩),.map (some mp)] 138)).sep (zP zb 26 mp (([]:List (Nat×Nat)).map zY)))).ho w->(((pA X3).sep ((blk bm (.cells #[.pointer (some ⟨X.p,0,none⟩),.map (some mp)] 138)).sep (zP zb 26 mp (([]:List (Nat×Nat)).map zY)))).sep deA).ho w->Calls zb 35 #[.pointer (some ⟨bm,0,none⟩),.int .i64 (a3:Nat)] w fun e w'=>∃ (X':Px) (K':List (Nat×Nat)) (y:Nat),e=.returned (.tuple #[.int .i64 y,.nilIface])∧X3.Ext X'∧zK X'∧KnOk X'.S K'∧IdIs X'.S y ([97,97,97].map Tr.leaf)∧X'.S.list.length<=X3.S.list.length+6∧St w ((pA X3).sep ((blk bm (.cells #[.pointer (some ⟨X.p,0,none⟩),.map (some mp)] 138)).sep (zP zb 26 mp (([]:List (Nat×Nat)).map zY)))).fp [pA X',blk bm (.cells #[.pointer (some ⟨X.p,0,none⟩),.map (some mp)] 138),zP zb 26 mp (K'.map zY)] w'):=zh fun w h hd=>by
  obtain ⟨h1,h2,h3,h4,h5,h6,h7⟩:=HY3.out;have ht:X3.S.tr a3=_:=h7.2.2;rw [← h2] at h hd;have:=of_c (X:=X3) (bm:=bm) (mp:=mp) (L9:=3) h3 h7.1 h7.2.1 (fun q hq=>by simp at hq) (by decide) (by rw [ht];decide) (by omega) (by omega) w h hd;rw [ht,h2] at this;exact this
 go_wp2_with (first|refine sL ?_|(refine sS ?_;clear H;intros;rename_i H)|(go_at_call 35;with_reducible refine zm (HOF.out _ ((St.join3 (H.pick3 (A:=pA X3) (B:=blk bm (.cells #[.pointer (some ⟨X.p,0,none⟩),.map (some mp)] 138)) (C:=zP zb 26 mp (([]:List (Nat×Nat)).map zY)) pk pk pk)).ho _ zN) ((St.join3 (H.pick3 (A:=pA X3) (B:=blk bm (.cells #[.pointer (some ⟨X.p,0,none⟩),.map (some mp)] 138)) (C:=zP zb 26 mp (([]:List (Nat×Nat)).map zY)) pk pk pk)).sepK HK .here pk)) ?_;rintro e9 wc ⟨X4,K4,y4,rfl,y1,y2,y3,y5,y6,hb⟩;have HZ:=zh (za y1 (za y2 (za y5 y6)));clear y1 y2 y3 y5 y6;replace H:=zn ((St.join3 (H.pick3 (A:=pA X3) (B:=blk bm (.cells #[.pointer (some ⟨X.p,0,none⟩),.map (some mp)] 138)) (C:=zP zb 26 mp (([]:List (Nat×Nat)).map zY)) pk pk pk)).call hb);clear hb));obtain ⟨hne,i4,en,hi4,hen,her⟩:=al_rule HZ.out.2.1.ok HZ.out.2.2.1 (HY3.out.2.2.2.2.2.1.le HY3.out.2.2.1.ok HZ.out.1.le) (HY3.out.2.2.2.2.2.2.le HY3.out.2.2.1.ok HZ.out.1.le);have HRU:Hid (∀ w,(pA X4).ho w->Calls zb 68 #[.pointer (some ⟨X.s,0,none⟩),.int .i64 y4] w fun e w'=>e=.returned (.tuple #[.agg #[.int .i64 3,.int .u8 0,.int .i64 a1,.int .i64 0,.int .i64 3],.nilIface])∧St w [] [] w'):=zh fun w h=>by
  have:=YK hen y4 (by omega) w (jh h);rw [her] at this;rw [← HY3.out.1,← HZ.out.1.s];exact this
 have d1:((y4:Int) != (a3:Int))=true:=(by simp;omega);clear HY3 HZ HOF hne hi4 hen her;go_wp2_with (first|refine sL ?_|(refine sS ?_;clear H;intros;rename_i H)|(go_at_call 68;with_reducible refine zm (HRU.out _ (H.get pk)) ?_;rintro e9 wc ⟨rfl,hb⟩;replace H:=H.grew hb.below;clear hb));go_ret;exact ⟨rfl,H.picks .nil⟩
end
section
open Go.RowKit Go.Maps
attribute [local go_sem] qt yq
def IdT (S:Sto) (id:Nat) (t:List Nat):Prop:=∃ T,Den S id T∧T.txt=t
theorem IdT.le {S S':Sto} {id:Nat} {t:List Nat} (h:IdT S id t) (hS:S.Ok) (hl:S.Le S'):IdT S' id t:=by
 obtain ⟨T,h1,h2⟩:=h;exact ⟨T,h1.le hS hl,h2⟩
theorem XH {S:Sto} {id:Nat} {t:List Nat} (h:IdT S id t):1<=id:=by
 obtain ⟨T,h1,_⟩:=h;exact h1.1
structure IdsOk (S:Sto) (ids:List Nat) (ts:List (List Nat)) (i:Nat):Prop where
 len:ids.length=i
 at_:∀ j t,j<i->ts[j]?=some t->∃ id,ids[j]?=some id∧IdT S id t
theorem IdsOk.step {S S':Sto} {ids:List Nat} {ts:List (List Nat)} {i id:Nat} {t:List Nat} (h:IdsOk S ids ts i) (hS:S.Ok) (hl:S.Le S') (ht:ts[i]?=some t) (hid:IdT S' id t):IdsOk S' (ids++[id]) ts (i+1):=by
 refine ⟨by simp [h.len],fun j u hj hu=>?_⟩;rcases yI j i with h1|h1
 ·obtain ⟨x,h2,h3⟩:=h.at_ j u h1 hu;exact ⟨x,by rw [qv (by rw [h.len];exact h1)];exact h2,h3.le hS hl⟩
 ·obtain rfl:j=i:=by omega
  rw [ht] at hu;injection hu with hu
  subst hu;exact ⟨id,by rw [← h.len];simp,hid⟩
def AdRel (X:Px) (ts:List (List Nat)) (N:List Nat) (w:World) (n m:Nat) (v6 v7:Value) (wr:World):Prop :=
 ∃ (i:Nat) (X2:Px) (ids:List Nat),m=n-i∧i<=n∧v7=.int .i64 i∧(IdsOk X2.S ids ts i∧X.Ext X2∧zK X2∧X2.S.list.length<=X.S.list.length+i)∧St w N [pA X2,zc qE 26 1 v6 ids] wr
attribute [local go_sem] StStep jw yM in
theorem addL_c {P:wi} {g:List Gz} {ts:List (List Nat)} {v:Value} {X:Px} (hr:RowIn P Qf 5 v g) (hT:TxP g ts g.length) (hb:∀ q∈g,q.lt<256) (hn40:g.length<=40) (hX:zK X) (hroom:X.S.list.length+40<X.S.most) (w:World) (h:((pA X).sep (qX P)).ho w) :
  Calls zb 34 #[.pointer (some ⟨X.s,0,none⟩),v] w fun e w'=>∃ (X':Px) (v':Value) (ids:List Nat),e=.returned (.tuple #[v',.bool true])∧X.Ext X'∧zK X'∧IdsOk X'.S ids ts g.length∧X'.S.list.length<=X.S.list.length+g.length∧St w (pA X).fp [pA X',zc qE 26 1 v' ids] w':=by
 rw [qz] at h;obtain ⟨k1,k2,hdd⟩:=h;have H:=St.one k1;have HK:Ks w (pA X).fp [qX P]:=⟨by simpa using k2,by simpa using fun b hb hm=>hdd b hm hb⟩
 generalize (pA X).fp=N at *;clear k1 k2 hdd;obtain ⟨n,hnn⟩:∃ n,g.length=n:=⟨_,rfl⟩
 obtain ⟨ad,c,rfl,hmx9⟩:=hr.shape;have HCL:Hid (∀ (i:Nat) (q:Gz),g[i]?=some q->∃ b o,ad=some ⟨b,o,none⟩∧∀ w,(qX P).ho w->w.rangeAt b (o+i*5) [.int .i64 q.kd,.int .u8 q.lt,.int .i64 q.lf,.int .i64 q.rg,.int .i64 q.tm]):=zh fun i q hq=>by
  obtain ⟨ad',c',e1,_,h3⟩:=id hr;obtain ⟨b,o,rfl,_⟩:=h3 (by have:=yE hq;omega);injection e1 with e1 _ _
  subst e1;exact ⟨b,o,rfl,fun w h=>hr.rng h Yw hq⟩
 rw [hnn] at hn40 hT ⊢;have HIN:Hid (g.length=n∧n<=40∧(∀ q∈g,q.lt<256)∧TxP g ts n∧zK X∧X.S.list.length+40<X.S.most):=zh ⟨hnn,hn40,hb,hT,hX,hroom⟩;clear hr hnn hmx9 hb hT hX hroom;go_enter Tryz.func34,Tryz.ntmps34;go_wp2_with (first|refine sL ?_|(refine sS ?_;clear H;intros;rename_i H));go_loopg [6,7] n (fun m v6 v7 wr=>AdRel X ts N w n m v6 v7 wr);case atStart=>exact ⟨0,X,[],rfl,qy _,rfl,⟨⟨rfl,fun j t hj=>absurd hj (Nat.not_lt_zero _)⟩,.refl _,HIN.out.2.2.2.2.1,zr _⟩,H.empty (A:=zc qE 26 1 (.slice none 0 0) []) (qq _) (by rw [qW];rfl) |>.picks (.cons (A:=pA X) pk (.cons (A:=zc qE 26 1 (.slice none 0 0) []) pk .nil))⟩
 case round =>
  clear H;obtain ⟨i,X2,ids,rfl,hik,rfl,hrel,H⟩:=hrel;have HRL:=zh hrel;obtain ⟨ad2,ci,rfl,_⟩:=zE (H.get (A:=zc qE 26 1 _ ids) pk);by_cases hlt:i<n
  ·obtain ⟨q9,hq⟩:∃ a,g[i]?=some a:=⟨_,zg (by rw [HIN.out.1];exact hlt)⟩
   obtain ⟨gb,o,rfl,hrng⟩:=HCL.out i q9 hq;have d90:decide ((i:Int)<(n:Int))=true:=(by simp;omega);have d90n:decide (i<n)=true:=(by simp;omega);have hil:i<n:=hlt;obtain ⟨t,hti,ht3,htne,htb,htr⟩:=HIN.out.2.2.2.1.at_ i q9 hlt hq;have hidl:ids.length<=40:=(by rw [hrel.1.len];omega);have HTT:=zh hti;have HRW:Hid (∀ (l a:Nat),ids[l]?=some a->∃ gi,ad2=some ⟨gi,0,none⟩∧∀ w,(zc qE 26 1 (.slice ad2 ids.length ci) ids).ho w->w.cell? ⟨gi,l,none⟩=some (.int .i64 (a:Nat))):=zh fun l a hl=>by
    obtain ⟨g2,c8,e1,_⟩:=q8 (H.get (A:=zc qE 26 1 (.slice ad2 ids.length ci) ids) pk) (by have:=yE hl;omega);injection e1 with e1 _ _
    refine ⟨g2,e1,fun w h=>?_⟩;rw [e1] at h;have:=qj h ya hl (j:=0) rfl;simpa using this
   have hroom2:X2.S.list.length<X2.S.most:=(by have:=hrel.2.1.le.1;have:=HIN.out;omega);have hltb:=HIN.out.2.2.1 q9 (zy hq);obtain ⟨kd,lt,lf,rg,tm⟩:=q9;have HC0:Hid (∀ w,(qX P).ho w->w.cell? ⟨gb,o+i*5,none⟩=some (.int .i64 kd)):=zh fun w h=>by have:=hrng w h 0 (.int .i64 kd) rfl;simpa using this
   have HC1:Hid (∀ w,(qX P).ho w->w.cell? ⟨gb,o+i*5+1,none⟩=some (.int .u8 lt)):=zh fun w h=>hrng w h 1 (.int .u8 lt) rfl
   have HC2:Hid (∀ w,(qX P).ho w->w.cell? ⟨gb,o+i*5+2,none⟩=some (.int .i64 lf)):=zh fun w h=>hrng w h 2 (.int .i64 lf) rfl
   have HC3:Hid (∀ w,(qX P).ho w->w.cell? ⟨gb,o+i*5+3,none⟩=some (.int .i64 rg)):=zh fun w h=>hrng w h 3 (.int .i64 rg) rfl
   have HC4:Hid (∀ w,(qX P).ho w->w.cell? ⟨gb,o+i*5+4,none⟩=some (.int .i64 tm)):=zh fun w h=>hrng w h 4 (.int .i64 tm) rfl
   clear hrng hq hti;rcases htr with ⟨q1,q2,q3,q4,q5⟩|⟨l,q,ta,tb,q1,q2,q3,q4,q5,hl,hr,ha,hb,q6⟩|⟨l,k,ta,q1,q2,q3,q4,q5,hl,hk2,hk3,ha,q6⟩
   ·simp only at q1 q2 q3 q4 q5 hltb;subst q1;have HLE:Hid (∀ w,(pA X2).ho w->Calls zb 42 #[.pointer (some ⟨X.s,0,none⟩),.int .u8 lt] w (XZ X2 (fun S id=>IdT S id t) (pA X2).fp w)):=zh fun w h=>by
     have:=k6 (P:=fun S id=>IdT S id t) hroom2 (fun S id h=>⟨_,h,by rw [q5];rfl⟩) (Ws lt hltb HRL.out.2.2.1 w h);rw [HRL.out.2.1.s] at this;exact this
    clear hrel q2 q3 q4 q5 hltb hroom2 ht3 htne htb;go_wp2_with (first|go_big_skip|refine sL ?_|(refine sS ?_;clear H;intros;rename_i H)|(go_at_call 42;with_reducible refine zm (HLE.out _ (H.get pk)) ?_;rintro e9 wc ⟨X5,id5,rfl,y1,y2,y3,y4,hb⟩;have HY:=zh (za y1 (za y2 (za y3 y4)));clear y1 y2 y3 y4;replace H:=zn ((H.pick pk).call hb);clear hb;have hge:1<=id5:=XH HY.out.2.2.2;have d50:decide ((id5:Int)<1)=false:=(by simp;omega);have d50n:decide (id5<1)=false:=(by simp;omega))|((with_reducible refine qV ?_);refine AtSlice.one H rfl rfl rfl rfl rfl rfl rfl rfl rfl ?_;clear H;intro b6 _ H;simp only [Act.put,puA,puB,puC])|((with_reducible refine qJ ?_);refine AtAppend.go (enc:=qE) H rfl rfl rfl rfl rfl (by decide) (by decide) rfl (xs:=ids) pk rfl (H.at pk) [id5] rfl (by simp [zU,qE]) ya wu (by simp;omega) ?_;clear H;intro ad9 cp9 _ H;simp only [Act.put,puA,puB,puC]));have hge:1<=id5:=XH HY.out.2.2.2;have d50:decide ((id5:Int)<1)=false:=(by simp;omega)
    have d50n:decide (id5<1)=false:=(by simp;omega)
    go_wp2_with (first|go_big_skip|refine sL ?_|(refine sS ?_;clear H;intros;rename_i H)|((with_reducible refine qV ?_);refine AtSlice.one H rfl rfl rfl rfl rfl rfl rfl rfl rfl ?_;clear H;intro b6 _ H;simp only [Act.put,puA,puB,puC])|((with_reducible refine qJ ?_);refine AtAppend.go (enc:=qE) H rfl rfl rfl rfl rfl (by decide) (by decide) rfl (xs:=ids) pk rfl (H.at pk) [id5] rfl (by simp [zU,qE]) ya wu (by simp;omega) ?_;clear H;intro ad9 cp9 _ H;simp only [Act.put,puA,puB,puC]));go_roundg (n-(i+1));case measure=>omega
    case rel =>
     have h1:=HRL.out;have h2:=HY.out;exact ⟨i+1,X5,ids++[id5],rfl,by omega,by go_num,⟨h1.1.step h1.2.2.1.ok h2.1.le HTT.out h2.2.2.2,h1.2.1.trans h2.1,h2.2.1,by omega⟩,H.picks (.cons pk (.cons pk .nil))⟩
   ·simp only at q1 q2 q3 q4 q5 hltb;subst q1;obtain ⟨xa,hxa,TA,hTA,hTa⟩:=HRL.out.1.at_ l ta hl ha;obtain ⟨gi,rfl,hca⟩:=HRW.out l xa hxa;have HIA:=zh hca;have hlts:l<ids.length:=yE hxa;obtain ⟨xb,hxb,TB,hTB,hTb⟩:=HRL.out.1.at_ q tb hr hb;obtain ⟨g3,e3,hcb⟩:=HRW.out q xb hxb;injection e3 with e3
    injection e3 with e3
    subst e3;have HIB:=zh hcb;have hrts:q<ids.length:=yE hxb;have HI1:Hid (lf-1=(l:Nat)):=zh (by omega);have HI2:Hid (rg-1=(q:Nat)):=zh (by omega);have HPR:Hid (∀ w,(pA X2).ho w->Calls zb 43 #[.pointer (some ⟨X.s,0,none⟩),.int .i64 (xa:Nat),.int .i64 (xb:Nat)] w (XZ X2 (fun S id=>IdT S id t) (pA X2).fp w)):=zh fun w h=>by
     have hl1:TA.len=ta.length:=(by rw [← Tr.txt_len,hTa]);have hl2:TB.len=tb.length:=(by rw [← Tr.txt_len,hTb]);have hl3:ta.length+tb.length<=300:=(by rw [q6,zi] at ht3;exact ht3);have:=k6 (P:=fun S id=>IdT S id t) hroom2 (fun S id h=>⟨_,h,by rw [q6];simp only [Tr.txt];rw [hTa,hTb]⟩) (WA hTA hTB (by simp only [yG];omega) HRL.out.2.2.1 w h);rw [HRL.out.2.1.s] at this;exact this
    have il1:-9223372036854775808<=lf-1∧lf-1<=9223372036854775807:=(by omega);have il2:-9223372036854775808<=rg-1∧rg-1<=9223372036854775807:=(by omega);clear hrel q2 q3 q4 q5 hltb hroom2 ht3 htne htb hca hcb hTA hTB hTa hTb hxa hxb ha hb q6 HRW hl hr;go_wp2_with (first|go_big_skip|refine sL ?_|(refine sS ?_;clear H;intros;rename_i H));replace H:St w N [pA X2,zc qE 26 1 (.slice (some ⟨gi,0,none⟩) ids.length ci) ids] _:=H.picks (.cons (A:=pA X2) pk (.cons (A:=zc qE 26 1 (.slice (some ⟨gi,0,none⟩) ids.length ci) ids) pk .nil));refine zM 25 [⟨[],fun v _=>v=.pointer (some ⟨X.s,0,none⟩)⟩,⟨[],fun v _=>v=.slice (some ⟨gi,0,none⟩) ids.length ci⟩,⟨[],fun v _=>v=.slice (some ⟨gb,o,none⟩) n c⟩,⟨[],fun v _=>v=.int .i64 i⟩,⟨[2,3],fun v _=>v=.pointer (some ⟨gb,o+i*5,none⟩)⟩,⟨[4],fun v _=>v=.pointer (some ⟨gb,o+i*5+2,none⟩)⟩,⟨[5],fun v _=>v=.int .i64 lf⟩,⟨[6],fun v _=>v=.int .i64 (l:Nat)⟩,⟨[1,7],fun v _=>v=.pointer (some ⟨gi,l,none⟩)⟩,⟨[8],fun v _=>v=.int .i64 (xa:Nat)⟩,⟨[],fun v _=>v=.slice (some ⟨gi,0,none⟩) ids.length ci⟩,⟨[],fun v _=>v=.slice (some ⟨gb,o,none⟩) n c⟩,⟨[],fun v _=>v=.int .i64 i⟩,⟨[11,12],fun v _=>v=.pointer (some ⟨gb,o+i*5,none⟩)⟩,⟨[13],fun v _=>v=.pointer (some ⟨gb,o+i*5+3,none⟩)⟩,⟨[14],fun v _=>v=.int .i64 rg⟩,⟨[15],fun v _=>v=.int .i64 (q:Nat)⟩,⟨[10,16],fun v _=>v=.pointer (some ⟨gi,q,none⟩)⟩,⟨[17],fun v _=>v=.int .i64 (xb:Nat)⟩,⟨[0,9,18],fun v _=>∃ id:Nat,v=.tuple #[.int .i64 id,.nilIface]⟩,⟨[19],fun v ds=>ds=[v]⟩,⟨[20],fun v ds=>∃ id:Nat,ds=[.tuple #[.int .i64 id,.nilIface]]∧v=.int .i64 id⟩,⟨[20],fun v ds=>∃ id:Nat,ds=[.tuple #[.int .i64 id,.nilIface]]∧v=.nilIface⟩,⟨[21],fun v ds=>ds=[v]⟩,⟨[22],fun v ds=>ds=[v]⟩] [19] [[0],[0],[0],[0],[0],[0],[0],[0],[0],[0],[0],[0],[0],[0],[0],[0],[0],[0],[0],[0],[1],[1],[1],[1],[1]] [fun _ wx=>St w N [pA X2,zc qE 26 1 (.slice (some ⟨gi,0,none⟩) ids.length ci) ids] wx,fun vals wx=>∃ (X5:Px) (id:Nat),vals 19=.tuple #[.int .i64 id,.nilIface]∧(X2.Ext X5∧zK X5∧X5.S.list.length<=X2.S.list.length+1∧IdT X5.S id t)∧St w N [pA X5,zc qE 26 1 (.slice (some ⟨gi,0,none⟩) ids.length ci) ids] wx]
     [[],[],[],[],[(2,57),(3,58)],[(4,59)],[(5,60)],[(6,61)],[(1,56),(7,62)],[(8,63)],[],[],[],[(11,66),(12,67)],[(13,68)],[(14,69)],[(15,70)],[(10,65),(16,71)],[(17,72)],[(0,55),(9,64),(18,73)],[(19,74)],[(20,54)],[(20,54)],[(21,75)],[(22,76)]] [(0,55),(1,56),(2,57),(3,58),(4,59),(5,60),(6,61),(7,62),(8,63),(9,64),(10,65),(11,66),(12,67),(13,68),(14,69),(15,70),(16,71),(17,72),(18,73),(19,74),(20,54),(21,75),(22,76),(23,8),(24,9)] (by kernel_rfl) (by kernel_rfl) H.drew ⟨⟨qo,trivial⟩,⟨qo,trivial⟩,⟨qo,trivial⟩,⟨qo,trivial⟩,⟨?_,trivial⟩,⟨qo,trivial⟩,⟨ql,trivial⟩,⟨?_,trivial⟩,⟨?_,trivial⟩,⟨ql,trivial⟩,⟨qo,trivial⟩,⟨qo,trivial⟩,⟨qo,trivial⟩,⟨?_,trivial⟩,⟨qo,trivial⟩,⟨ql,trivial⟩,⟨?_,trivial⟩,⟨?_,trivial⟩,⟨ql,trivial⟩,⟨?_,trivial⟩,⟨?_,trivial⟩,⟨?_,trivial⟩,⟨?_,trivial⟩,⟨?_,trivial⟩,⟨?_,trivial⟩,trivial⟩ ?_
    ·intro vals wx hd HC;simp only [GF] at hd;have H:=HC;simp only [CA] at H;simp only [PS,hd];go_simp;first|exact HC|exact ⟨rfl,HC⟩|(rw [if_pos hil];exact ⟨rfl,HC⟩)
    ·intro vals wx hd HC;simp only [GF] at hd;have H:=HC;simp only [CA] at H;simp only [PS,hd];go_simp;first|exact HC|exact ⟨rfl,HC⟩|exact ⟨HI1.out,HC⟩|(rw [HI1.out];exact ⟨IntWalk.i64_in _ (by omega),HC⟩)
    ·intro vals wx hd HC;simp only [GF] at hd;have H:=HC;simp only [CA] at H;simp only [PS,hd];go_simp;first|exact HC|exact ⟨rfl,HC⟩|(rw [if_pos hlts];exact ⟨rfl,HC⟩)
    ·intro vals wx hd HC;simp only [GF] at hd;have H:=HC;simp only [CA] at H;simp only [PS,hd];go_simp;first|exact HC|exact ⟨rfl,HC⟩|(rw [if_pos hil];exact ⟨rfl,HC⟩)
    ·intro vals wx hd HC;simp only [GF] at hd;have H:=HC;simp only [CA] at H;simp only [PS,hd];go_simp;first|exact HC|exact ⟨rfl,HC⟩|exact ⟨HI2.out,HC⟩|(rw [HI2.out];exact ⟨IntWalk.i64_in _ (by omega),HC⟩)
    ·intro vals wx hd HC;simp only [GF] at hd;have H:=HC;simp only [CA] at H;simp only [PS,hd];go_simp;first|exact HC|exact ⟨rfl,HC⟩|(rw [if_pos hrts];exact ⟨rfl,HC⟩)
    ·intro vals wx hd HC;simp only [GF] at hd;obtain ⟨h0,h9,h18⟩:=hd;have H:=HC;simp only [CA] at H;simp only [PS,h0,h9,h18];clear h0 h9 h18 HC;go_simp;with_reducible refine zm (HPR.out _ (H.get pk)) ?_
     rintro e wz ⟨X5,id5,rfl,y1,y2,y3,y4,hb⟩;have H2:=(H.pick pk).call hb;exact ⟨_,rfl,⟨_,rfl⟩,X5,id5,rfl,⟨y1,y2,y3,y4⟩,by simpa using H2⟩
    ·intro vals wx hd HC;simp only [GF] at hd;have h19:=hd;clear hd;have H:=HC;simp only [CA] at H;obtain ⟨X5,id5,hv19,hj5,H⟩:=H;simp only [PS];clear h19;go_simp;first|exact HC|exact ⟨rfl,HC⟩
    ·intro vals wx hd HC;simp only [GF] at hd;have h20:=hd;clear hd;have H:=HC;simp only [CA] at H;obtain ⟨X5,id5,hv19,hj5,H⟩:=H;simp only [PS];have e20:vals 20=.tuple #[.int .i64 id5,.nilIface]:=(by rw [← hv19];exact X8 (show [vals 19]=[vals 20] from h20));simp only [e20];clear h20;go_simp;first|exact ⟨⟨id5,by simp [e20],rfl⟩,HC⟩|exact ⟨⟨id5,rfl⟩,HC⟩|exact ⟨rfl,HC⟩|exact HC|exact ⟨⟨⟨id5,rfl⟩,rfl⟩,HC⟩|exact ⟨⟨id5,rfl,rfl⟩,HC⟩|fail "Z9"
    ·intro vals wx hd HC;simp only [GF] at hd;have h20:=hd;clear hd;have H:=HC;simp only [CA] at H;obtain ⟨X5,id5,hv19,hj5,H⟩:=H;simp only [PS];have e20:vals 20=.tuple #[.int .i64 id5,.nilIface]:=(by rw [← hv19];exact X8 (show [vals 19]=[vals 20] from h20));simp only [e20];clear h20;go_simp;first|exact ⟨⟨id5,by simp [e20],rfl⟩,HC⟩|exact ⟨⟨id5,rfl⟩,HC⟩|exact ⟨rfl,HC⟩|exact HC|exact ⟨⟨⟨id5,rfl⟩,rfl⟩,HC⟩|exact ⟨⟨id5,rfl,rfl⟩,HC⟩|fail "Z9"
    ·intro vals wx hd HC;simp only [GF] at hd;have h21:=hd;clear hd;have H:=HC;simp only [CA] at H;obtain ⟨X5,id5,hv19,hj5,H⟩:=H;simp only [PS];clear h21;go_simp;first|exact HC|exact ⟨rfl,HC⟩
    ·intro vals wx hd HC;simp only [GF] at hd;have h22:=hd;clear hd;have H:=HC;simp only [CA] at H;obtain ⟨X5,id5,hv19,hj5,H⟩:=H;simp only [PS];clear h22;go_simp;first|exact HC|exact ⟨rfl,HC⟩
    intro vals wx hd HC;have h19:=hd.2.2.2.2.2.2.2.2.2.2.2.2.2.2.2.2.2.2.2.1;have h20:=hd.2.2.2.2.2.2.2.2.2.2.2.2.2.2.2.2.2.2.2.2.1;have h21:=hd.2.2.2.2.2.2.2.2.2.2.2.2.2.2.2.2.2.2.2.2.2.1;have h22:=hd.2.2.2.2.2.2.2.2.2.2.2.2.2.2.2.2.2.2.2.2.2.2.1;have h23:=hd.2.2.2.2.2.2.2.2.2.2.2.2.2.2.2.2.2.2.2.2.2.2.2.1;have h24:=hd.2.2.2.2.2.2.2.2.2.2.2.2.2.2.2.2.2.2.2.2.2.2.2.2.1;simp only [CA] at HC;obtain ⟨X5,id5,hv19,hj5,H⟩:=HC;simp only [GF] at hd;simp only [PS,hd];clear hd;have e20:vals 20=.tuple #[.int .i64 id5,.nilIface]:=(by rw [← hv19];exact X8 (show [vals 19]=[vals 20] from h20));have e23:vals 23=.int .i64 id5:=by
     obtain ⟨q,q1,q2⟩:=(h21:∃ id:Nat,[vals 20]=[.tuple #[.int .i64 id,.nilIface]]∧vals 21=.int .i64 id)
     replace q1:[vals 20]=[Value.tuple #[.int .i64 q,.nilIface]]:=q1;rw [e20] at q1;simp only [Zq.injEq,and_true,Value.tuple.injEq,Array.mk.injEq,Value.int.injEq,true_and] at q1;rw [X8 (show [vals 21]=[vals 23] from h23),q2,q1]
    have e24:vals 24=.nilIface:=by
     obtain ⟨q,q1,q2⟩:=(h22:∃ id:Nat,[vals 20]=[.tuple #[.int .i64 id,.nilIface]]∧vals 22=.nilIface)
     rw [X8 (show [vals 22]=[vals 24] from h24),q2]
    simp only [hv19,e20,e23,e24];have HY:=zh hj5;clear hv19 e20 e23 e24 h19 h20 h21 h22 h23 h24 hj5;have hge:1<=id5:=XH HY.out.2.2.2;have d50:decide ((id5:Int)<1)=false:=(by simp;omega)
    have d50n:decide (id5<1)=false:=(by simp;omega)
    go_wp2_with (first|go_big_skip|refine sL ?_|(refine sS ?_;clear H;intros;rename_i H)|((with_reducible refine qV ?_);refine AtSlice.one H rfl rfl rfl rfl rfl rfl rfl rfl rfl ?_;clear H;intro b6 _ H;simp only [Act.put,puA,puB,puC])|((with_reducible refine qJ ?_);refine AtAppend.go (enc:=qE) H rfl rfl rfl rfl rfl (by decide) (by decide) rfl (xs:=ids) pk rfl (H.at pk) [id5] rfl (by simp [zU,qE]) ya wu (by simp;omega) ?_;clear H;intro ad9 cp9 _ H;simp only [Act.put,puA,puB,puC]));go_roundg (n-(i+1));case measure=>omega
    case rel =>
     have h1:=HRL.out;have h2:=HY.out;exact ⟨i+1,X5,ids++[id5],rfl,by omega,by go_num,⟨h1.1.step h1.2.2.1.ok h2.1.le HTT.out h2.2.2.2,h1.2.1.trans h2.1,h2.2.1,by omega⟩,H.picks (.cons pk (.cons pk .nil))⟩
   ·simp only at q1 q2 q3 q4 q5 hltb;subst q1;obtain ⟨xa,hxa,TA,hTA,hTa⟩:=HRL.out.1.at_ l ta hl ha;obtain ⟨gi,rfl,hca⟩:=HRW.out l xa hxa;have HIA:=zh hca;have hlts:l<ids.length:=yE hxa;have HI1:Hid (lf-1=(l:Nat)):=zh (by omega);have HPW:Hid (∀ w,(pA X2).ho w->Calls zb 70 #[.pointer (some ⟨X.s,0,none⟩),.int .i64 (xa:Nat),.int .i64 tm] w (XZ X2 (fun S id=>IdT S id t) (pA X2).fp w)):=zh fun w h=>by
     have hl1:TA.len=ta.length:=(by rw [← Tr.txt_len,hTa]);have hl3:ta.length*k<=300:=(by rw [q6,List.length_flatten,Qa,Xz,xO] at ht3;exact ht3);have:=k6 (P:=fun S id=>IdT S id t) hroom2 (fun S id h=>⟨_,h,by rw [q6];simp only [Tr.txt];rw [hTa]⟩) (XM (k:=k) hTA hk2 (by omega) (by simp only [yG];rw [hl1];omega) HRL.out.2.2.1 w h);rw [HRL.out.2.1.s,← q5] at this;exact this
    have il1:-9223372036854775808<=lf-1∧lf-1<=9223372036854775807:=(by omega);clear hrel q2 q3 q4 q5 hltb hroom2 ht3 htne htb hca hTA hTa hxa ha q6 HRW hl hk2 hk3;go_wp2_with (first|go_big_skip|refine sL ?_|(refine sS ?_;clear H;intros;rename_i H));replace H:St w N [pA X2,zc qE 26 1 (.slice (some ⟨gi,0,none⟩) ids.length ci) ids] _:=H.picks (.cons (A:=pA X2) pk (.cons (A:=zc qE 26 1 (.slice (some ⟨gi,0,none⟩) ids.length ci) ids) pk .nil));refine zM 21 [⟨[],fun v _=>v=.pointer (some ⟨X.s,0,none⟩)⟩,⟨[],fun v _=>v=.slice (some ⟨gi,0,none⟩) ids.length ci⟩,⟨[],fun v _=>v=.slice (some ⟨gb,o,none⟩) n c⟩,⟨[],fun v _=>v=.int .i64 i⟩,⟨[2,3],fun v _=>v=.pointer (some ⟨gb,o+i*5,none⟩)⟩,⟨[4],fun v _=>v=.pointer (some ⟨gb,o+i*5+2,none⟩)⟩,⟨[5],fun v _=>v=.int .i64 lf⟩,⟨[6],fun v _=>v=.int .i64 (l:Nat)⟩,⟨[1,7],fun v _=>v=.pointer (some ⟨gi,l,none⟩)⟩,⟨[8],fun v _=>v=.int .i64 (xa:Nat)⟩,⟨[],fun v _=>v=.slice (some ⟨gb,o,none⟩) n c⟩,⟨[],fun v _=>v=.int .i64 i⟩,⟨[10,11],fun v _=>v=.pointer (some ⟨gb,o+i*5,none⟩)⟩,⟨[12],fun v _=>v=.pointer (some ⟨gb,o+i*5+4,none⟩)⟩,⟨[13],fun v _=>v=.int .i64 tm⟩,⟨[0,9,14],fun v _=>∃ id:Nat,v=.tuple #[.int .i64 id,.nilIface]⟩,⟨[15],fun v ds=>ds=[v]⟩,⟨[16],fun v ds=>∃ id:Nat,ds=[.tuple #[.int .i64 id,.nilIface]]∧v=.int .i64 id⟩,⟨[16],fun v ds=>∃ id:Nat,ds=[.tuple #[.int .i64 id,.nilIface]]∧v=.nilIface⟩,⟨[17],fun v ds=>ds=[v]⟩,⟨[18],fun v ds=>ds=[v]⟩] [15] [[0],[0],[0],[0],[0],[0],[0],[0],[0],[0],[0],[0],[0],[0],[0],[0],[1],[1],[1],[1],[1]] [fun _ wx=>St w N [pA X2,zc qE 26 1 (.slice (some ⟨gi,0,none⟩) ids.length ci) ids] wx,fun vals wx=>∃ (X5:Px) (id:Nat),vals 15=.tuple #[.int .i64 id,.nilIface]∧(X2.Ext X5∧zK X5∧X5.S.list.length<=X2.S.list.length+1∧IdT X5.S id t)∧St w N [pA X5,zc qE 26 1 (.slice (some ⟨gi,0,none⟩) ids.length ci) ids] wx]
     [[],[],[],[],[(2,24),(3,25)],[(4,26)],[(5,27)],[(6,28)],[(1,23),(7,29)],[(8,30)],[],[],[(10,32),(11,33)],[(12,34)],[(13,35)],[(0,22),(9,31),(14,36)],[(15,37)],[(16,21)],[(16,21)],[(17,38)],[(18,39)]] [(0,22),(1,23),(2,24),(3,25),(4,26),(5,27),(6,28),(7,29),(8,30),(9,31),(10,32),(11,33),(12,34),(13,35),(14,36),(15,37),(16,21),(17,38),(18,39),(19,8),(20,9)] (by kernel_rfl) (by kernel_rfl) H.drew ⟨⟨qo,trivial⟩,⟨qo,trivial⟩,⟨qo,trivial⟩,⟨qo,trivial⟩,⟨?_,trivial⟩,⟨qo,trivial⟩,⟨ql,trivial⟩,⟨?_,trivial⟩,⟨?_,trivial⟩,⟨ql,trivial⟩,⟨qo,trivial⟩,⟨qo,trivial⟩,⟨?_,trivial⟩,⟨qo,trivial⟩,⟨ql,trivial⟩,⟨?_,trivial⟩,⟨?_,trivial⟩,⟨?_,trivial⟩,⟨?_,trivial⟩,⟨?_,trivial⟩,⟨?_,trivial⟩,trivial⟩ ?_
    ·intro vals wx hd HC;simp only [GF] at hd;have H:=HC;simp only [CA] at H;simp only [PS,hd];go_simp;first|exact HC|exact ⟨rfl,HC⟩|(rw [if_pos hil];exact ⟨rfl,HC⟩)
    ·intro vals wx hd HC;simp only [GF] at hd;have H:=HC;simp only [CA] at H;simp only [PS,hd];go_simp;first|exact HC|exact ⟨rfl,HC⟩|exact ⟨HI1.out,HC⟩|(rw [HI1.out];exact ⟨IntWalk.i64_in _ (by omega),HC⟩)
    ·intro vals wx hd HC;simp only [GF] at hd;have H:=HC;simp only [CA] at H;simp only [PS,hd];go_simp;first|exact HC|exact ⟨rfl,HC⟩|(rw [if_pos hlts];exact ⟨rfl,HC⟩)
    ·intro vals wx hd HC;simp only [GF] at hd;have H:=HC;simp only [CA] at H;simp only [PS,hd];go_simp;first|exact HC|exact ⟨rfl,HC⟩|(rw [if_pos hil];exact ⟨rfl,HC⟩)
    ·intro vals wx hd HC;simp only [GF] at hd;obtain ⟨h0,h9,h14⟩:=hd;have H:=HC;simp only [CA] at H;simp only [PS,h0,h9,h14];clear h0 h9 h14 HC;go_simp;with_reducible refine zm (HPW.out _ (H.get pk)) ?_
     rintro e wz ⟨X5,id5,rfl,y1,y2,y3,y4,hb⟩;have H2:=(H.pick pk).call hb;exact ⟨_,rfl,⟨_,rfl⟩,X5,id5,rfl,⟨y1,y2,y3,y4⟩,by simpa using H2⟩
    ·intro vals wx hd HC;simp only [GF] at hd;have h15:=hd;clear hd;have H:=HC;simp only [CA] at H;obtain ⟨X5,id5,hv15,hj5,H⟩:=H;simp only [PS];clear h15;go_simp;first|exact HC|exact ⟨rfl,HC⟩
    ·intro vals wx hd HC;simp only [GF] at hd;have h16:=hd;clear hd;have H:=HC;simp only [CA] at H;obtain ⟨X5,id5,hv15,hj5,H⟩:=H;simp only [PS];have e16:vals 16=.tuple #[.int .i64 id5,.nilIface]:=(by rw [← hv15];exact X8 (show [vals 15]=[vals 16] from h16));simp only [e16];clear h16;go_simp;first|exact ⟨⟨id5,by simp [e16],rfl⟩,HC⟩|exact ⟨⟨id5,rfl⟩,HC⟩|exact ⟨rfl,HC⟩|exact HC|exact ⟨⟨⟨id5,rfl⟩,rfl⟩,HC⟩|exact ⟨⟨id5,rfl,rfl⟩,HC⟩|fail "Z9"
    ·intro vals wx hd HC;simp only [GF] at hd;have h16:=hd;clear hd;have H:=HC;simp only [CA] at H;obtain ⟨X5,id5,hv15,hj5,H⟩:=H;simp only [PS];have e16:vals 16=.tuple #[.int .i64 id5,.nilIface]:=(by rw [← hv15];exact X8 (show [vals 15]=[vals 16] from h16));simp only [e16];clear h16;go_simp;first|exact ⟨⟨id5,by simp [e16],rfl⟩,HC⟩|exact ⟨⟨id5,rfl⟩,HC⟩|exact ⟨rfl,HC⟩|exact HC|exact ⟨⟨⟨id5,rfl⟩,rfl⟩,HC⟩|exact ⟨⟨id5,rfl,rfl⟩,HC⟩|fail "Z9"
    ·intro vals wx hd HC;simp only [GF] at hd;have h17:=hd;clear hd;have H:=HC;simp only [CA] at H;obtain ⟨X5,id5,hv15,hj5,H⟩:=H;simp only [PS];clear h17;go_simp;first|exact HC|exact ⟨rfl,HC⟩
    ·intro vals wx hd HC;simp only [GF] at hd;have h18:=hd;clear hd;have H:=HC;simp only [CA] at H;obtain ⟨X5,id5,hv15,hj5,H⟩:=H;simp only [PS];clear h18;go_simp;first|exact HC|exact ⟨rfl,HC⟩
    intro vals wx hd HC;have h15:=hd.2.2.2.2.2.2.2.2.2.2.2.2.2.2.2.1;have h16:=hd.2.2.2.2.2.2.2.2.2.2.2.2.2.2.2.2.1;have h17:=hd.2.2.2.2.2.2.2.2.2.2.2.2.2.2.2.2.2.1;have h18:=hd.2.2.2.2.2.2.2.2.2.2.2.2.2.2.2.2.2.2.1;have h19:=hd.2.2.2.2.2.2.2.2.2.2.2.2.2.2.2.2.2.2.2.1;have h20:=hd.2.2.2.2.2.2.2.2.2.2.2.2.2.2.2.2.2.2.2.2.1;simp only [CA] at HC;obtain ⟨X5,id5,hv15,hj5,H⟩:=HC;simp only [GF] at hd;simp only [PS,hd];clear hd;have e16:vals 16=.tuple #[.int .i64 id5,.nilIface]:=(by rw [← hv15];exact X8 (show [vals 15]=[vals 16] from h16));have e19:vals 19=.int .i64 id5:=by
     obtain ⟨q,q1,q2⟩:=(h17:∃ id:Nat,[vals 16]=[.tuple #[.int .i64 id,.nilIface]]∧vals 17=.int .i64 id)
     replace q1:[vals 16]=[Value.tuple #[.int .i64 q,.nilIface]]:=q1;rw [e16] at q1;simp only [Zq.injEq,and_true,Value.tuple.injEq,Array.mk.injEq,Value.int.injEq,true_and] at q1;rw [X8 (show [vals 17]=[vals 19] from h19),q2,q1]
    have e20:vals 20=.nilIface:=by
     obtain ⟨q,q1,q2⟩:=(h18:∃ id:Nat,[vals 16]=[.tuple #[.int .i64 id,.nilIface]]∧vals 18=.nilIface)
     rw [X8 (show [vals 18]=[vals 20] from h20),q2]
    simp only [hv15,e16,e19,e20];have HY:=zh hj5;clear hv15 e16 e19 e20 h15 h16 h17 h18 h19 h20 hj5;have hge:1<=id5:=XH HY.out.2.2.2;have d50:decide ((id5:Int)<1)=false:=(by simp;omega)
    have d50n:decide (id5<1)=false:=(by simp;omega)
    go_wp2_with (first|go_big_skip|refine sL ?_|(refine sS ?_;clear H;intros;rename_i H)|((with_reducible refine qV ?_);refine AtSlice.one H rfl rfl rfl rfl rfl rfl rfl rfl rfl ?_;clear H;intro b6 _ H;simp only [Act.put,puA,puB,puC])|((with_reducible refine qJ ?_);refine AtAppend.go (enc:=qE) H rfl rfl rfl rfl rfl (by decide) (by decide) rfl (xs:=ids) pk rfl (H.at pk) [id5] rfl (by simp [zU,qE]) ya wu (by simp;omega) ?_;clear H;intro ad9 cp9 _ H;simp only [Act.put,puA,puB,puC]));go_roundg (n-(i+1));case measure=>omega
    case rel =>
     have h1:=HRL.out;have h2:=HY.out;exact ⟨i+1,X5,ids++[id5],rfl,by omega,by go_num,⟨h1.1.step h1.2.2.1.ok h2.1.le HTT.out h2.2.2.2,h1.2.1.trans h2.1,h2.2.1,by omega⟩,H.picks (.cons pk (.cons pk .nil))⟩
  ·have d90:decide ((i:Int)<(n:Int))=false:=(by simp;omega);have d90n:decide (i<n)=false:=(by simp;omega);have hin:n=i:=(by omega);subst hin;clear hrel;go_wp2_with (first|refine sL ?_|(refine sS ?_;clear H;intros;rename_i H));go_ret2;exact ⟨X2,_,ids,rfl,HRL.out.2.1,HRL.out.2.2.1,HRL.out.1,HRL.out.2.2.2,H.picks (.cons pk (.cons pk .nil))⟩
end
section
open Go.RowKit Go.Maps
attribute [local go_sem] qt yq
def RowT (S:Sto) (ids:List Nat) (ts:List Nat):Prop:=∃ us:List Tr,DenL S ids us∧(us.map Tr.txt).flatten=ts
theorem RowT.le {S S':Sto} {ids ts:List Nat} (h:RowT S ids ts) (hS:S.Ok) (hl:S.Le S'):RowT S' ids ts:=by
 obtain ⟨us,h1,h2⟩:=h;exact ⟨us,h1.le hS hl,h2⟩
theorem RowT.snoc {S:Sto} {ids ts:List Nat} {a b:Nat} (h:RowT S ids ts) (ha:Den S a (.leaf b)):RowT S (ids++[a]) (ts++[b]):=by
 obtain ⟨us,h1,h2⟩:=h;exact ⟨us++[.leaf b],h1.snoc ha,by simp [h2,Tr.txt]⟩
end
section
open Go.RowKit Go.Maps
attribute [local go_sem] qt yq
theorem St.ho9 {w0 w:World} {M:List Nat} {A:As} {L:List As} (h:St w0 M (A::L) w):A.ho w:=h.ho _ zN
structure LwOk (X1:Px) (ids:List Nat) (ts:List (List Nat)) (n:Nat):Prop where
 ok:zK X1
 most:X1.S.most=1048576
 len:X1.S.list.length<=40
 il:ids.length=n
 n40:n<=40
 at_:∀ j,j<n->∃ x T t,ids[j]?=some x∧ts[j]?=some t∧Den X1.S x T∧T.txt=t∧T.len<=300∧x<=40∧t.length<=300∧t≠[]∧∀ b∈t,b<256
theorem LwOk.of {X0 X1:Px} {g:List Gz} {ids:List Nat} {ts:List (List Nat)} {n:Nat} (hT:TxP g ts n) (hg:g.length=n) (hn:n<=40) (h0:X0.S=⟨1048576,[]⟩) (hE:X0.Ext X1) (hO:zK X1) (hI:IdsOk X1.S ids ts n) (hl:X1.S.list.length<=X0.S.list.length+n):LwOk X1 ids ts n:=by
 have hl0:X0.S.list.length=0:=(by rw [h0];rfl);have hm:X0.S.most=1048576:=(by rw [h0]);refine ⟨hO,hE.le.1.trans hm,by omega,hI.len,hn,fun j hj=>?_⟩;obtain ⟨t,h1,h2,h3,h4,_⟩:=hT.at_ j _ hj (zg (by omega));obtain ⟨x,hx,T,hD,hTt⟩:=hI.at_ j t hj h1;exact ⟨x,T,t,hx,h1,hD,hTt,by rw [← Tr.txt_len,hTt];exact h2,by have:=hD.2.1;omega,h2,h3,h4⟩
theorem unkN_nil:vo 40 (kys [])=41:=by decide +kernel
theorem XG {S S':Sto} {y z:Nat} {s:List Tr} (h:IdIs S y s) (hS:S.Ok) (hl:S.Le S') (hS':S'.Ok) (k:IdIs S' z s):z=y:=k.uniq hS' (h.le hS hl)
theorem lw_text {P:wi} {g:List Gz} {v1:Value} {n:Nat} (r1:RowIn P Qf 5 v1 g) (hb:∀ q∈g,q.lt<256) (hn:g.length=n) (h40:n<=40) (w:World) (h:(qX P).ho w):Calls zb 32 #[v1,.int .i64 300] w fun e w'=>∃ (v:Value) (ok:Bool) (ts:List (List Nat)),e=.returned (.tuple #[v,.bool ok])∧(ok=true->TxP g ts n)∧St w [] [zc xV 9 1 v ts] w':=by
 subst hn;exact texts_c r1 hb h40 w h
theorem lw_add {P:wi} {g:List Gz} {ts:List (List Nat)} {v1:Value} {n:Nat} {X0:Px} (r1:RowIn P Qf 5 v1 g) (hb:∀ q∈g,q.lt<256) (hn:g.length=n) (h40:n<=40) (hX:zK X0) (h0:X0.S=⟨1048576,[]⟩) (hT:TxP g ts n) (w:World) (h:((pA X0).sep (qX P)).ho w):Calls zb 34 #[.pointer (some ⟨X0.s,0,none⟩),v1] w fun e w'=>∃ (X1:Px) (v':Value) (ids:List Nat),e=.returned (.tuple #[v',.bool true])∧X0.Ext X1∧zK X1∧IdsOk X1.S ids ts n∧X1.S.list.length<=X0.S.list.length+n∧St w (pA X0).fp [pA X1,zc qE 26 1 v' ids] w':=by
 subst hn;exact addL_c r1 hT hb h40 hX (by rw [h0];simp) w h
end
section
open Go.RowKit Go.Maps
attribute [local go_sem] qt yq
structure OutOk (S:Sto) (out:List Nat) (ts:List (List Nat)) (i:Nat):Prop where
 len:out.length=i
 at_:∀ j t,j<i->ts[j]?=some t->∃ y,out[j]?=some y∧IdIs S y (t.map Tr.leaf)
theorem OutOk.le {S S':Sto} {out:List Nat} {ts:List (List Nat)} {i:Nat} (h:OutOk S out ts i) (hS:S.Ok) (hl:S.Le S'):OutOk S' out ts i :=
 ⟨h.len,fun j t hj ht=>by obtain ⟨y,h1,h2⟩:=h.at_ j t hj ht;exact ⟨y,h1,h2.le hS hl⟩⟩
theorem OutOk.step {S S':Sto} {out:List Nat} {ts:List (List Nat)} {i y:Nat} {t:List Nat} (h:OutOk S out ts i) (hS:S.Ok) (hl:S.Le S') (ht:ts[i]?=some t) (hy:IdIs S' y (t.map Tr.leaf)):OutOk S' (out++[y]) ts (i+1):=by
 refine ⟨by simp [h.len],fun j u hj hu=>?_⟩;rcases yI j i with h1|h1
 ·obtain ⟨x,h2,h3⟩:=h.at_ j u h1 hu;exact ⟨x,by rw [qv (by rw [h.len];exact h1)];exact h2,h3.le hS hl⟩
 ·obtain rfl:j=i:=by omega
  rw [ht] at hu;injection hu with hu
  subst hu;exact ⟨y,by rw [← h.len];simp,hy⟩
section
variable {ops:Array Oper} {Q:Exit->Act->World->Prop} {rest:List Oper} {a:Act} {w w0:World} {M:List Nat} {L R:List As} {o1:Oper} {dst:Option Tmp} {ty0:TypeId} {pos:String} {aft:Array Edge} {gd:Option (Nat×Bool)}
def AtLk (P:Program) (ops:Array Oper) (Q:Exit->Act->World->Prop) (o:Oper) (_:TypeId) (_ _:Operand) (_:Bool) (rest:List Oper) (a:Act) (w:World):Prop:=wpList P ops Q (o::rest) a w
theorem AtLk.go {T:TypeId} {x y:Operand} {ok:Bool} {u v r:Value} (hw:Region.wanted o1 (yielded ops a.tmps)=true) (ho:o1.op=.lookup T x y ok) (hx:a.eval x=u) (hy:a.eval y=v) (hr:(Instr.lookup T u v ok).run zb w=.ok r w)
  (h:wpList zb ops Q rest (a.put o1.dst r) w):AtLk zb ops Q o1 T x y ok rest a w :=
 wpList_step fun _ hK=>by
  rw [if_pos hw];unfold Oper.wp execOp;simp only [ho,hx,hy,Sem.run_bind,hr,Result.andThen_ok,Sem.run_pure];exact hK _ _ h
end
def FstIx (l:List Nat) (j k:Nat):Prop:=k<=j∧l[k]?=l[j]?∧∀ i,i<k->l[i]?≠l[j]?
theorem FstIx.uniq {l:List Nat} {j k k':Nat} (h:FstIx l j k) (h':FstIx l j k'):k=k':=by
 rcases Nat.lt_trichotomy k k' with h1|h1|h1
 ·exact absurd h.2.1 (h'.2.2 k h1)
 ·exact h1
 ·exact absurd h'.2.1 (h.2.2 k' h1)
structure ClFx (out:List Nat) (n i:Nat) (M:List (Nat×Nat)) (cls:List Nat):Prop where
 len:cls.length=n
 at_:∀ j,j<i->∃ k,cls[j]?=some k∧FstIx out j k
 mem:∀ q∈M,q.2<i∧out[q.2]?=some q.1∧∀ l,l<q.2->out[l]?≠some q.1
 all:∀ l y,l<i->out[l]?=some y->∃ k,(y,k)∈M
theorem ClFx.next {out:List Nat} {n i y k:Nat} {M M':List (Nat×Nat)} {cls:List Nat} (h:ClFx out n i M cls) (hi:i<n) (hy:out[i]?=some y) (hk:k<=i∧out[k]?=some y∧∀ l,l<k->out[l]?≠some y) (hM:∀ q∈M',q∈M∨q=(y,k)) (hM2:∀ q∈M,q∈M') (hM3:(y,k)∈M'):ClFx out n (i+1) M' (cls.set i k):=by
 refine ⟨by rw [wo];exact h.len,fun j hj=>?_,fun q hq=>?_,fun l z hl hz=>?_⟩
 ·rcases yI j i with h1|h1
  ·obtain ⟨m,h2,h3⟩:=h.at_ j h1;exact ⟨m,by rw [j5 (by omega)];exact h2,h3⟩
  ·obtain rfl:j=i:=by omega
   refine ⟨k,by rw [kb (by rw [h.len];exact hi)],hk.1,by rw [hk.2.1,hy],fun l hl=>by rw [hy];exact hk.2.2 l hl⟩
 ·rcases hM q hq with h1|rfl
  ·have:=h.mem q h1;exact ⟨by omega,this.2.1,this.2.2⟩
  ·exact ⟨by simp only;omega,hk.2.1,hk.2.2⟩
 ·rcases yI l i with h1|h1
  ·obtain ⟨m,hm⟩:=h.all l z h1 hz;exact ⟨m,hM2 _ hm⟩
  ·obtain rfl:l=i:=by omega
   rw [hy] at hz;injection hz with hz
   subst hz;exact ⟨k,hM3⟩
end
section
open Go.RowKit Go.Maps
attribute [local go_sem] qt yq
end
section
open Go.RowKit Go.Maps
attribute [local go_sem] qt yq
end
section
structure Wt.Wf (x:Wt):Prop where
 head:x.lines=0->x.head=x.len
 tail:x.lines=0->x.tail=x.len
 val:x.val<PP
 scale:x.scale<PP
def wt0:Wt:=⟨0,0,0,0,0,1⟩
def wtL (l:List Nat):Wt:=l.foldl (fun a b=>a.join (Wt.letter b)) wt0
theorem Vt (a b c s t:Nat):jv (jv a b s) c t=jv a (jv b c t) (js s t):=by
 unfold jv js;simp only [Nat.mod_add_mod,Nat.add_mod_mod,Nat.mul_mod_mod,Nat.mod_mul_mod,xl,Zo,wA]
theorem Vs (a b c:Nat):js (js a b) c=js a (js b c):=by
 unfold js;simp only [Nat.mul_mod_mod,Nat.mod_mul_mod,Zo]
theorem wt_assoc (a b c:Wt):(a.join b).join c=a.join (b.join c):=by
 unfold Wt.join;simp only [Vt,Vs,wA,Wt.mk.injEq,and_true,true_and];refine ⟨?_,?_⟩
 ·by_cases h1:a.lines=0 <;> by_cases h2:b.lines=0 <;> simp [h1,h2]
 ·by_cases h1:c.lines=0 <;> by_cases h2:b.lines=0 <;> simp [h1,h2]
  omega
theorem wt0_wf:wt0.Wf:=⟨fun _=>rfl,fun _=>rfl,by simp [wt0,PP],by simp [wt0,PP]⟩
theorem wt_join_wf {a b:Wt} (ha:a.Wf) (hb:b.Wf):(a.join b).Wf:=by
 unfold Wt.join;refine ⟨fun h=>?_,fun h=>?_,qM _ Yp,qM _ Yp⟩
 ·have h1:a.lines=0:=(by simp only at h;omega);have h2:b.lines=0:=(by simp only at h;omega);simp only [h1,h2,if_true,hb.head h2]
 ·have h1:a.lines=0:=(by simp only at h;omega);have h2:b.lines=0:=(by simp only at h;omega);simp only [h1,h2,if_true,ha.tail h1,kf]
theorem wt_join_0 {a:Wt} (h:a.Wf):a.join wt0=a:=by
 obtain ⟨n,l,x,y,v,s⟩:=a;obtain ⟨h1,h2,h3,h4⟩:=h;simp only at h1 h2 h3 h4;unfold Wt.join wt0 jv js;simp only [Nat.mul_one,Nat.add_zero,xI h3,xI h4,Wt.mk.injEq,if_true,qQ,and_true,true_and];by_cases h:l=0
 ·rw [if_pos h,h1 h]
 ·rw [if_neg h]
theorem wt_0_join {a:Wt} (h:a.Wf):wt0.join a=a:=by
 obtain ⟨n,l,x,y,v,s⟩:=a;obtain ⟨h1,h2,h3,h4⟩:=h;simp only at h1 h2 h3 h4;unfold Wt.join wt0 jv js;simp only [QM,Nat.zero_mod,QK,qQ,xI h3,xI h4,Wt.mk.injEq,if_true,and_true,true_and,Nat.add_zero];by_cases h:l=0
 ·rw [if_pos h,h2 h]
 ·rw [if_neg h]
theorem JA {b:Nat} (hb:b<256):(Wt.letter b).Wf:=by
 unfold Wt.letter;split
 ·exact ⟨by simp,by simp,by simp only [PP];omega,by simp only [PP];omega⟩
 ·exact ⟨by simp,by simp,by simp only [PP];omega,by simp only [PP];omega⟩
theorem Yg (l:List Nat) (b:Nat):wtL (l++[b])=(wtL l).join (Wt.letter b):=by
 unfold wtL;rw [List.foldl_append];rfl
theorem wtL_wf:∀ (r:List Nat),(∀ b∈r,b<256)->(wtL r.reverse).Wf
 |[],_=>wt0_wf
 |b::r,h=>by
  rw [ke,Yg];exact wt_join_wf (wtL_wf r fun c hc=>h c (by simp [hc])) (JA (h b (by simp)))
theorem wtL_wf' {l:List Nat} (h:∀ b∈l,b<256):(wtL l).Wf:=by
 have:=wtL_wf l.reverse fun b hb=>h b (by simpa using hb)
 rwa [List.reverse_reverse] at this
theorem K0 (a:List Nat) (ha:∀ b∈a,b<256):∀ (r:List Nat),wtL (a++r.reverse)=(wtL a).join (wtL r.reverse)
 |[]=>by
  rw [List.reverse_nil,qO];exact (wt_join_0 (wtL_wf' ha)).symm
 |b::r=>by
  rw [ke,← zQ,Yg,Yg,K0 a ha r,wt_assoc]
theorem J4 {a:List Nat} (ha:∀ b∈a,b<256) (b:List Nat):wtL (a++b)=(wtL a).join (wtL b):=by
 have:=K0 a ha b.reverse;rwa [List.reverse_reverse] at this
theorem wtL_one {b:Nat} (hb:b<256):wtL [b]=Wt.letter b:=by
 have:=Yg [] b;rw [zv] at this;rw [this];exact wt_0_join (JA hb)
def dP (rv rs v s:Nat):Nat->Nat×Nat
 |0=>(rv,rs)
 |k+1=>(jv (dP rv rs v s k).1 v s,js (dP rv rs v s k).2 s)
theorem Va (rv rs v s:Nat):∀ k,dP (jv rv v s) (js rs s) v s k=dP rv rs v s (k+1)
 |0=>rfl
 |k+1=>by
  rw [dP,Va rv rs v s k];rfl
theorem dP_two (rv rs v s:Nat):∀ m,dP rv rs (jv v v s) (js s s) m=dP rv rs v s (2*m)
 |0=>rfl
 |m+1=>by
  rw [dP,dP_two rv rs v s m,show 2*(m+1)=2*m+1+1 from by omega,dP,dP,Vt,Vs]
theorem dloop_P:∀ (k rv rs v s:Nat),j7 rv rs v s k=dP rv rs v s k:=by
 intro k;induction k using yJ with
 |_ k ih =>
  intro rv rs v s
  match k with
  |0=>rw [j7];rfl
  |k+1 =>
   rw [j7];split
   ·rw [ih _ (by omega),dP_two,Va];congr 1
    omega
   ·rw [ih _ (by omega),dP_two];congr 1
    omega
def wP (x:Wt):Nat->Wt
 |0=>wt0
 |k+1=>(wP x k).join x
theorem wP_dP (x:Wt):∀ k,((wP x k).val,(wP x k).scale)=dP 0 1 x.val x.scale k
 |0=>rfl
 |k+1=>by
  rw [dP,← wP_dP x k];rfl
theorem wP_len (x:Wt):∀ k,(wP x k).len=x.len*k∧(wP x k).lines=x.lines*k
 |0=>⟨rfl,rfl⟩
 |k+1=>by
  obtain ⟨h1,h2⟩:=wP_len x k;simp only [wP,Wt.join,h1,h2];exact ⟨(Nat.mul_succ _ _).symm,(Nat.mul_succ _ _).symm⟩
theorem wP_head {x:Wt} (hx:x.Wf):∀ k,(wP x (k+1)).head=(if x.lines=0 then x.len*(k+1) else x.head)∧(wP x (k+1)).tail=(if x.lines=0 then x.len*(k+1) else x.tail)
 |0=>by
  simp only [wP,Wt.join,wt0];by_cases h:x.lines=0
  ·simp [h,hx.head h]
  ·simp [h]
 |k+1=>by
  obtain ⟨h1,h2⟩:=wP_head hx k;obtain ⟨h3,h4⟩:=wP_len x (k+1);rw [wP];simp only [Wt.join,h1,h2,h3,h4];by_cases h:x.lines=0
  ·simp only [h,QM,if_true,hx.head h];exact ⟨(Nat.mul_succ _ _).symm,by rw [kf];exact (Nat.mul_succ _ _).symm⟩
  ·have:¬ x.lines*(k+1)=0:=by
    intro e;rcases Nat.mul_eq_zero.1 e with e|e
    ·exact h e
    ·omega
   simp only [h,this,if_false,true_and]
theorem wt_rep {x:Wt} (hx:x.Wf) {k:Nat} (hk:1<=k):x.rep k=wP x k:=by
 obtain ⟨k,rfl⟩:=zA (show k≠0 by omega);have h1:=wP_len x (k+1);have h2:=wP_head hx k;have h3:=wP_dP x (k+1);unfold Wt.rep;rw [dloop_P,← h3];generalize wP x (k+1)=y at h1 h2 ⊢;obtain ⟨n,l,a,b,v,s⟩:=y;simp only at h1 h2 ⊢;rw [h1.1,h1.2,h2.1,h2.2]
theorem wtL_rep {t:List Nat} (ht:∀ b∈t,b<256):∀ k,wtL (zd k t).flatten=wP (wtL t) k
 |0=>rfl
 |k+1=>by
  rw [xG,Xy,J4,wtL_rep ht k]
  ·simp [wP]
  ·intro b hb;obtain ⟨l,hl,hb⟩:=vc.1 hb;rw [(wq.1 hl).2] at hb;exact ht b hb
theorem wt_text {S:Sto} (hS:S.Ok):∀ (i:Nat) (x:En),S.list[i]?=some x->x.w=wtL (S.tr (i+1)).txt∧∀ b∈(S.tr (i+1)).txt,b<256:=by
 intro i;induction i using yJ with
 |_ i ih =>
  intro x hx;have hr:=xh hS hx;have he:=hS.ents i x hx;cases he with
  |letter b hb =>
   cases hr with
   |letter b' hb' hr hw ht =>
    have:b=b':=by simpa [xQ] using hr
    subst this;rw [ht];exact ⟨(wtL_one hb).symm,by simpa [Tr.txt] using hb⟩
   |pair l r y z hl hr hy hz he hw hs ht=>simp [xQ] at he
   |pow l k y hl hy hk he hw hs ht=>simp [xQ] at he
  |pair l r y z hl hr' hy hz hlen =>
   cases hr with
   |letter b' hb' hr hw ht=>simp [wk] at hr
   |pair l2 r2 y2 z2 hl2 hr2 hy2 hz2 he hw hs ht =>
    obtain ⟨rfl,rfl⟩:l=l2∧r=r2:=by simpa [wk] using he
    have h1:=ih l hl y hy;have h2:=ih r hr' z hz;rw [ht];simp only [Tr.txt];rw [J4 h1.2,← h1.1,← h2.1];refine ⟨rfl,fun b hb=>?_⟩;rcases zl.1 hb with hb|hb
    ·exact h1.2 b hb
    ·exact h2.2 b hb
   |pow l k y hl hy hk he hw hs ht=>simp [wk] at he
  |power l k y hl hy hk hlen =>
   cases hr with
   |letter b' hb' hr hw ht=>simp [x8] at hr
   |pair l2 r2 y2 z2 hl2 hr2 hy2 hz2 he hw hs ht=>simp [x8] at he
   |pow l2 k2 y2 hl2 hy2 hk2 he hw hs ht =>
    obtain ⟨rfl,rfl⟩:l=l2∧k=k2:=by simpa [x8] using he
    have h1:=ih l hl y hy;rw [ht];simp only [Tr.txt];rw [wtL_rep h1.2,← h1.1,← wt_rep (by rw [h1.1];exact wtL_wf' h1.2) (by omega)];refine ⟨rfl,fun b hb=>?_⟩;obtain ⟨l,hl,hb⟩:=vc.1 hb;rw [(wq.1 hl).2] at hb;exact h1.2 b hb
theorem wt_same {S:Sto} (hS:S.Ok) {x y:Nat} {u v:En} (x1:1<=x) (y1:1<=y) (hx:Zs S x=some u) (hy:Zs S y=some v) (h:(S.tr x).txt=(S.tr y).txt):u.w=v.w:=by
 have h1:=Ki hx;have h2:=Ki hy;obtain ⟨i,rfl⟩:=zA (show x≠0 by omega);obtain ⟨j,rfl⟩:=zA (show y≠0 by omega);have e1:S.list[i]?=some u:=(by simpa [Zs] using hx);have e2:S.list[j]?=some v:=(by simpa [Zs] using hy);rw [(wt_text hS i u e1).1,(wt_text hS j v e2).1,h]
end
section
open Go.RowKit Go.Maps
attribute [local go_sem] qt yq
abbrev OfMPost (X1 X2:Px) (T:Tr) (x mk:Nat) (K:List (Nat×Nat)) (bm mp:Nat) (N:List Nat) (w:World) (e:Ending) (w':World):Prop :=
 ∃ (X':Px) (K':List (Nat×Nat)) (y:Nat),e=.returned (.tuple #[.int .i64 y,.nilIface])∧X2.Ext X'∧zK X'∧KnOk X'.S K'∧IdIs X'.S y (T.txt.map Tr.leaf)∧(∀ q∈K,q∈K')∧x∈kys K'∧X'.S.list.length+1200*vo 40 (kys K')<=X2.S.list.length+1200*vo 40 (kys K)+mk∧St w N [pA X',blk bm (.cells #[.pointer (some ⟨X1.p,0,none⟩),.map (some mp)] 138),zP zb 26 mp (K'.map zY)] w'
abbrev IsMPost (X1 X2:Px) (T:Tr) (x mk:Nat) (K:List (Nat×Nat)) (bm mp:Nat) (N:List Nat) (w:World) (e:Ending) (w':World):Prop :=
 ∃ (X':Px) (K':List (Nat×Nat)) (y:Nat),e=.returned (.tuple #[.bool (y==x),.nilIface])∧X2.Ext X'∧zK X'∧KnOk X'.S K'∧IdIs X'.S y (T.txt.map Tr.leaf)∧(∀ q∈K,q∈K')∧x∈kys K'∧X'.S.list.length+1200*vo 40 (kys K')<=X2.S.list.length+1200*vo 40 (kys K)+mk∧St w N [pA X',blk bm (.cells #[.pointer (some ⟨X1.p,0,none⟩),.map (some mp)] 138),zP zb 26 mp (K'.map zY)] w'
theorem ofM_c {X1 X2:Px} {bm mp x mk:Nat} {T:Tr} {K:List (Nat×Nat)} (hD:Den X2.S x T) (hT:T.len<=300) (hm:X1.S.most=1048576) (hE:X1.Ext X2) (hO:zK X2) (hK:KnOk X2.S K) (hroom:X2.S.list.length<=900000) (hmk:x<=40∨x∈kys K∨14788<=mk) (w:World) (h:((pA X2).sep ((blk bm (.cells #[.pointer (some ⟨X1.p,0,none⟩),.map (some mp)] 138)).sep (zP zb 26 mp (K.map zY)))).ho w) (hd:(((pA X2).sep ((blk bm (.cells #[.pointer (some ⟨X1.p,0,none⟩),.map (some mp)] 138)).sep (zP zb 26 mp (K.map zY)))).sep deA).ho w) :
  Calls zb 35 #[.pointer (some ⟨bm,0,none⟩),.int .i64 (x:Nat)] w (OfMPost X1 X2 T x mk K bm mp ((pA X2).sep ((blk bm (.cells #[.pointer (some ⟨X1.p,0,none⟩),.map (some mp)] 138)).sep (zP zb 26 mp (K.map zY)))).fp w):=by
 obtain ⟨i,en,hi,hx,hte⟩:=xZ hD;have hp2:T.Pow2:=(by rw [← hte];exact (j1 hO.ok i en hx).2);have hc:=W7 hp2 hT;have hmm:=hE.le.1;have htr:X2.S.tr x=T:=hD.2.2;have hps:=JL hO.ok (Q:=kys K) hD.1 hD.2.1;rw [htr] at hps;rw [← hE.p] at h hd;by_cases h40:x<=40
 ·have:=of_g2 (X:=X2) (bm:=bm) (mp:=mp) (n0:=40) hO hD.1 hD.2.1 h40 hK (by rw [htr];exact hT) (by rw [htr];omega) (by omega) w h hd;rw [hE.p] at this;refine this.mono ?_;rintro e w' ⟨X',K',y,rfl,z1,z2,z3,z4,z5,z6,z7,z8,z9⟩;rw [htr] at z4;exact ⟨X',K',y,rfl,z1,z2,z3,z4,z5,z7,by omega,by rw [hE.p] at z9;exact z9⟩
 ·have:=of_g2 (X:=X2) (bm:=bm) (mp:=mp) (n0:=x) hO hD.1 hD.2.1 (zr _) hK (by rw [htr];exact hT) (by rw [htr];omega) (by omega) w h hd;rw [hE.p] at this;refine this.mono ?_;rintro e w' ⟨X',K',y,rfl,z1,z2,z3,z4,z5,z6,z7,z8,z9⟩;rw [htr] at z4;have hu:=unkN_mono (n:=40) (Wl z5);refine ⟨X',K',y,rfl,z1,z2,z3,z4,z5,z7,?_,by rw [hE.p] at z9;exact z9⟩;rcases hmk with q|q|q
  ·exact absurd q h40
  ·have:Pot X2.S (kys K) [x]=0:=by simp [Pot,Ky,q]
   omega
  ·omega
theorem isM_c {X1 X2:Px} {bm mp x mk:Nat} {T:Tr} {K:List (Nat×Nat)} (hD:Den X2.S x T) (hT:T.len<=300) (hm:X1.S.most=1048576) (hE:X1.Ext X2) (hO:zK X2) (hK:KnOk X2.S K) (hroom:X2.S.list.length<=900000) (hmk:x<=40∨x∈kys K∨14788<=mk) (w:World) (h:((pA X2).sep ((blk bm (.cells #[.pointer (some ⟨X1.p,0,none⟩),.map (some mp)] 138)).sep (zP zb 26 mp (K.map zY)))).ho w) (hd:(((pA X2).sep ((blk bm (.cells #[.pointer (some ⟨X1.p,0,none⟩),.map (some mp)] 138)).sep (zP zb 26 mp (K.map zY)))).sep deA).ho w) :
  Calls zb 41 #[.pointer (some ⟨bm,0,none⟩),.int .i64 (x:Nat)] w (IsMPost X1 X2 T x mk K bm mp ((pA X2).sep ((blk bm (.cells #[.pointer (some ⟨X1.p,0,none⟩),.map (some mp)] 138)).sep (zP zb 26 mp (K.map zY)))).fp w):=by
 have H:=((St.one h).sep.pick (A:=(blk bm (.cells #[.pointer (some ⟨X1.p,0,none⟩),.map (some mp)] 138)).sep (zP zb 26 mp (K.map zY))) pk).sep;have hd0:=hd;rw [qz] at hd;have HK:Ks w ((pA X2).sep ((blk bm (.cells #[.pointer (some ⟨X1.p,0,none⟩),.map (some mp)] 138)).sep (zP zb 26 mp (K.map zY)))).fp [deA]:=⟨by simpa using hd.2.1,by simpa using fun b hb hm=>hd.2.2 b hm hb⟩
 have HOF:=zh (fun w h hd=>ofM_c (bm:=bm) (mp:=mp) hD hT hm hE hO hK hroom hmk w h hd);generalize ((pA X2).sep ((blk bm (.cells #[.pointer (some ⟨X1.p,0,none⟩),.map (some mp)] 138)).sep (zP zb 26 mp (K.map zY)))).fp=N at H HK ⊢;clear hD hT hm hE hO hK hroom hmk h hd hd0;go_enter Tryz.func41,Tryz.ntmps41;go_wp2_with (first|refine sL ?_|(refine sS ?_;clear H;intros;rename_i H)|(go_at_call 35;with_reducible refine zm (HOF.out _ (St.join3 (H.pick3 (A:=pA X2) (B:=blk bm (.cells #[.pointer (some ⟨X1.p,0,none⟩),.map (some mp)] 138)) (C:=zP zb 26 mp (K.map zY)) pk pk pk)).ho9 ((St.join3 (H.pick3 (A:=pA X2) (B:=blk bm (.cells #[.pointer (some ⟨X1.p,0,none⟩),.map (some mp)] 138)) (C:=zP zb 26 mp (K.map zY)) pk pk pk)).sepK HK .here pk)) ?_;rintro e9 wc ⟨X3,K3,y3,rfl,z1,z2,z3,z4,z5,z6,z7,hb⟩;have HZ3:=zh (za z1 (za z2 (za z3 (za z4 (za z5 (za z6 z7))))));clear z1 z2 z3 z4 z5 z6 z7;replace H:=zn ((St.join3 (H.pick3 (A:=pA X2) (B:=blk bm (.cells #[.pointer (some ⟨X1.p,0,none⟩),.map (some mp)] 138)) (C:=zP zb 26 mp (K.map zY)) pk pk pk)).call hb);clear hb));go_ret2;obtain ⟨z1,z2,z3,z4,z5,z6,z7⟩:=HZ3.out;exact ⟨X3,K3,y3,by rw [show (y3==x)=((y3:Int)==(x:Int)) from by rw [Bool.eq_iff_iff];simp;omega];rfl,z1,z2,z3,z4,z5,z6,z7,H.picks (.cons pk (.cons pk (.cons pk .nil)))⟩
end
section
open Go.RowKit Go.Maps
attribute [local go_sem] qt yq
structure Rd (X1 X2:Px) (K2:List (Nat×Nat)) (x:Nat) (T:Tr) (t:List Nat):Prop where
 most:X1.S.most=1048576
 ok1:zK X1
 ext:X1.Ext X2
 ok:zK X2
 kn:KnOk X2.S K2
 acc:X2.S.list.length+1200*vo 40 (kys K2)<=800000
 den:Den X1.S x T
 txt:T.txt=t
 len:T.len<=300
 tl:t.length<=300
 tne:t≠[]
 bt:∀ b∈t,b<256
 x40:x<=40
structure Stp (X2 X:Px) (K2 K:List (Nat×Nat)) (mk:Nat):Prop where
 ext:X2.Ext X
 ok:zK X
 kn:KnOk X.S K
 inc:∀ q∈K2,q∈K
 acc:X.S.list.length+1200*vo 40 (kys K)<=X2.S.list.length+1200*vo 40 (kys K2)+mk
theorem Stp.trans {X2 X X':Px} {K2 K K':List (Nat×Nat)} {a b c:Nat} (h:Stp X2 X K2 K a) (e1:X.Ext X') (e2:zK X') (e3:KnOk X'.S K') (e4:∀ q∈K,q∈K') (e5:X'.S.list.length+1200*vo 40 (kys K')<=X.S.list.length+1200*vo 40 (kys K)+b) (hc:a+b<=c):Stp X2 X' K2 K' c :=
 ⟨h.ext.trans e1,e2,e3,fun q hq=>e4 q (h.inc q hq),by have:=h.acc;omega⟩
theorem Wi {S:Sto} {y:Nat} {t:List Nat} (h:IdIs S y (t.map Tr.leaf)) (ht:t≠[]):∃ T,Den S y T∧T.txt=t:=by
 rcases h with ⟨h,_⟩|⟨T,h1,h2,h3⟩
 ·cases t with
  |nil=>exact absurd rfl ht
  |cons a l=>simp at h
 ·refine ⟨T,h1,?_⟩;have h4:=XQ (t:=T) (by rw [h3];intro u hu;obtain ⟨b,_,rfl⟩:=qY.1 hu;exact ⟨b,rfl⟩);rw [h3] at h4;exact ((List.map_inj_right fun a b e=>by injection e).1 h4).symm
section
variable {X1 X2:Px} {bm mp x:Nat} {T:Tr} {t:List Nat} {K2:List (Nat×Nat)} {X:Px} {K:List (Nat×Nat)} {mk:Nat} (R:Rd X1 X2 K2 x T t)
include R
theorem Rd.at_ (q:Stp X2 X K2 K mk):Den X.S x T:=(R.den.le R.ok1.ok R.ext.le).le R.ok.ok q.ext.le
theorem Rd.low (q:Stp X2 X K2 K mk) (hm:mk<=20000):X.S.list.length<=900000:=by have:=q.acc;have:=R.acc;omega
theorem ofR_c (w:World) (h:((pA X2).sep ((blk bm (.cells #[.pointer (some ⟨X1.p,0,none⟩),.map (some mp)] 138)).sep (zP zb 26 mp (K2.map zY)))).ho w) (hd:(((pA X2).sep ((blk bm (.cells #[.pointer (some ⟨X1.p,0,none⟩),.map (some mp)] 138)).sep (zP zb 26 mp (K2.map zY)))).sep deA).ho w) :
  Calls zb 35 #[.pointer (some ⟨bm,0,none⟩),.int .i64 (x:Nat)] w fun e w'=>∃ (X':Px) (K':List (Nat×Nat)) (y:Nat),e=.returned (.tuple #[.int .i64 y,.nilIface])∧(Stp X2 X' K2 K' 0∧IdIs X'.S y (t.map Tr.leaf))∧St w ((pA X2).sep ((blk bm (.cells #[.pointer (some ⟨X1.p,0,none⟩),.map (some mp)] 138)).sep (zP zb 26 mp (K2.map zY)))).fp [pA X',blk bm (.cells #[.pointer (some ⟨X1.p,0,none⟩),.map (some mp)] 138),zP zb 26 mp (K'.map zY)] w':=by
 have s0:Stp X2 X2 K2 K2 0:=⟨.refl _,R.ok,R.kn,fun q h=>h,zr _⟩
 refine (ofM_c (bm:=bm) (mp:=mp) (mk:=0) (R.at_ s0) R.len R.most R.ext R.ok R.kn (R.low s0 (by omega)) (.inl R.x40) w h hd).mono ?_;rintro e w' ⟨X',K',y,rfl,z1,z2,z3,z4,z5,z6,z7,z8⟩;rw [R.txt] at z4;exact ⟨X',K',y,rfl,⟨s0.trans z1 z2 z3 z5 z7 (zr _),z4⟩,z8⟩
theorem poR_c {y g c:Nat} (q:Stp X2 X K2 K 0) (hy:IdIs X.S y (t.map Tr.leaf)) (hr:RowIn [(g,0,zU qN t)] qN 1 (.slice (some ⟨g,0,none⟩) t.length c) t) (w:World) (hd:((pA X).sep deA).ho w) (hp:((pA X).sep (qX [(g,0,zU qN t)])).ho w) :
  Calls zb 22 #[.pointer (some ⟨X1.p,0,none⟩),.slice (some ⟨g,0,none⟩) t.length c] w fun e w'=>∃ X':Px,e=.returned (.tuple #[.int .i64 y,.nilIface])∧(Stp X2 X' K2 K 600∧IdIs X'.S y (t.map Tr.leaf))∧St w (pA X).fp [pA X'] w':=by
 have hm:X.S.most=1048576:=(by rw [q.ext.le.1,R.ext.le.1,R.most]);have hl:=R.low q (by omega);have htl:=R.tl;have:=of_any q.ok hr R.bt (by omega) (by omega) w hd hp;rw [q.ext.p,R.ext.p] at this;refine this.mono ?_;rintro e w' ⟨X',id,rfl,z1,z2,z3,z4,z5⟩;have hid:=XG hy q.ok.ok z1.le z2.ok z3;subst hid;exact ⟨X',rfl,⟨q.trans (b:=600) z1 z2 (q.kn.le q.ok.ok z1.le) (fun _ h=>h) (by omega) (by omega),z3⟩,z5⟩
theorem oyR_c {y:Nat} (q:Stp X2 X K2 K 600) (hy:IdIs X.S y (t.map Tr.leaf)) (w:World) (h:((pA X).sep ((blk bm (.cells #[.pointer (some ⟨X1.p,0,none⟩),.map (some mp)] 138)).sep (zP zb 26 mp (K.map zY)))).ho w) (hd:(((pA X).sep ((blk bm (.cells #[.pointer (some ⟨X1.p,0,none⟩),.map (some mp)] 138)).sep (zP zb 26 mp (K.map zY)))).sep deA).ho w) :
  Calls zb 35 #[.pointer (some ⟨bm,0,none⟩),.int .i64 (y:Nat)] w fun e w'=>∃ (X':Px) (K':List (Nat×Nat)),e=.returned (.tuple #[.int .i64 y,.nilIface])∧(Stp X2 X' K2 K' 15388∧IdIs X'.S y (t.map Tr.leaf)∧y∈kys K')∧St w ((pA X).sep ((blk bm (.cells #[.pointer (some ⟨X1.p,0,none⟩),.map (some mp)] 138)).sep (zP zb 26 mp (K.map zY)))).fp [pA X',blk bm (.cells #[.pointer (some ⟨X1.p,0,none⟩),.map (some mp)] 138),zP zb 26 mp (K'.map zY)] w':=by
 obtain ⟨T3,hD,hT⟩:=Wi hy R.tne;have htl:=R.tl;refine (ofM_c (bm:=bm) (mp:=mp) (mk:=14788) hD (by rw [← Tr.txt_len,hT];exact htl) R.most (R.ext.trans q.ext) q.ok q.kn (R.low q (by omega)) (.inr (.inr (zr _))) w h hd).mono ?_;rintro e w' ⟨X',K',z,rfl,z1,z2,z3,z4,z5,z6,z7,z8⟩;rw [hT] at z4;have hid:=XG hy q.ok.ok z1.le z2.ok z4;subst hid;exact ⟨X',K',rfl,⟨q.trans z1 z2 z3 z5 z7 (by omega),z4,z6⟩,z8⟩
theorem ixR_c {y:Nat} (q:Stp X2 X K2 K 15388) (hy:IdIs X.S y (t.map Tr.leaf)) (hk:y∈kys K) (w:World) (h:((pA X).sep ((blk bm (.cells #[.pointer (some ⟨X1.p,0,none⟩),.map (some mp)] 138)).sep (zP zb 26 mp (K.map zY)))).ho w) (hd:(((pA X).sep ((blk bm (.cells #[.pointer (some ⟨X1.p,0,none⟩),.map (some mp)] 138)).sep (zP zb 26 mp (K.map zY)))).sep deA).ho w) :
  Calls zb 41 #[.pointer (some ⟨bm,0,none⟩),.int .i64 (x:Nat)] w fun e w'=>∃ (X':Px) (K':List (Nat×Nat)),e=.returned (.tuple #[.bool (y==x),.nilIface])∧(Stp X2 X' K2 K' 15388∧IdIs X'.S y (t.map Tr.leaf)∧y∈kys K')∧St w ((pA X).sep ((blk bm (.cells #[.pointer (some ⟨X1.p,0,none⟩),.map (some mp)] 138)).sep (zP zb 26 mp (K.map zY)))).fp [pA X',blk bm (.cells #[.pointer (some ⟨X1.p,0,none⟩),.map (some mp)] 138),zP zb 26 mp (K'.map zY)] w':=by
 refine (isM_c (bm:=bm) (mp:=mp) (mk:=0) (R.at_ q) R.len R.most (R.ext.trans q.ext) q.ok q.kn (R.low q (by omega)) (.inl R.x40) w h hd).mono ?_;rintro e w' ⟨X',K',z,rfl,z1,z2,z3,z4,z5,z6,z7,z8⟩;rw [R.txt] at z4;have hid:=XG hy q.ok.ok z1.le z2.ok z4;subst hid;exact ⟨X',K',rfl,⟨q.trans z1 z2 z3 z5 z7 (by omega),z4,Wl z5 _ hk⟩,z8⟩
theorem iyR_c {y:Nat} (q:Stp X2 X K2 K 15388) (hy:IdIs X.S y (t.map Tr.leaf)) (hk:y∈kys K) (w:World) (h:((pA X).sep ((blk bm (.cells #[.pointer (some ⟨X1.p,0,none⟩),.map (some mp)] 138)).sep (zP zb 26 mp (K.map zY)))).ho w) (hd:(((pA X).sep ((blk bm (.cells #[.pointer (some ⟨X1.p,0,none⟩),.map (some mp)] 138)).sep (zP zb 26 mp (K.map zY)))).sep deA).ho w) :
  Calls zb 41 #[.pointer (some ⟨bm,0,none⟩),.int .i64 (y:Nat)] w fun e w'=>∃ (X':Px) (K':List (Nat×Nat)),e=.returned (.tuple #[.bool true,.nilIface])∧(Stp X2 X' K2 K' 15388∧IdIs X'.S y (t.map Tr.leaf))∧St w ((pA X).sep ((blk bm (.cells #[.pointer (some ⟨X1.p,0,none⟩),.map (some mp)] 138)).sep (zP zb 26 mp (K.map zY)))).fp [pA X',blk bm (.cells #[.pointer (some ⟨X1.p,0,none⟩),.map (some mp)] 138),zP zb 26 mp (K'.map zY)] w':=by
 obtain ⟨T3,hD,hT⟩:=Wi hy R.tne;have htl:=R.tl;refine (isM_c (bm:=bm) (mp:=mp) (mk:=0) hD (by rw [← Tr.txt_len,hT];exact htl) R.most (R.ext.trans q.ext) q.ok q.kn (R.low q (by omega)) (.inr (.inl hk)) w h hd).mono ?_;rintro e w' ⟨X',K',z,rfl,z1,z2,z3,z4,z5,z6,z7,z8⟩;rw [hT] at z4;have hid:=XG hy q.ok.ok z1.le z2.ok z4;subst hid;exact ⟨X',K',by rw [beq_self_eq_true],⟨q.trans z1 z2 z3 z5 z7 (by omega),z4⟩,z8⟩
theorem wtR {y:Nat} (q:Stp X2 X K2 K mk) (hy:IdIs X.S y (t.map Tr.leaf)):∃ W:Wt,W.len=t.length∧(∀ w,(pA X).ho w->Calls zb 40 #[.pointer (some ⟨X1.s,0,none⟩),.int .i64 (x:Nat)] w fun e w'=>e=.returned (.tuple #[.agg (WtV W),.nilIface])∧St w [] [] w') ∧
  (∀ w,(pA X).ho w->Calls zb 40 #[.pointer (some ⟨X1.s,0,none⟩),.int .i64 (y:Nat)] w fun e w'=>e=.returned (.tuple #[.agg (WtV W),.nilIface])∧St w [] [] w'):=by
 obtain ⟨T3,hD3,hT3⟩:=Wi hy R.tne;have hD:=R.at_ q;obtain ⟨i,u,rfl,hu,hu2⟩:=xZ hD;obtain ⟨j,v,rfl,hv,hv2⟩:=xZ hD3;have e1:Zs X.S (i+1)=some u:=hu;have e2:Zs X.S (j+1)=some v:=hv;have hw:=wt_same q.ok.ok (by omega) (by omega) e1 e2 (by rw [hu2,hv2,hT3];exact R.txt);have hs:X.s=X1.s:=(by rw [q.ext.s,R.ext.s]);refine ⟨u.w,?_,fun w h=>?_,fun w h=>?_⟩
 ·rw [← (j1 q.ok.ok i u hu).1,hu2,← Tr.txt_len,R.txt]
 ·have:=km e1 w (jh h);rw [hs] at this;exact this
 ·have:=km e2 w (jh h);rw [hs,← hw] at this;exact this
end
end
section
open Go.RowKit Go.Maps
attribute [local go_sem] qt yq
theorem wt_neq_any {P:Program} {t td:TypeId} {f0 f1 f2 f3 f4 g0 g1:Field} (hu:P.underlying t=some (.struct #[f0,f1,f2,f3,f4])) (hp:P.stoodInHeld t=false) (hg:P.eqGuardType P.depth t=false)
  (n:((f0.name != "_")&&(f1.name != "_")&&(f2.name != "_")&&(f3.name != "_")&&(f4.name != "_"))=true) (o:f0.offset=0∧f1.offset=1∧f2.offset=2∧f3.offset=3∧f4.offset=4)
  (c:(xj P f0.type&&xj P f1.type&&xj P f2.type&&xj P f3.type)=true)
  (u0:P.underlying f0.type=some (.int .i64)) (u1:P.underlying f1.type=some (.int .i64)) (u2:P.underlying f2.type=some (.int .i64)) (u3:P.underlying f3.type=some (.int .i64)) (hd:f4.type=td)
  (hu2:P.underlying td=some (.struct #[g0,g1])) (hp2:P.stoodInHeld td=false) (n2:((g0.name != "_")&&(g1.name != "_"))=true) (o2:g0.offset=0∧g1.offset=1)
  (c2:(xj P g0.type&&xj P g1.type)=true) (v0:P.underlying g0.type=some (.int .u64)) (v1:P.underlying g1.type=some (.int .u64)) (a:Wt) (hpart:∀ w,(part td (WtV a) 4).run P w=.ok (.agg #[.int .u64 a.val,.int .u64 a.scale]) w) (x y:Operand) (w:World) :
  (do eqGuard .neq t x y (.agg (WtV a)) (.agg (WtV a));binOp .neq t (.agg (WtV a)) (.agg (WtV a)):Sem Value).run P w=.ok (.bool false) w:=by
 simp only [zu] at n c n2 c2;have q:=n2;have oo:=o2;have d2:=c2;obtain ⟨⟨⟨⟨n0,n1⟩,n2⟩,n3⟩,n4⟩:=n;obtain ⟨⟨⟨c0,c1⟩,c2⟩,c3⟩:=c;obtain ⟨o0,o1,o2,o3,o4⟩:=o;have hf:P.fieldsOf t=#[f0,f1,f2,f3,f4]:=(by simp [Program.fieldsOf,hu]);have hf2:P.fieldsOf td=#[g0,g1]:=(by simp [Program.fieldsOf,hu2]);have hn4:f4.name≠"_":=(by simpa using n4);rw [Sem.run_bind,run_eqGuard_agg w .neq t x y _ _ hg,Result.andThen_ok,run_neq_struct,run_equalIn_struct w 9999 t _ _ (by rw [hf];exact hu) hp,hf];show (Result.andThen ((Op.eqFields (9998+1) _ _ [f0,f1,f2,f3,f4]).run P w) _)=_
 rw [yC n0 c0 u0 (a:=a.len) (b:=a.len) (by rw [o0];rfl) (by rw [o0];rfl),yC n1 c1 u1 (a:=a.lines) (b:=a.lines) (by rw [o1];rfl) (by rw [o1];rfl),
  yC n2 c2 u2 (a:=a.head) (b:=a.head) (by rw [o2];rfl) (by rw [o2];rfl),yC n3 c3 u3 (a:=a.tail) (b:=a.tail) (by rw [o3];rfl) (by rw [o3];rfl)]
 simp only [if_true];unfold Op.eqFields;rw [if_pos hn4,hd,o4];simp only [Sem.run_bind,hpart,Result.andThen_ok];rw [run_equalIn_struct w 9998 td _ _ (by rw [hf2];exact hu2) hp2,hf2];show (Result.andThen (Result.andThen ((Op.eqFields (9997+1) _ _ [g0,g1]).run P w) _) _)=_
 rw [yC q.1 d2.1 v0 (a:=a.val) (b:=a.val) (by rw [oo.1];rfl) (by rw [oo.1];rfl),yC q.2 d2.2 v1 (a:=a.scale) (b:=a.scale) (by rw [oo.2];rfl) (by rw [oo.2];rfl)];simp [Op.eqFields,Result.andThen]
theorem wt_neq (a:Wt) (x y:Operand) (w:World):(do eqGuard .neq 78 x y (.agg (WtV a)) (.agg (WtV a));binOp .neq 78 (.agg (WtV a)) (.agg (WtV a)):Sem Value).run zb w=.ok (.bool false) w :=
 wt_neq_any (td:=76) Tryz.underlying78 (by kernel_rfl) (by kernel_rfl) (by kernel_rfl) ⟨rfl,rfl,rfl,rfl,rfl⟩ (by kernel_rfl) (by kernel_rfl) (by kernel_rfl) (by kernel_rfl) (by kernel_rfl) rfl xv (by kernel_rfl) (by kernel_rfl) ⟨rfl,rfl⟩ (by kernel_rfl) (by kernel_rfl) (by kernel_rfl) a
  (fun w=>Y9 (n:=2) (by kernel_rfl) (vs:=[.int .u64 a.val,.int .u64 a.scale]) rfl w) x y w
theorem isQNeq {P:Program} {ops:Array Oper} {C:World->Prop} {K:Act->Prop} {rest:List Oper} {a:Act} {dst:Option Tmp} {ty0:TypeId} {pos:String} {aft:Array Edge} {gd:Option (Nat×Bool)} {t t2:TypeId} {x y:Operand} (h:QtEql P ops C K ⟨dst,.binOp .neq t x y t2,ty0,pos,aft,gd⟩ t x y rest a):wpQuiet P ops C K (⟨dst,.binOp .neq t x y t2,ty0,pos,aft,gd⟩::rest) a:=h
theorem QtEql.wt {ops:Array Oper} {C:World->Prop} {K:Act->Prop} {rest:List Oper} {a:Act} {o1:Oper} {t2:TypeId} {x y:Operand} (hw:Region.wanted o1 (yielded ops a.tmps)=true) (ho:o1.op=.binOp .neq 78 x y t2) (r:Wt) (hx:a.eval x=.agg (WtV r)) (hy:a.eval y=.agg (WtV r))
  (h:wpQuiet zb ops C K rest (a.put o1.dst (.bool false))):QtEql zb ops C K o1 78 x y rest a :=
 wpQuiet_step fun _ hK=>by
  rw [if_pos hw];refine ⟨.bool false,fun w2 hw2=>?_,hK _ h⟩;unfold Oper.quietAt execOp;simp only [ho,hx,hy];have:=wt_neq r x y w2;rw [Sem.run_bind,this,Result.andThen_ok];exact ⟨rfl,rfl⟩
def OfLw (X1:Px) (w:World) (bm mp:Nat) (ai at_:Option Addr) (ci ct n:Nat) (ids:List Nat) (ts:List (List Nat)) (m:Nat) (v:Value) (wr:World):Prop :=
 ∃ (i:Nat) (X2:Px) (K2:List (Nat×Nat)),m=n-i∧i<=n∧v=.int .i64 i∧(X1.Ext X2∧zK X2∧KnOk X2.S K2∧X2.S.list.length+1200*vo 40 (kys K2)<=X1.S.list.length+1200*41+15388*i)∧St w [] [pA X2,blk bm (.cells #[.pointer (some ⟨X1.p,0,none⟩),.map (some mp)] 138),zP zb 26 mp (K2.map zY),zc qE 26 1 (.slice ai n ci) ids,zc xV 9 1 (.slice at_ n ct) ts] wr
theorem of_law {P:wi} {g:List Gz} {v1:Value} (r1:RowIn P Qf 5 v1 g) (hb:∀ q∈g,q.lt<256) (w:World) (hde:deA.ho w) (hp:(qX P).ho w) :
  Calls zb 8 #[v1] w fun e w'=>e=.returned (.bool true)∧St w [] [] w':=by
 have H:=St.nil w [];have HK:Ks w [] [deA,qX P]:=Ks.two hde hp;have HAL:Hid (∀ w,deA.ho w->Calls zb 31 #[] w fun e w'=>e=.returned (.bool true)∧St w [] [] w'):=zh fun w h=>alive_c w h
 have HST:Hid (∀ w,Calls zb 33 #[.int .i64 1048576] w (Kg 1048576 w)):=zh fun w=>start_c 1048576 (by decide) _ rfl w
 obtain ⟨n,hn⟩:∃ n,g.length=n:=⟨_,rfl⟩
 obtain ⟨ad1,c1,e1,_⟩:=r1.shape;rw [hn] at e1;subst e1;have HIN:Hid (RowIn P Qf 5 (.slice ad1 n c1) g∧g.length=n∧(∀ q∈g,q.lt<256)∧True):=zh ⟨r1,hn,hb,trivial⟩;clear r1 hb hn hde hp;rcases zW (decide ((40:Int)<(n:Int))) with e1|e1
 ·skip
  have e9:decide (40<n)=true:=(by simp at e1 ⊢;omega);go_enter Tryz.func8,Tryz.ntmps8;go_wp2_with (first|go_big_skip|(go_at_call 31;with_reducible refine zm (HAL.out _ (H.known HK pk)) ?_;rintro e9 wc ⟨rfl,hb⟩;replace H:=H.grew hb.below;clear hb));go_ret;exact ⟨rfl,H.nix⟩
 have e9:decide (40<n)=false:=(by simp at e1 ⊢;omega);have hz1:n<=40:=(by simp at e1;omega);have HTX:Hid (∀ w,(qX P).ho w->Calls zb 32 #[.slice ad1 n c1,.int .i64 300] w fun e w'=>∃ (v:Value) (ok:Bool) (ts:List (List Nat)),e=.returned (.tuple #[v,.bool ok])∧(ok=true->TxP g ts n)∧St w [] [zc xV 9 1 v ts] w'):=zh fun w h=>lw_text HIN.out.1 HIN.out.2.2.1 HIN.out.2.1 (by omega) w h
 have HAD:Hid (∀ (X0:Px) (ts:List (List Nat)),zK X0->X0.S=⟨1048576,[]⟩->TxP g ts n->∀ w,((pA X0).sep (qX P)).ho w->Calls zb 34 #[.pointer (some ⟨X0.s,0,none⟩),.slice ad1 n c1] w fun e w'=>∃ (X1:Px) (v':Value) (ids:List Nat),e=.returned (.tuple #[v',.bool true])∧X0.Ext X1∧zK X1∧IdsOk X1.S ids ts n∧X1.S.list.length<=X0.S.list.length+n∧St w (pA X0).fp [pA X1,zc qE 26 1 v' ids] w'):=zh fun X0 ts q1 q2 q3 w h=>lw_add HIN.out.1 HIN.out.2.2.1 HIN.out.2.1 (by omega) q1 q2 q3 w h
 go_enter Tryz.func8,Tryz.ntmps8;go_wp2_with (first|go_big_skip|(go_at_call 31;with_reducible refine zm (HAL.out _ (H.known HK pk)) ?_;rintro e9 wc ⟨rfl,hb⟩;replace H:=H.grew hb.below;clear hb));refine zm (HTX.out _ (H.known HK pk)) ?_;rintro e9 wc ⟨vt,ok,ts,rfl,hok,hb⟩;replace H:=zn (H.call0 hb);clear hb;cases ok
 ·clear hok;go_wp2_with (first|refine sL ?_|(refine sS ?_;clear H;intros;rename_i H));go_ret;exact ⟨rfl,H.picks .nil⟩
 have HTP:=zh (hok rfl);obtain ⟨at_,ct,e6,_⟩:=zE (H.get (A:=zc xV 9 1 vt ts) pk);rw [HTP.out.len] at e6;subst e6;clear hok;go_wp2_with (first|refine sL ?_|(refine sS ?_;clear H;intros;rename_i H)|(go_at_call 33;with_reducible refine zm (HST.out _) ?_;rintro e9 wc ⟨X0,bm,mp,rfl,y1,y2,hb⟩;have HX0:=zh (za y1 y2);clear y1 y2;replace H:=zn (H.call0 hb);clear hb)|(go_at_call 34;with_reducible refine zm (HAD.out X0 ts HX0.out.1 HX0.out.2 HTP.out _ (H.sepK HK pk pk)) ?_;rintro e9 wc ⟨X1,vi,ids,rfl,y1,y2,y3,y4,hb⟩;have HX1:=zh (za y1 (za y2 (za y3 y4)));clear y1 y2 y3 y4;replace H:=zn ((H.pick pk).call hb);clear hb));obtain ⟨ai,ci,e5,_⟩:=zE (H.get (A:=zc qE 26 1 vi ids) pk);rw [HX1.out.2.2.1.len] at e5;subst e5;have HLW:=zh (LwOk.of HTP.out HIN.out.2.1 hz1 HX0.out.2 HX1.out.1 HX1.out.2.1 HX1.out.2.2.1 HX1.out.2.2.2);have HPX:Hid (X1.p=X0.p∧X1.s=X0.s):=zh ⟨HX1.out.1.p,HX1.out.1.s⟩;rw [← HPX.out.1] at H ⊢;rw [← HPX.out.2];have H2:=H.picks (.cons (A:=pA X1) pk (.cons (A:=blk bm (.cells #[.pointer (some ⟨X1.p,0,none⟩),.map (some mp)] 138)) pk (.cons (A:=zP zb 26 mp (([]:List (Nat×Nat)).map zY)) pk (.cons (A:=zc qE 26 1 (.slice ai n ci) ids) pk (.cons (A:=zc xV 9 1 (.slice at_ n ct) ts) pk .nil)))));clear H;have H:=H2;clear H2;have hn40:n<=40:=hz1;clear e1 e9 HAL HST HTX HAD hz1;go_loopg [9] n (fun m v wr=>OfLw X1 w bm mp ai at_ ci ct n ids ts m v wr);case atStart=>exact ⟨0,X1,[],rfl,qy _,rfl,⟨.refl _,HLW.out.ok,fun q hq=>by simp at hq,by rw [unkN_nil];exact zr _⟩,H⟩
 case round =>
  clear H;obtain ⟨i,X2,K2,rfl,hin,rfl,hrel,H⟩:=hrel;have HRL:=zh hrel;clear hrel;by_cases hlt:i<n
  ·have d1:decide ((i:Int)<(n:Int))=true:=(by simp;omega);have d1n:decide (i<n)=true:=(by simp;omega);have hil:i<n:=hlt;obtain ⟨x,T,t,hx,ht,hD,hTt,hT3,hx40,htl,htne,htb⟩:=HLW.out.at_ i hlt;have HR:Hid (Rd X1 X2 K2 x T t):=zh ⟨HLW.out.most,HLW.out.ok,HRL.out.1,HRL.out.2.1,HRL.out.2.2.1,by have:=HRL.out.2.2.2;have:=HLW.out.len;omega,hD,hTt,hT3,htl,htne,htb,hx40⟩;have HT:Hid ((∀ b∈t,b<256)∧t.length<=300):=zh ⟨htb,htl⟩;have HO1:Hid (∀ w,((pA X2).sep ((blk bm (.cells #[.pointer (some ⟨X1.p,0,none⟩),.map (some mp)] 138)).sep (zP zb 26 mp (K2.map zY)))).ho w->(((pA X2).sep ((blk bm (.cells #[.pointer (some ⟨X1.p,0,none⟩),.map (some mp)] 138)).sep (zP zb 26 mp (K2.map zY)))).sep deA).ho w->Calls zb 35 #[.pointer (some ⟨bm,0,none⟩),.int .i64 (x:Nat)] w fun e w'=>∃ (X':Px) (K':List (Nat×Nat)) (y:Nat),e=.returned (.tuple #[.int .i64 y,.nilIface])∧(Stp X2 X' K2 K' 0∧IdIs X'.S y (t.map Tr.leaf))∧St w ((pA X2).sep ((blk bm (.cells #[.pointer (some ⟨X1.p,0,none⟩),.map (some mp)] 138)).sep (zP zb 26 mp (K2.map zY)))).fp [pA X',blk bm (.cells #[.pointer (some ⟨X1.p,0,none⟩),.map (some mp)] 138),zP zb 26 mp (K'.map zY)] w'):=zh fun w h hd=>ofR_c HR.out w h hd
   have HPO:Hid (∀ (X:Px) (K:List (Nat×Nat)) (y g c:Nat),Stp X2 X K2 K 0->IdIs X.S y (t.map Tr.leaf)->RowIn [(g,0,zU qN t)] qN 1 (.slice (some ⟨g,0,none⟩) t.length c) t->∀ w,((pA X).sep deA).ho w->((pA X).sep (qX [(g,0,zU qN t)])).ho w->Calls zb 22 #[.pointer (some ⟨X1.p,0,none⟩),.slice (some ⟨g,0,none⟩) t.length c] w fun e w'=>∃ X':Px,e=.returned (.tuple #[.int .i64 y,.nilIface])∧(Stp X2 X' K2 K 600∧IdIs X'.S y (t.map Tr.leaf))∧St w (pA X).fp [pA X'] w'):=zh fun X K y g c q1 q2 q3 w h1 h2=>poR_c HR.out q1 q2 q3 w h1 h2
   have HO2:Hid (∀ (X:Px) (K:List (Nat×Nat)) (y:Nat),Stp X2 X K2 K 600->IdIs X.S y (t.map Tr.leaf)->∀ w,((pA X).sep ((blk bm (.cells #[.pointer (some ⟨X1.p,0,none⟩),.map (some mp)] 138)).sep (zP zb 26 mp (K.map zY)))).ho w->(((pA X).sep ((blk bm (.cells #[.pointer (some ⟨X1.p,0,none⟩),.map (some mp)] 138)).sep (zP zb 26 mp (K.map zY)))).sep deA).ho w->Calls zb 35 #[.pointer (some ⟨bm,0,none⟩),.int .i64 (y:Nat)] w fun e w'=>∃ (X':Px) (K':List (Nat×Nat)),e=.returned (.tuple #[.int .i64 y,.nilIface])∧(Stp X2 X' K2 K' 15388∧IdIs X'.S y (t.map Tr.leaf)∧y∈kys K')∧St w ((pA X).sep ((blk bm (.cells #[.pointer (some ⟨X1.p,0,none⟩),.map (some mp)] 138)).sep (zP zb 26 mp (K.map zY)))).fp [pA X',blk bm (.cells #[.pointer (some ⟨X1.p,0,none⟩),.map (some mp)] 138),zP zb 26 mp (K'.map zY)] w'):=zh fun X K y q1 q2 w h hd=>oyR_c HR.out q1 q2 w h hd
   have HI1:Hid (∀ (X:Px) (K:List (Nat×Nat)) (y:Nat),Stp X2 X K2 K 15388->IdIs X.S y (t.map Tr.leaf)->y∈kys K->∀ w,((pA X).sep ((blk bm (.cells #[.pointer (some ⟨X1.p,0,none⟩),.map (some mp)] 138)).sep (zP zb 26 mp (K.map zY)))).ho w->(((pA X).sep ((blk bm (.cells #[.pointer (some ⟨X1.p,0,none⟩),.map (some mp)] 138)).sep (zP zb 26 mp (K.map zY)))).sep deA).ho w->Calls zb 41 #[.pointer (some ⟨bm,0,none⟩),.int .i64 (x:Nat)] w fun e w'=>∃ (X':Px) (K':List (Nat×Nat)),e=.returned (.tuple #[.bool (y==x),.nilIface])∧(Stp X2 X' K2 K' 15388∧IdIs X'.S y (t.map Tr.leaf)∧y∈kys K')∧St w ((pA X).sep ((blk bm (.cells #[.pointer (some ⟨X1.p,0,none⟩),.map (some mp)] 138)).sep (zP zb 26 mp (K.map zY)))).fp [pA X',blk bm (.cells #[.pointer (some ⟨X1.p,0,none⟩),.map (some mp)] 138),zP zb 26 mp (K'.map zY)] w'):=zh fun X K y q1 q2 q3 w h hd=>ixR_c HR.out q1 q2 q3 w h hd
   have HI2:Hid (∀ (X:Px) (K:List (Nat×Nat)) (y:Nat),Stp X2 X K2 K 15388->IdIs X.S y (t.map Tr.leaf)->y∈kys K->∀ w,((pA X).sep ((blk bm (.cells #[.pointer (some ⟨X1.p,0,none⟩),.map (some mp)] 138)).sep (zP zb 26 mp (K.map zY)))).ho w->(((pA X).sep ((blk bm (.cells #[.pointer (some ⟨X1.p,0,none⟩),.map (some mp)] 138)).sep (zP zb 26 mp (K.map zY)))).sep deA).ho w->Calls zb 41 #[.pointer (some ⟨bm,0,none⟩),.int .i64 (y:Nat)] w fun e w'=>∃ (X':Px) (K':List (Nat×Nat)),e=.returned (.tuple #[.bool true,.nilIface])∧(Stp X2 X' K2 K' 15388∧IdIs X'.S y (t.map Tr.leaf))∧St w ((pA X).sep ((blk bm (.cells #[.pointer (some ⟨X1.p,0,none⟩),.map (some mp)] 138)).sep (zP zb 26 mp (K.map zY)))).fp [pA X',blk bm (.cells #[.pointer (some ⟨X1.p,0,none⟩),.map (some mp)] 138),zP zb 26 mp (K'.map zY)] w'):=zh fun X K y q1 q2 q3 w h hd=>iyR_c HR.out q1 q2 q3 w h hd
   have HWT:=zh (fun (X:Px) (K:List (Nat×Nat)) (y:Nat) (q1:Stp X2 X K2 K 15388) (q2:IdIs X.S y (t.map Tr.leaf))=>wtR HR.out q1 q2);obtain ⟨gi,c5,e5,_⟩:=q8 (H.get (A:=zc qE 26 1 (.slice ai n ci) ids) pk) (by rw [HLW.out.il];omega);obtain ⟨gt,c6,e6,_⟩:=q8 (H.get (A:=zc xV 9 1 (.slice at_ n ct) ts) pk) (by rw [HTP.out.len];omega);rw [HLW.out.il] at e5;rw [HTP.out.len] at e6;injection e5 with e5 _ e5c
   injection e6 with e6 _ e6c
   subst e5 e6 e5c e6c;have HXC:Hid (∀ w,(zc qE 26 1 (.slice (some ⟨gi,0,none⟩) n ci) ids).ho w->w.cell? ⟨gi,i,none⟩=some (.int .i64 (x:Nat))):=zh fun w h=>by
    have:=qj h ya hx (j:=0) rfl;simpa using this
   have HTC:Hid (∀ w,(zc xV 9 1 (.slice (some ⟨gt,0,none⟩) n ct) ts).ho w->w.cell? ⟨gt,i,none⟩=some (.string (kw t))):=zh fun w h=>by
    have:=qj h ZG ht (j:=0) rfl;simpa using this
   have t5:((t.length:Int)==(t.length:Int))=true:=beq_self_eq_true _;have t6:((t.length:Int) != (t.length:Int))=false:=bne_self_eq_false _;clear hx ht hD hTt hT3 hx40 htl htne htb;go_wp2_with (first|refine sL ?_|(refine sS ?_;clear H;intros;rename_i H)|(go_at_call 35;with_reducible refine zm (HO1.out  _ (St.join3 (H.pick3 (A:=pA X2) (B:=blk bm (.cells #[.pointer (some ⟨X1.p,0,none⟩),.map (some mp)] 138)) (C:=zP zb 26 mp (K2.map zY)) pk pk pk)).ho9 ((St.join3 (H.pick3 (A:=pA X2) (B:=blk bm (.cells #[.pointer (some ⟨X1.p,0,none⟩),.map (some mp)] 138)) (C:=zP zb 26 mp (K2.map zY)) pk pk pk)).sepK HK .here pk)) ?_;rintro e9 wc ⟨X3,K3,y,rfl,z1,hb⟩;have HZ3:=zh z1;clear z1;replace H:=zn ((St.join3 (H.pick3 (A:=pA X2) (B:=blk bm (.cells #[.pointer (some ⟨X1.p,0,none⟩),.map (some mp)] 138)) (C:=zP zb 26 mp (K2.map zY)) pk pk pk)).call hb);clear hb)|((with_reducible refine isBytes ?_);refine AtBytes.go H rfl rfl t rfl HT.out.1 rfl (by have:=HT.out.2;unfold maxLen;omega) ?_;clear H;intro gb cb _ hrb H;have HRB:=zh hrb;clear hrb;simp only [Act.put,puA,puB,puC])|(go_at_call 22;with_reducible refine zm (HPO.out X3 K3 y gb cb HZ3.out.1 HZ3.out.2 HRB.out _ (H.sepK HK pk pk) (H.sepO pk pk)) ?_;rintro e9 wc ⟨X4,rfl,z1,hb⟩;have HZ4:=zh z1;clear z1;replace H:=zn ((H.pick pk).call hb);clear hb)|(go_at_call 35;with_reducible refine zm (HO2.out X4 K3 y HZ4.out.1 HZ4.out.2 _ (St.join3 (H.pick3 (A:=pA X4) (B:=blk bm (.cells #[.pointer (some ⟨X1.p,0,none⟩),.map (some mp)] 138)) (C:=zP zb 26 mp (K3.map zY)) pk pk pk)).ho9 ((St.join3 (H.pick3 (A:=pA X4) (B:=blk bm (.cells #[.pointer (some ⟨X1.p,0,none⟩),.map (some mp)] 138)) (C:=zP zb 26 mp (K3.map zY)) pk pk pk)).sepK HK .here pk)) ?_;rintro e9 wc ⟨X5,K5,rfl,z1,hb⟩;have HZ5:=zh z1;clear z1;replace H:=zn ((St.join3 (H.pick3 (A:=pA X4) (B:=blk bm (.cells #[.pointer (some ⟨X1.p,0,none⟩),.map (some mp)] 138)) (C:=zP zb 26 mp (K3.map zY)) pk pk pk)).call hb);clear hb)|(go_at_call 41;with_reducible refine zm (HI1.out X5 K5 y HZ5.out.1 HZ5.out.2.1 HZ5.out.2.2 _ (St.join3 (H.pick3 (A:=pA X5) (B:=blk bm (.cells #[.pointer (some ⟨X1.p,0,none⟩),.map (some mp)] 138)) (C:=zP zb 26 mp (K5.map zY)) pk pk pk)).ho9 ((St.join3 (H.pick3 (A:=pA X5) (B:=blk bm (.cells #[.pointer (some ⟨X1.p,0,none⟩),.map (some mp)] 138)) (C:=zP zb 26 mp (K5.map zY)) pk pk pk)).sepK HK .here pk)) ?_;rintro e9 wc ⟨X6,K6,rfl,z1,hb⟩;have HZ6:=zh z1;clear z1;replace H:=zn ((St.join3 (H.pick3 (A:=pA X5) (B:=blk bm (.cells #[.pointer (some ⟨X1.p,0,none⟩),.map (some mp)] 138)) (C:=zP zb 26 mp (K5.map zY)) pk pk pk)).call hb);clear hb;obtain ⟨bq,hbq⟩:∃ b,(y==x)=b:=⟨_,rfl⟩;rw [hbq];have d7:((x:Int)==(y:Int))=bq:=(by rw [← hbq,Bool.eq_iff_iff];simp;omega);have d8:(bq != bq)=false:=bne_self_eq_false _;have d9:(bq==bq)=true:=beq_self_eq_true _;clear hbq;have d5:((y:Int)==(y:Int))=true:=beq_self_eq_true _;have d6:((y:Int) != (y:Int))=false:=bne_self_eq_false _));refine zm (HI2.out X6 K6 y HZ6.out.1 HZ6.out.2.1 HZ6.out.2.2 _ (St.join3 (H.pick3 (A:=pA X6) (B:=blk bm (.cells #[.pointer (some ⟨X1.p,0,none⟩),.map (some mp)] 138)) (C:=zP zb 26 mp (K6.map zY)) pk pk pk)).ho9 ((St.join3 (H.pick3 (A:=pA X6) (B:=blk bm (.cells #[.pointer (some ⟨X1.p,0,none⟩),.map (some mp)] 138)) (C:=zP zb 26 mp (K6.map zY)) pk pk pk)).sepK HK .here pk)) ?_;rintro e9 wc ⟨X7,K7,rfl,z1,hb⟩;have HZ7:=zh z1;clear z1;replace H:=zn ((St.join3 (H.pick3 (A:=pA X6) (B:=blk bm (.cells #[.pointer (some ⟨X1.p,0,none⟩),.map (some mp)] 138)) (C:=zP zb 26 mp (K6.map zY)) pk pk pk)).call hb);clear hb;obtain ⟨⟨wl,w1,w2,w3,w4,w5⟩,hw1,hw2,hw3⟩:=HWT.out X7 K7 y HZ7.out.1 HZ7.out.2;simp only at hw1;subst hw1;have HW1:Hid (∀ w,(pA X7).ho w->Calls zb 40 #[.pointer (some ⟨X1.s,0,none⟩),.int .i64 (x:Nat)] w fun e w'=>e=.returned (.tuple #[.agg #[.int .i64 (t.length:Nat),.int .i64 w1,.int .i64 w2,.int .i64 w3,.int .u64 w4,.int .u64 w5],.nilIface])∧St w [] [] w'):=zh hw2;have HW2:Hid (∀ w,(pA X7).ho w->Calls zb 40 #[.pointer (some ⟨X1.s,0,none⟩),.int .i64 (y:Nat)] w fun e w'=>e=.returned (.tuple #[.agg #[.int .i64 (t.length:Nat),.int .i64 w1,.int .i64 w2,.int .i64 w3,.int .u64 w4,.int .u64 w5],.nilIface])∧St w [] [] w'):=zh hw3;clear hw2 hw3;go_wp2_with (first|refine sL ?_|(refine sS ?_;clear H;intros;rename_i H)|(first|(go_at_call 40;with_reducible refine zm (HW1.out _ (H.get pk)) ?_;rintro e9 wc ⟨rfl,hb⟩;replace H:=H.grew hb.below;clear hb)|(go_at_call 40;with_reducible refine zm (HW2.out _ (H.get pk)) ?_;rintro e9 wc ⟨rfl,hb⟩;replace H:=H.grew hb.below;clear hb)));refine zG H 21 [] [] (by kernel_rfl) (by kernel_rfl) ?_;apply Exists.intro;refine ⟨fun w1 hw1 HX=>?_,fun bs wr Hr=>?_⟩
   ·refine sG ?_;repeat (first|go_big_quiet_skip|refine sQ ?_|((with_reducible refine isQNeq ?_);refine QtEql.wt rfl rfl ⟨t.length,w1,w2,w3,w4,w5⟩ rfl rfl ?_;simp only [Act.put,puA,puB,puC])|go_big_quiet_step (fail))
    exact wpQuiet_nil rfl
   clear H;have H:=Hr;clear Hr;replace H:=sH H;refine sT ?_;go_wp2_with (first|refine sL ?_|(refine sS ?_;clear H;intros;rename_i H));go_roundg (n-(i+1));case measure=>omega
   case rel=>exact ⟨i+1,X7,K7,rfl,by omega,by go_num,⟨HRL.out.1.trans HZ7.out.1.ext,HZ7.out.1.ok,HZ7.out.1.kn,by have:=HZ7.out.1.acc;have:=HRL.out.2.2.2;omega⟩,H.picks (.cons pk (.cons pk (.cons pk (.cons pk (.cons pk .nil)))))⟩
  ·have d1:decide ((i:Int)<(n:Int))=false:=(by simp;omega);have d1n:decide (i<n)=false:=(by simp;omega);go_wp2_with (first|refine sL ?_|(refine sS ?_;clear H;intros;rename_i H));go_ret;exact ⟨rfl,H.picks .nil⟩
end
section
open Go.ChangeShapes Go.WideShapes Go.ChangeAt Go.RowKit Go.Deep
theorem ownK:ownKnob zb.godebug=none:=by kernel_rfl
theorem u8_wf {x:Int} (h:(Lit.int .u8 x).wf=true):∃ n:Nat,x=(n:Int)∧n<256:=by
 simp [Lit.wf,IntKind.min,IntKind.max,IntKind.signed,IntKind.bits] at h;exact ⟨x.toNat,by omega,by omega⟩
section
variable {H:Type} {enc:TypeId×Value->H} {w:World} {base:Nat} {spare:Nat->Bool} {held:Bool}
theorem open_row {α:Type} [Inhabited α] {ec:α->List Value} {k:Nat} (hk:∀ x,(ec x).length=k) (hk0:0<k) {t e:TypeId} (ht:zb.underlying t=some (.slice e)) (hc:zb.cellsOf e=k) (Ok:α->Prop)
  (el:∀ n cs y,cs.length=k->DataW.trod enc zb w base spare held n e cs=some y->∃ x,cs=ec x∧Ok x) {fuel:Nat} {cs:List Value} {x:DataW H×List MemPlace} (h:DataW.trod enc zb w base spare held fuel t cs=some x) :
  ∃ (v:Value) (xs:List α) (P:wi),cs=[v]∧RowIn P ec k v xs∧(qX P).ho w∧(∀ x∈xs,Ok x)∧∃ ad c,v=.slice ad xs.length c∧xs.length<=c:=by
 rcases open_slice ht h with ⟨hcs,_⟩|⟨a,len,cap,m,n,D,Pl,hcs,_,hl,hm,hmm,_,hx⟩
 ·exact ⟨_,[],[],hcs,RowIn.nil 0,YG w,by simp,_,_,rfl,zr _⟩
 ·have hml:len<=m:=(by rw [hmm];split <;> omega);rw [hc] at hx;by_cases h0:len=0
  ·subst h0;exact ⟨_,[],[],hcs,⟨some a,cap,rfl,by simp,fun h=>by simp at h⟩,YG w,by simp,_,_,rfl,qy _⟩
  obtain ⟨b,o,spot⟩:=a;have key:∀ i,i<len->∃ x:α,w.cells? base ((⟨b,o,spot⟩:Addr).add (i*k)) k=some (ec x)∧Ok x:=fun i hi=>by
   obtain ⟨cs',h1,h2⟩:=hx i (by omega);obtain ⟨x,rfl,hok⟩:=el _ _ _ (World.cells?_some h1).2.1 h2;exact ⟨x,h1,hok⟩
  obtain ⟨f,hf2⟩:=choose_lt (α:=α) key;have hcell:∀ i,i<len->∀ j u,(ec (f i))[j]?=some u->w.cell? (((⟨b,o,spot⟩:Addr).add (i*k)).add j)=some u:=fun i hi j u hj=>by
   have hj4:j<k:=(by have:=(xB.1 hj).1;rwa [hk] at this);have:=(World.cells?_some (hf2 i hi).1).2.2 j hj4;rw [this,hj]
  have hl4:0<(ec (f 0)).length:=(by rw [hk];omega);have hspot:spot=none:=by
   have:=World.cell?_spot (hcell 0 (by omega) 0 _ (zg hl4));simpa [Addr.add] using this
  subst hspot;have hadd:∀ i j,((⟨b,o,none⟩:Addr).add (i*k)).add j=⟨b,o+(i*k+j),none⟩:=fun i j=>by rw [Addr.add_mid,Addr.add_mid];congr 1;omega
  have hblk:b<w.heap.size:=by
   have:=block_lt_of_cell (hcell 0 (by omega) 0 _ (zg hl4));rw [hadd] at this;exact this
  unfold maxLen at hm;have hlen:((zk len).map f).length=len:=(by simp);refine ⟨_,(zk len).map f,[(b,o,zU ec ((zk len).map f))],hcs,⟨some ⟨b,o,none⟩,cap,by rw [hlen],by rw [hlen];unfold maxLen;omega,fun _=>⟨b,o,rfl,by simp⟩⟩,?_,?_,_,cap,by rw [hlen],by rw [hlen];exact hl⟩
  ·rw [kV];intro y hy;simp only [Zx] at hy;subst hy;refine ⟨hblk,fun jj u hj=>?_⟩;have hjl:=qI hj;rw [yW ec k hk,hlen] at hjl;have hi:jj/k<len:=(by rw [Nat.div_lt_iff_lt_mul hk0];exact hjl);have hjk:jj%k<k:=qM _ hk0;have hget:((zk len).map f)[jj/k]?=some (f (jj/k)):=(by rw [yf,List.getElem?_range hi];rfl);have hfl:=ZX ec k hk _ (jj/k) _ hget (jj%k) hjk;have hdm:jj/k*k+jj%k=jj:=(by have:=Nat.div_add_mod jj k;rw [xO] at this;exact this);rw [hdm,hj] at hfl;have:=hcell (jj/k) hi (jj%k) u hfl.symm;rw [hadd,hdm] at this;exact this
  ·intro y hy;obtain ⟨i,hi,rfl⟩:=qY.1 hy;exact (hf2 i (zJ.1 hi)).2
end
theorem gTab:zb.globalNamed "math/bits.deBruijn64tab"=some 0:=by kernel_rfl
theorem tTab:(zb.globals[0]?).map (·.type)=some 291:=by kernel_rfl
theorem tab_is {H:Type}:(Rows.laid_math_bits_deBruijn64tab:DataW H)=.agg (Lib.deBruijn64tab.map fun (n:Nat)=>.lit (.int .u8 n)):=rfl
theorem tab_of {W:World} (h:laidMetH zb [("math/bits.deBruijn64tab",Rows.laid_math_bits_deBruijn64tab)] W):deA.ho W:=by
  rw [deA_ho];rw [MakeChecks.laidMetH_plain _ _ _ (by kernel_rfl)] at h;obtain ⟨ps,⟨g0,t0,cs0,f0,p0,q0,hg0,ht0,hv0,hd0,_,_⟩,_,_⟩:=h;obtain rfl:=yk.inj (gTab.symm.trans hg0);obtain rfl:=yk.inj (tTab.symm.trans ht0);obtain ⟨xs,m1,hfu,hx1,hlen,hn3,hel⟩:=DataW.trod_array Tryz.underlying291 hd0;have c5:zb.cellsOf 5=1:=(by kernel_rfl);have key:∀ j,j<64->W.cell? ⟨0,j,none⟩=some (.int .u8 (Lib.deBruijn64tab.getD j 0:Nat)):=fun j hj=>by
    have h0:=hel j hj;rw [c5] at h0;obtain ⟨y,hy⟩:∃ y,xs[j]?=some y:=⟨xs[j]'(by omega),zg _⟩
    rw [hy] at h0;obtain ⟨k,e1,e2,_⟩:=DataW.trod_int Tryz.underlying5 h0;rw [tab_is] at hx1;simp only [Prod.mk.injEq,DataW.agg.injEq] at hx1;have e3:=congrArg (fun l:List (DataW Unit)=>l[j]?) hx1.1;simp only [yf,hy,Qb] at e3
    have hl : j < Lib.deBruijn64tab.length := by have : Lib.deBruijn64tab.length = 64 := by decide
                                                 omega
    rw [zg hl,Qb] at e3;have hk:k=(Lib.deBruijn64tab[j]:Nat):=by
      have:=yk.inj e3;rw [e2] at this;simp at this;exact this.symm
    have hcl:=World.var?_cell hg0 hv0 j;have e4:cs0.toList[j]?=some (.int .u8 k):=by
      have:=congrArg List.head? e1;rw [Nat.mul_one,List.head?_take,if_neg (by omega),List.head?_drop] at this;simpa using this
    rw [hcl,← Array.getElem?_toList,e4,hk];simp [List.getD,hl]
  have h64:Lib.deBruijn64tab.length=64:=(by decide);exact ⟨fun j hj=>key j (by omega),by have:=block_lt_of_cell (key 0 (by omega));exact this⟩
theorem door_met (os:Os) (args:Array Value):laidMetH zb [("math/bits.deBruijn64tab",Rows.laid_math_bits_deBruijn64tab)] ((World.doorLaid zb 400 os).forCall (fun _ _=>0) ⟨#[],args,[]⟩).memory :=
 laidMetH_of_parts3 (fuel:=80) (laidMet_of_run' 80 (by kernel_rfl) (by kernel_rfl)) (by kernel_rfl) (by kernel_rfl)
end
section
open Go.ChangeShapes Go.WideShapes Go.ChangeAt Go.RowKit Go.Deep
section
variable {H:Type} {enc:TypeId×Value->H} {w:World} {base:Nat} {spare:Nat->Bool} {held:Bool}
instance:Inhabited Gz:=⟨⟨0,0,0,0,0⟩⟩
theorem trod_rule {n:Nat} {cs:List Value} {y:DataW H×List MemPlace} (hl:cs.length=5) (h:DataW.trod enc zb w base spare held n 131 cs=some y):∃ q:Gz,cs=Qf q∧q.lt<256:=by
 obtain ⟨a0,a1,a2,a3,a4,rfl⟩:∃ a0 a1 a2 a3 a4,cs=[a0,a1,a2,a3,a4]:=by
  match cs,hl with
  |[a0,a1,a2,a3,a4],_=>exact ⟨a0,a1,a2,a3,a4,rfl⟩
 have c3:zb.cellsOf 3=1:=(by kernel_rfl);have c4:zb.cellsOf 5=1:=(by kernel_rfl);have c9:zb.cellsOf 26=1:=(by kernel_rfl);obtain ⟨xs,n2,_,rfl,hcl,hlen,hf⟩:=DataW.trod_struct Tryz.underlying131 h
 match xs,hlen with
 |[y0,y1,y2,y3,y4],_ =>
  have f0:DataW.trod enc zb w base spare held n2 3 [a0]=some y0:=by
   have:=hf 0 _ rfl;simpa [c3,c4,c9] using this
  have f1:DataW.trod enc zb w base spare held n2 5 [a1]=some y1:=by
   have:=hf 1 _ rfl;simpa [c3,c4,c9] using this
  have f2:DataW.trod enc zb w base spare held n2 26 [a2]=some y2:=by
   have:=hf 2 _ rfl;simpa [c3,c4,c9] using this
  have f3:DataW.trod enc zb w base spare held n2 26 [a3]=some y3:=by
   have:=hf 3 _ rfl;simpa [c3,c4,c9] using this
  have f4:DataW.trod enc zb w base spare held n2 3 [a4]=some y4:=by
   have:=hf 4 _ rfl;simpa [c3,c4,c9] using this
  obtain ⟨z0,e0,_,w0⟩:=DataW.trod_int Tryz.underlying3 f0;obtain ⟨z1,e1,_,w1⟩:=DataW.trod_int Tryz.underlying5 f1;obtain ⟨z2,e2,_,w2⟩:=DataW.trod_int Tryz.underlying26 f2;obtain ⟨z3,e3,_,w3⟩:=DataW.trod_int Tryz.underlying26 f3;obtain ⟨z4,e4,_,w4⟩:=DataW.trod_int Tryz.underlying3 f4;simp only [Zq.injEq,and_true] at e0 e1 e2 e3 e4;subst e0 e1 e2 e3 e4;obtain ⟨k,rfl,hk⟩:=u8_wf w1;exact ⟨⟨z0,k,z2,z3,z4⟩,rfl,hk⟩
theorem arg_rules {r:Reach} {b0:Nat} {v:Value} {d:DataW H} {p:List MemPlace} (hv:Value.okWide zb w r b0 54 v) (h:DataW.Trod enc zb w base spare held 54 v d p) :
  ∃ (g:List Gz) (P:wi),RowIn P Qf 5 v g∧(∀ q∈g,q.lt<256)∧(qX P).ho w:=by
 obtain ⟨a,n,c,rfl⟩:=okWide_slice Tryz.underlying54 hv;obtain ⟨fuel,hf⟩:=h;have c5:zb.cellsOf 131=5:=(by kernel_rfl);obtain ⟨v2,xs,P,e,h1,h2,h3,ad,c2,h4,h5⟩:=open_row (ec:=Qf) Yw (by omega) Tryz.underlying54 c5 (fun q=>q.lt<256) (fun n cs y hl hy=>trod_rule hl hy) hf;simp only [Value.cells,Zq.injEq,and_true] at e;first|subst e|(have e:=(Zq.inj e).1;subst e)
 exact ⟨xs,P,h1,h3,h2⟩
end
end
end Go.Proofs.YtgnppnokkdghcaaGreatDoor
