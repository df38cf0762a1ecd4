/-
  Part 10 of the texts behind the statements of this seat: walks and laws Gs, Ho, Gt, Hp, Hs, Ht, Hu, Dl, Hq. Conditions: as each states.
-/
import Derived.Test.YtgnppnokkdghcaaGreatDoorAk9
import Derived.ChangeOld
import Derived.Deep.Slices
import Derived.LaidMore
import Derived.Laws.Rows
import Derived.OpenShut
import Derived.ProofKit
import Derived.SevenTiedAt
import Derived.ShutString
import Derived.Stop.Joined
import Derived.Test.YtgnppnokkdghcaaGreatDoorCards
import Derived.Test.YtgnppnokkdghcaaGreatDoorTie
set_option linter.unusedSimpArgs false
set_option linter.unusedVariables false
set_option maxRecDepth 100000
set_option maxHeartbeats 80000000
open Array renaming any_eq_true'→wq,getElem?_eq_none→qz
open Bool renaming and_eq_true→zq,eq_false_or_eq_true→zG,false_eq_true→xH,or_eq_true→vN
open Go.Proofs.Tryz renaming func10→j4,ntmps10→jP,prog→z9
open Int renaming natCast_mul→XT
open List renaming all_eq_true→zF,append_nil→qO,cons→Zt,cons_append→zl,drop_succ_cons→wL,drop_zero→yx,ext_getElem?→Zz,flatMap_cons→zu,flatMap_nil→wR,getD_eq_getElem?_getD→jA,getElem?_append_left→qr,getElem?_eq_none→wY,getElem?_eq_some_iff→xA,getElem?_map→yj,getElem?_set_ne→j1,getElem?_set_self→km,length_append→zf,length_set→wl,map_cons→q7,map_nil→yh,map_replicate→Qd,mem_append→zk,mem_cons_self→zM,mem_map→qQ,mem_of_getElem?→zv,mem_range→zJ,mem_singleton→J3,nil_append→zr,range→zj,replicate→zc,replicate_succ→zR,sum_replicate_nat→Xz,take_zero→jB
open Nat renaming le_refl→zt,lt_or_ge→qY,lt_trichotomy→kX,mod_lt→qV,mul_comm→xq,not_lt_zero→jN,strongRecOn→x6,zero_add→qT,zero_le→qk
open Option renaming map_some→Qf,some→yn
namespace Go.Proofs.YtgnppnokkdghcaaGreatDoor
section
open Go.RowKit Go.Maps
attribute [local go_sem] qw yM
abbrev W0 (X:Px) (P:Sto->Nat->Prop) (M:List Nat) (w:World) (e:Ending) (w':World):Prop :=
 ∃ (X':Px) (id:Nat),e=.returned (.tuple #[.int .i64 id,.nilIface])∧X.Ext X'∧zL X'∧X'.S.list.length<=X.S.list.length+1∧P X'.S id∧St w M [pA X'] w'
theorem kb {X:Px} {f:FuncId} {args:Array Value} {t:Tr} {P:Sto->Nat->Prop} {M:List Nat} {w:World} (hr:X.S.list.length<X.S.most) (hP:∀ S id,Den S id t->P S id) (h:Calls z9 f args w (QL X t M w)):Calls z9 f args w (W0 X P M w):=by
 refine h.mono ?_;rintro e w' ⟨X',id,c,rfl,h1,h2,h3,h4,h5⟩;rcases h4 with ⟨rfl,h4⟩|⟨_,_,_,h4⟩
 ·exact ⟨X',id,rfl,h1,h2,h3,hP _ _ h4,h5⟩
 ·omega
def TxtIs (S:Sto) (id:Nat) (ts:List Nat):Prop:=(ts=[]∧id=0)∨∃ t,Den S id t∧t.txt=ts
theorem TxtIs.le {S S':Sto} {id:Nat} {ts:List Nat} (h:TxtIs S id ts) (hS:S.Ok) (hl:S.Le S'):TxtIs S' id ts:=by
 rcases h with h|⟨t,h1,h2⟩
 ·exact .inl h
 ·exact .inr ⟨t,h1.le hS hl,h2⟩
theorem al_canon:Canon (.pow (.leaf 97) 3)∧(Tr.pow (.leaf 97) 3).lay 0=[.leaf 97,.leaf 97,.leaf 97]:=by
 have h:=ZI (s:=[.leaf 97,.leaf 97,.leaf 97]) (m:=1) (t:=.pow (.leaf 97) 3) (fun t ht=>⟨97,by simpa using ht⟩) (by decide);exact ⟨h.1,h.2.1⟩
theorem al_rule {S:Sto} (hS:S.Ok) {x a c:Nat} (hx:IdIs S x ([97,97,97].map Tr.leaf)) (ha:Den S a (.leaf 97)) (hc:Den S c (.pair (.pair (.leaf 97) (.leaf 97)) (.leaf 97))):x≠c∧∃ i e,x=i+1∧S.list[i]?=some e∧e.r=⟨3,0,a,0,3⟩:=by
 rcases hx with ⟨h,_⟩|⟨T,h1,h2,h3⟩
 ·simp at h
 ·have hT:T=.pow (.leaf 97) 3:=Qs h2 al_canon.1 (h3.trans (by rw [al_canon.2];rfl));subst hT;refine ⟨fun e=>by subst e;exact absurd (h1.tr_inj hc) (by simp),?_⟩;obtain ⟨i,e,rfl,he,ht⟩:=wu h1;refine ⟨i,e,rfl,he,?_⟩;cases xv hS he with
  |letter b hb hr hw ht2=>rw [ht] at ht2;simp at ht2
  |pair l r y z hl hr hy hz hr2 hw hs ht2=>rw [ht] at ht2;simp at ht2
  |pow l k y hl hy hk hr hw hs ht2 =>
   rw [ht] at ht2;injection ht2 with q1 q2
   have hd:Den S (l+1) (.leaf 97):=⟨by omega,by have:=yF hy;omega,q1.symm⟩
   rw [hr,hd.id_inj hS ha,← q2]
theorem alive_c (w:World) (hde:deA.ho w):Calls z9 31 #[] w fun e w'=>e=.returned (.bool true)∧St w [] [] w':=by
 have H:=St.nil w [];have HK:Ks w [] [deA]:=Ks.one hde;clear hde;have HST:Hid (∀ w,Calls z9 33 #[.int .i64 100] w (Kb 100 w)):=zh fun w=>start_c 100 (by decide) _ rfl w
 go_enter Tryz.func31,Tryz.ntmps31;go_wp2_with (first|refine sL ?_|(refine sS ?_;clear H;intros;rename_i H)|(go_at_call 33;with_reducible refine zm (HST.out _) ?_;rintro e9 wc ⟨X,bm,mp,rfl,y1,y2,hb⟩;have HX:=zh (za y1 y2);clear y1 y2;replace H:=zn (H.call0 hb);clear hb));have HL1:Hid (∀ w,(pA X).ho w->Calls z9 42 #[.pointer (some ⟨X.s,0,none⟩),.int .u8 97] w (W0 X (fun S id=>Den S id (.leaf 97)) (pA X).fp w)):=zh fun w h=>kb (by rw [HX.out.2];simp) (fun S id h=>h) (Wo 97 (by decide) HX.out.1 w h)
 go_wp2_with (first|refine sL ?_|(refine sS ?_;clear H;intros;rename_i H)|(go_at_call 42;with_reducible refine zm (HL1.out _ (H.get pk)) ?_;rintro e9 wc ⟨X1,a1,rfl,y1,y2,y3,y4,hb⟩;have HX1:=zh (za y1 (za y2 (za y3 y4)));clear y1 y2 y3 y4;replace H:=zn ((H.pick pk).call hb);clear hb));have HY1:Hid (X1.s=X.s∧X1.p=X.p∧zL X1∧X1.S.most=100∧X1.S.list.length<=1∧Den X1.S a1 (.leaf 97)):=zh (by
  obtain ⟨h1,h2,h3,h4⟩:=HX1.out;have h5:=HX.out.2;rw [h5] at h3;exact ⟨h1.s,h1.p,h2,by rw [h1.le.1,h5],h3,h4⟩)
 clear HX HX1 HL1;have HL2:Hid (∀ w,(pA X1).ho w->Calls z9 43 #[.pointer (some ⟨X.s,0,none⟩),.int .i64 a1,.int .i64 a1] w (W0 X1 (fun S id=>Den S id (.pair (.leaf 97) (.leaf 97))) (pA X1).fp w)):=zh fun w h=>by
  obtain ⟨h1,h2,h3,h4,h5,h6⟩:=HY1.out;rw [← h1];exact kb (by omega) (fun S id h=>h) (Wx h6 h6 (by simp [Tr.len,yH]) h3 w h)
 go_wp2_with (first|refine sL ?_|(refine sS ?_;clear H;intros;rename_i H)|(go_at_call 43;with_reducible refine zm (HL2.out _ (H.get pk)) ?_;rintro e9 wc ⟨X2,a2,rfl,y1,y2,y3,y4,hb⟩;have HX2:=zh (za y1 (za y2 (za y3 y4)));clear y1 y2 y3 y4;replace H:=zn ((H.pick pk).call hb);clear hb));have HY2:Hid (X2.s=X.s∧X2.p=X.p∧zL X2∧X2.S.most=100∧X2.S.list.length<=2∧Den X2.S a1 (.leaf 97)∧Den X2.S a2 (.pair (.leaf 97) (.leaf 97))):=zh (by
  obtain ⟨h1,h2,h3,h4⟩:=HX2.out;obtain ⟨g1,g2,g3,g4,g5,g6⟩:=HY1.out;exact ⟨h1.s.trans g1,h1.p.trans g2,h2,by rw [h1.le.1,g4],by omega,g6.le g3.ok h1.le,h4⟩)
 clear HX2 HY1 HL2;have HL3:Hid (∀ w,(pA X2).ho w->Calls z9 43 #[.pointer (some ⟨X.s,0,none⟩),.int .i64 a2,.int .i64 a1] w (W0 X2 (fun S id=>Den S id (.pair (.pair (.leaf 97) (.leaf 97)) (.leaf 97))) (pA X2).fp w)):=zh fun w h=>by
  obtain ⟨h1,h2,h3,h4,h5,h6,h7⟩:=HY2.out;rw [← h1];exact kb (by omega) (fun S id h=>h) (Wx h7 h6 (by simp [Tr.len,yH]) h3 w h)
 go_wp2_with (first|refine sL ?_|(refine sS ?_;clear H;intros;rename_i H)|(go_at_call 43;with_reducible refine zm (HL3.out _ (H.get pk)) ?_;rintro e9 wc ⟨X3,a3,rfl,y1,y2,y3,y4,hb⟩;have HX3:=zh (za y1 (za y2 (za y3 y4)));clear y1 y2 y3 y4;replace H:=zn ((H.pick pk).call hb);clear hb));have HY3:Hid (X3.s=X.s∧X3.p=X.p∧zL X3∧X3.S.most=100∧X3.S.list.length<=3∧Den X3.S a1 (.leaf 97)∧Den X3.S a3 (.pair (.pair (.leaf 97) (.leaf 97)) (.leaf 97))):=zh (by
  obtain ⟨h1,h2,h3,h4⟩:=HX3.out;obtain ⟨g1,g2,g3,g4,g5,g6,g7⟩:=HY2.out;exact ⟨h1.s.trans g1,h1.p.trans g2,h2,by rw [h1.le.1,g4],by omega,g6.le g3.ok h1.le,h4⟩)
 clear HX3 HY2 HL3;have HOF:Hid (∀ w,((pA X3).sep ((blk bm (.cells #[.pointer (some ⟨X.p,0,none⟩),.map (some mp)] 138)).sep (zK z9 26 mp (([]:List (Nat×Nat)).map zP)))).ho w->(((pA X3).sep ((blk bm (.cells #[.pointer (some ⟨X.p,0,none⟩),.map (some mp)] 138)).sep (zK z9 26 mp (([]:List (Nat×Nat)).map zP)))).sep deA).ho w->Calls z9 35 #[.pointer (some ⟨bm,0,none⟩),.int .i64 (a3:Nat)] w fun e w'=>∃ (X':Px) (K':List (Nat×Nat)) (y:Nat),e=.returned (.tuple #[.int .i64 y,.nilIface])∧X3.Ext X'∧zL X'∧KnOk X'.S K'∧IdIs X'.S y ([97,97,97].map Tr.leaf)∧X'.S.list.length<=X3.S.list.length+6∧St w ((pA X3).sep ((blk bm (.cells #[.pointer (some ⟨X.p,0,none⟩),.map (some mp)] 138)).sep (zK z9 26 mp (([]:List (Nat×Nat)).map zP)))).fp [pA X',blk bm (.cells #[.pointer (some ⟨X.p,0,none⟩),.map (some mp)] 138),zK z9 26 mp (K'.map zP)] w'):=zh fun w h hd=>by
  obtain ⟨h1,h2,h3,h4,h5,h6,h7⟩:=HY3.out;have ht:X3.S.tr a3=_:=h7.2.2;rw [← h2] at h hd;have:=of_c (X:=X3) (bm:=bm) (mp:=mp) (L9:=3) h3 h7.1 h7.2.1 (fun q hq=>by simp at hq) (by decide) (by rw [ht];decide) (by omega) (by omega) w h hd;rw [ht,h2] at this;exact this
 go_wp2_with (first|refine sL ?_|(refine sS ?_;clear H;intros;rename_i H)|(go_at_call 35;with_reducible refine zm (HOF.out _ ((St.join3 (H.pick3 (A:=pA X3) (B:=blk bm (.cells #[.pointer (some ⟨X.p,0,none⟩),.map (some mp)] 138)) (C:=zK z9 26 mp (([]:List (Nat×Nat)).map zP)) pk pk pk)).ho _ zM) ((St.join3 (H.pick3 (A:=pA X3) (B:=blk bm (.cells #[.pointer (some ⟨X.p,0,none⟩),.map (some mp)] 138)) (C:=zK z9 26 mp (([]:List (Nat×Nat)).map zP)) pk pk pk)).sepK HK .here pk)) ?_;rintro e9 wc ⟨X4,K4,y4,rfl,y1,y2,y3,y5,y6,hb⟩;have HZ:=zh (za y1 (za y2 (za y5 y6)));clear y1 y2 y3 y5 y6;replace H:=zn ((St.join3 (H.pick3 (A:=pA X3) (B:=blk bm (.cells #[.pointer (some ⟨X.p,0,none⟩),.map (some mp)] 138)) (C:=zK z9 26 mp (([]:List (Nat×Nat)).map zP)) pk pk pk)).call hb);clear hb));obtain ⟨hne,i4,en,hi4,hen,her⟩:=al_rule HZ.out.2.1.ok HZ.out.2.2.1 (HY3.out.2.2.2.2.2.1.le HY3.out.2.2.1.ok HZ.out.1.le) (HY3.out.2.2.2.2.2.2.le HY3.out.2.2.1.ok HZ.out.1.le);have HRU:Hid (∀ w,(pA X4).ho w->Calls z9 68 #[.pointer (some ⟨X.s,0,none⟩),.int .i64 y4] w fun e w'=>e=.returned (.tuple #[.agg #[.int .i64 3,.int .u8 0,.int .i64 a1,.int .i64 0,.int .i64 3],.nilIface])∧St w [] [] w'):=zh fun w h=>by
  have:=YL hen y4 (by omega) w (ke h);rw [her] at this;rw [← HY3.out.1,← HZ.out.1.s];exact this
 have d1:((y4:Int) != (a3:Int))=true:=(by simp;omega);clear HY3 HZ HOF hne hi4 hen her;go_wp2_with (first|refine sL ?_|(refine sS ?_;clear H;intros;rename_i H)|(go_at_call 68;with_reducible refine zm (HRU.out _ (H.get pk)) ?_;rintro e9 wc ⟨rfl,hb⟩;replace H:=H.grew hb.below;clear hb));go_ret;exact ⟨rfl,H.picks .nil⟩
end
section
open Go.RowKit Go.Maps
attribute [local go_sem] qw yM
def IdT (S:Sto) (id:Nat) (t:List Nat):Prop:=∃ T,Den S id T∧T.txt=t
theorem IdT.le {S S':Sto} {id:Nat} {t:List Nat} (h:IdT S id t) (hS:S.Ok) (hl:S.Le S'):IdT S' id t:=by
 obtain ⟨T,h1,h2⟩:=h;exact ⟨T,h1.le hS hl,h2⟩
theorem XG {S:Sto} {id:Nat} {t:List Nat} (h:IdT S id t):1<=id:=by
 obtain ⟨T,h1,_⟩:=h;exact h1.1
structure IdsOk (S:Sto) (ids:List Nat) (ts:List (List Nat)) (i:Nat):Prop where
 len:ids.length=i
 at_:∀ j t,j<i->ts[j]?=some t->∃ id,ids[j]?=some id∧IdT S id t
theorem IdsOk.step {S S':Sto} {ids:List Nat} {ts:List (List Nat)} {i id:Nat} {t:List Nat} (h:IdsOk S ids ts i) (hS:S.Ok) (hl:S.Le S') (ht:ts[i]?=some t) (hid:IdT S' id t):IdsOk S' (ids++[id]) ts (i+1):=by
 refine ⟨by simp [h.len],fun j u hj hu=>?_⟩;rcases qY j i with h1|h1
 ·obtain ⟨x,h2,h3⟩:=h.at_ j u h1 hu;exact ⟨x,by rw [qr (by rw [h.len];exact h1)];exact h2,h3.le hS hl⟩
 ·obtain rfl:j=i:=by omega
  rw [ht] at hu;injection hu with hu
  subst hu;exact ⟨id,by rw [← h.len];simp,hid⟩
def AdRel (X:Px) (ts:List (List Nat)) (N:List Nat) (w:World) (n m:Nat) (v6 v7:Value) (wr:World):Prop :=
 ∃ (i:Nat) (X2:Px) (ids:List Nat),m=n-i∧i<=n∧v7=.int .i64 i∧(IdsOk X2.S ids ts i∧X.Ext X2∧zL X2∧X2.S.list.length<=X.S.list.length+i)∧St w N [pA X2,zb zX 26 1 v6 ids] wr
attribute [local go_sem] StStep jh yJ in
theorem addL_c {P:we} {g:List Gz} {ts:List (List Nat)} {v:Value} {X:Px} (hr:RowIn P Qj 5 v g) (hT:TxP g ts g.length) (hb:∀ q∈g,q.lt<256) (hn40:g.length<=40) (hX:zL X) (hroom:X.S.list.length+40<X.S.most) (w:World) (h:((pA X).sep (y9 P)).ho w) :
  Calls z9 34 #[.pointer (some ⟨X.s,0,none⟩),v] w fun e w'=>∃ (X':Px) (v':Value) (ids:List Nat),e=.returned (.tuple #[v',.bool true])∧X.Ext X'∧zL X'∧IdsOk X'.S ids ts g.length∧X'.S.list.length<=X.S.list.length+g.length∧St w (pA X).fp [pA X',zb zX 26 1 v' ids] w':=by
 rw [qx] at h;obtain ⟨k1,k2,hdd⟩:=h;have H:=St.one k1;have HK:Ks w (pA X).fp [y9 P]:=⟨by simpa using k2,by simpa using fun b hb hm=>hdd b hm hb⟩
 generalize (pA X).fp=N at *;clear k1 k2 hdd;obtain ⟨n,hnn⟩:∃ n,g.length=n:=⟨_,rfl⟩
 obtain ⟨ad,c,rfl,hmx9⟩:=hr.shape;have HCL:Hid (∀ (i:Nat) (q:Gz),g[i]?=some q->∃ b o,ad=some ⟨b,o,none⟩∧∀ w,(y9 P).ho w->w.rangeAt b (o+i*5) [.int .i64 q.kd,.int .u8 q.lt,.int .i64 q.lf,.int .i64 q.rg,.int .i64 q.tm]):=zh fun i q hq=>by
  obtain ⟨ad',c',e1,_,h3⟩:=id hr;obtain ⟨b,o,rfl,_⟩:=h3 (by have:=yF hq;omega);injection e1 with e1 _ _
  subst e1;exact ⟨b,o,rfl,fun w h=>hr.rng h Yw hq⟩
 rw [hnn] at hn40 hT ⊢;have HIN:Hid (g.length=n∧n<=40∧(∀ q∈g,q.lt<256)∧TxP g ts n∧zL X∧X.S.list.length+40<X.S.most):=zh ⟨hnn,hn40,hb,hT,hX,hroom⟩;clear hr hnn hmx9 hb hT hX hroom;go_enter Tryz.func34,Tryz.ntmps34;go_wp2_with (first|refine sL ?_|(refine sS ?_;clear H;intros;rename_i H));go_loopg [6,7] n (fun m v6 v7 wr=>AdRel X ts N w n m v6 v7 wr);case atStart=>exact ⟨0,X,[],rfl,qk _,rfl,⟨⟨rfl,fun j t hj=>absurd hj (jN _)⟩,.refl _,HIN.out.2.2.2.2.1,zt _⟩,H.empty (A:=zb zX 26 1 (.slice none 0 0) []) (qp _) (by rw [qX];rfl) |>.picks (.cons (A:=pA X) pk (.cons (A:=zb zX 26 1 (.slice none 0 0) []) pk .nil))⟩
 case round =>
  clear H;obtain ⟨i,X2,ids,rfl,hik,rfl,hrel,H⟩:=hrel;have HRL:=zh hrel;obtain ⟨ad2,ci,rfl,_⟩:=zE (H.get (A:=zb zX 26 1 _ ids) pk);by_cases hlt:i<n
  ·obtain ⟨q9,hq⟩:∃ a,g[i]?=some a:=⟨_,zg (by rw [HIN.out.1];exact hlt)⟩
   obtain ⟨gb,o,rfl,hrng⟩:=HCL.out i q9 hq;have d90:decide ((i:Int)<(n:Int))=true:=(by simp;omega);have d90n:decide (i<n)=true:=(by simp;omega);have hil:i<n:=hlt;obtain ⟨t,hti,ht3,htne,htb,htr⟩:=HIN.out.2.2.2.1.at_ i q9 hlt hq;have hidl:ids.length<=40:=(by rw [hrel.1.len];omega);have HTT:=zh hti;have HRW:Hid (∀ (l a:Nat),ids[l]?=some a->∃ gi,ad2=some ⟨gi,0,none⟩∧∀ w,(zb zX 26 1 (.slice ad2 ids.length ci) ids).ho w->w.cell? ⟨gi,l,none⟩=some (.int .i64 (a:Nat))):=zh fun l a hl=>by
    obtain ⟨g2,c8,e1,_⟩:=zZ (H.get (A:=zb zX 26 1 (.slice ad2 ids.length ci) ids) pk) (by have:=yF hl;omega);injection e1 with e1 _ _
    refine ⟨g2,e1,fun w h=>?_⟩;rw [e1] at h;have:=zU h qy hl (j:=0) rfl;simpa using this
   have hroom2:X2.S.list.length<X2.S.most:=(by have:=hrel.2.1.le.1;have:=HIN.out;omega);have hltb:=HIN.out.2.2.1 q9 (zv hq);obtain ⟨kd,lt,lf,rg,tm⟩:=q9;have HC0:Hid (∀ w,(y9 P).ho w->w.cell? ⟨gb,o+i*5,none⟩=some (.int .i64 kd)):=zh fun w h=>by have:=hrng w h 0 (.int .i64 kd) rfl;simpa using this
   have HC1:Hid (∀ w,(y9 P).ho w->w.cell? ⟨gb,o+i*5+1,none⟩=some (.int .u8 lt)):=zh fun w h=>hrng w h 1 (.int .u8 lt) rfl
   have HC2:Hid (∀ w,(y9 P).ho w->w.cell? ⟨gb,o+i*5+2,none⟩=some (.int .i64 lf)):=zh fun w h=>hrng w h 2 (.int .i64 lf) rfl
   have HC3:Hid (∀ w,(y9 P).ho w->w.cell? ⟨gb,o+i*5+3,none⟩=some (.int .i64 rg)):=zh fun w h=>hrng w h 3 (.int .i64 rg) rfl
   have HC4:Hid (∀ w,(y9 P).ho w->w.cell? ⟨gb,o+i*5+4,none⟩=some (.int .i64 tm)):=zh fun w h=>hrng w h 4 (.int .i64 tm) rfl
   clear hrng hq hti;rcases htr with ⟨q1,q2,q3,q4,q5⟩|⟨l,q,ta,tb,q1,q2,q3,q4,q5,hl,hr,ha,hb,q6⟩|⟨l,k,ta,q1,q2,q3,q4,q5,hl,hk2,hk3,ha,q6⟩
   ·simp only at q1 q2 q3 q4 q5 hltb;subst q1;have HLE:Hid (∀ w,(pA X2).ho w->Calls z9 42 #[.pointer (some ⟨X.s,0,none⟩),.int .u8 lt] w (W0 X2 (fun S id=>IdT S id t) (pA X2).fp w)):=zh fun w h=>by
     have:=kb (P:=fun S id=>IdT S id t) hroom2 (fun S id h=>⟨_,h,by rw [q5];rfl⟩) (Wo lt hltb HRL.out.2.2.1 w h);rw [HRL.out.2.1.s] at this;exact this
    clear hrel q2 q3 q4 q5 hltb hroom2 ht3 htne htb;go_wp2_with (first|go_big_skip|refine sL ?_|(refine sS ?_;clear H;intros;rename_i H)|(go_at_call 42;with_reducible refine zm (HLE.out _ (H.get pk)) ?_;rintro e9 wc ⟨X5,id5,rfl,y1,y2,y3,y4,hb⟩;have HY:=zh (za y1 (za y2 (za y3 y4)));clear y1 y2 y3 y4;replace H:=zn ((H.pick pk).call hb);clear hb;have hge:1<=id5:=XG HY.out.2.2.2;have d50:decide ((id5:Int)<1)=false:=(by simp;omega);have d50n:decide (id5<1)=false:=(by simp;omega))|((with_reducible refine qR ?_);refine AtSlice.one H rfl rfl rfl rfl rfl rfl rfl rfl rfl ?_;clear H;intro b6 _ H;simp only [Act.put,puA,puB,puC])|((with_reducible refine qG ?_);refine AtAppend.go (enc:=zX) H rfl rfl rfl rfl rfl (by decide) (by decide) rfl (xs:=ids) pk rfl (H.at pk) [id5] rfl (by simp [zY,zX]) qy xO (by simp;omega) ?_;clear H;intro ad9 cp9 _ H;simp only [Act.put,puA,puB,puC]));have hge:1<=id5:=XG HY.out.2.2.2;have d50:decide ((id5:Int)<1)=false:=(by simp;omega)
    have d50n:decide (id5<1)=false:=(by simp;omega)
    go_wp2_with (first|go_big_skip|refine sL ?_|(refine sS ?_;clear H;intros;rename_i H)|((with_reducible refine qR ?_);refine AtSlice.one H rfl rfl rfl rfl rfl rfl rfl rfl rfl ?_;clear H;intro b6 _ H;simp only [Act.put,puA,puB,puC])|((with_reducible refine qG ?_);refine AtAppend.go (enc:=zX) H rfl rfl rfl rfl rfl (by decide) (by decide) rfl (xs:=ids) pk rfl (H.at pk) [id5] rfl (by simp [zY,zX]) qy xO (by simp;omega) ?_;clear H;intro ad9 cp9 _ H;simp only [Act.put,puA,puB,puC]));go_roundg (n-(i+1));case measure=>omega
    case rel =>
     have h1:=HRL.out;have h2:=HY.out;exact ⟨i+1,X5,ids++[id5],rfl,by omega,by go_num,⟨h1.1.step h1.2.2.1.ok h2.1.le HTT.out h2.2.2.2,h1.2.1.trans h2.1,h2.2.1,by omega⟩,H.picks (.cons pk (.cons pk .nil))⟩
   ·simp only at q1 q2 q3 q4 q5 hltb;subst q1;obtain ⟨xa,hxa,TA,hTA,hTa⟩:=HRL.out.1.at_ l ta hl ha;obtain ⟨gi,rfl,hca⟩:=HRW.out l xa hxa;have HIA:=zh hca;have hlts:l<ids.length:=yF hxa;obtain ⟨xb,hxb,TB,hTB,hTb⟩:=HRL.out.1.at_ q tb hr hb;obtain ⟨g3,e3,hcb⟩:=HRW.out q xb hxb;injection e3 with e3
    injection e3 with e3
    subst e3;have HIB:=zh hcb;have hrts:q<ids.length:=yF hxb;have HI1:Hid (lf-1=(l:Nat)):=zh (by omega);have HI2:Hid (rg-1=(q:Nat)):=zh (by omega);have HPR:Hid (∀ w,(pA X2).ho w->Calls z9 43 #[.pointer (some ⟨X.s,0,none⟩),.int .i64 (xa:Nat),.int .i64 (xb:Nat)] w (W0 X2 (fun S id=>IdT S id t) (pA X2).fp w)):=zh fun w h=>by
     have hl1:TA.len=ta.length:=(by rw [← Tr.txt_len,hTa]);have hl2:TB.len=tb.length:=(by rw [← Tr.txt_len,hTb]);have hl3:ta.length+tb.length<=300:=(by rw [q6,zf] at ht3;exact ht3);have:=kb (P:=fun S id=>IdT S id t) hroom2 (fun S id h=>⟨_,h,by rw [q6];simp only [Tr.txt];rw [hTa,hTb]⟩) (Wx hTA hTB (by simp only [yH];omega) HRL.out.2.2.1 w h);rw [HRL.out.2.1.s] at this;exact this
    have il1:-9223372036854775808<=lf-1∧lf-1<=9223372036854775807:=(by omega);have il2:-9223372036854775808<=rg-1∧rg-1<=9223372036854775807:=(by omega);clear hrel q2 q3 q4 q5 hltb hroom2 ht3 htne htb hca hcb hTA hTB hTa hTb hxa hxb ha hb q6 HRW hl hr;go_wp2_with (first|go_big_skip|refine sL ?_|(refine sS ?_;clear H;intros;rename_i H));replace H:St w N [pA X2,zb zX 26 1 (.slice (some ⟨gi,0,none⟩) ids.length ci) ids] _:=H.picks (.cons (A:=pA X2) pk (.cons (A:=zb zX 26 1 (.slice (some ⟨gi,0,none⟩) ids.length ci) ids) pk .nil));refine zN 25 [⟨[],fun v _=>v=.pointer (some ⟨X.s,0,none⟩)⟩,⟨[],fun v _=>v=.slice (some ⟨gi,0,none⟩) ids.length ci⟩,⟨[],fun v _=>v=.slice (some ⟨gb,o,none⟩) n c⟩,⟨[],fun v _=>v=.int .i64 i⟩,⟨[2,3],fun v _=>v=.pointer (some ⟨gb,o+i*5,none⟩)⟩,⟨[4],fun v _=>v=.pointer (some ⟨gb,o+i*5+2,none⟩)⟩,⟨[5],fun v _=>v=.int .i64 lf⟩,⟨[6],fun v _=>v=.int .i64 (l:Nat)⟩,⟨[1,7],fun v _=>v=.pointer (some ⟨gi,l,none⟩)⟩,⟨[8],fun v _=>v=.int .i64 (xa:Nat)⟩,⟨[],fun v _=>v=.slice (some ⟨gi,0,none⟩) ids.length ci⟩,⟨[],fun v _=>v=.slice (some ⟨gb,o,none⟩) n c⟩,⟨[],fun v _=>v=.int .i64 i⟩,⟨[11,12],fun v _=>v=.pointer (some ⟨gb,o+i*5,none⟩)⟩,⟨[13],fun v _=>v=.pointer (some ⟨gb,o+i*5+3,none⟩)⟩,⟨[14],fun v _=>v=.int .i64 rg⟩,⟨[15],fun v _=>v=.int .i64 (q:Nat)⟩,⟨[10,16],fun v _=>v=.pointer (some ⟨gi,q,none⟩)⟩,⟨[17],fun v _=>v=.int .i64 (xb:Nat)⟩,⟨[0,9,18],fun v _=>∃ id:Nat,v=.tuple #[.int .i64 id,.nilIface]⟩,⟨[19],fun v ds=>ds=[v]⟩,⟨[20],fun v ds=>∃ id:Nat,ds=[.tuple #[.int .i64 id,.nilIface]]∧v=.int .i64 id⟩,⟨[20],fun v ds=>∃ id:Nat,ds=[.tuple #[.int .i64 id,.nilIface]]∧v=.nilIface⟩,⟨[21],fun v ds=>ds=[v]⟩,⟨[22],fun v ds=>ds=[v]⟩] [19] [[0],[0],[0],[0],[0],[0],[0],[0],[0],[0],[0],[0],[0],[0],[0],[0],[0],[0],[0],[0],[1],[1],[1],[1],[1]] [fun _ wx=>St w N [pA X2,zb zX 26 1 (.slice (some ⟨gi,0,none⟩) ids.length ci) ids] wx,fun vals wx=>∃ (X5:Px) (id:Nat),vals 19=.tuple #[.int .i64 id,.nilIface]∧(X2.Ext X5∧zL X5∧X5.S.list.length<=X2.S.list.length+1∧IdT X5.S id t)∧St w N [pA X5,zb zX 26 1 (.slice (some ⟨gi,0,none⟩) ids.length ci) ids] wx]
     [[],[],[],[],[(2,57),(3,58)],[(4,59)],[(5,60)],[(6,61)],[(1,56),(7,62)],[(8,63)],[],[],[],[(11,66),(12,67)],[(13,68)],[(14,69)],[(15,70)],[(10,65),(16,71)],[(17,72)],[(0,55),(9,64),(18,73)],[(19,74)],[(20,54)],[(20,54)],[(21,75)],[(22,76)]] [(0,55),(1,56),(2,57),(3,58),(4,59),(5,60),(6,61),(7,62),(8,63),(9,64),(10,65),(11,66),(12,67),(13,68),(14,69),(15,70),(16,71),(17,72),(18,73),(19,74),(20,54),(21,75),(22,76),(23,8),(24,9)] (by kernel_rfl) (by kernel_rfl) H.drew ⟨⟨qo,trivial⟩,⟨qo,trivial⟩,⟨qo,trivial⟩,⟨qo,trivial⟩,⟨?_,trivial⟩,⟨qo,trivial⟩,⟨ql,trivial⟩,⟨?_,trivial⟩,⟨?_,trivial⟩,⟨ql,trivial⟩,⟨qo,trivial⟩,⟨qo,trivial⟩,⟨qo,trivial⟩,⟨?_,trivial⟩,⟨qo,trivial⟩,⟨ql,trivial⟩,⟨?_,trivial⟩,⟨?_,trivial⟩,⟨ql,trivial⟩,⟨?_,trivial⟩,⟨?_,trivial⟩,⟨?_,trivial⟩,⟨?_,trivial⟩,⟨?_,trivial⟩,⟨?_,trivial⟩,trivial⟩ ?_
    ·intro vals wx hd HC;simp only [GF] at hd;have H:=HC;simp only [CA] at H;simp only [PS,hd];go_simp;first|exact HC|exact ⟨rfl,HC⟩|(rw [if_pos hil];exact ⟨rfl,HC⟩)
    ·intro vals wx hd HC;simp only [GF] at hd;have H:=HC;simp only [CA] at H;simp only [PS,hd];go_simp;first|exact HC|exact ⟨rfl,HC⟩|exact ⟨HI1.out,HC⟩|(rw [HI1.out];exact ⟨IntWalk.i64_in _ (by omega),HC⟩)
    ·intro vals wx hd HC;simp only [GF] at hd;have H:=HC;simp only [CA] at H;simp only [PS,hd];go_simp;first|exact HC|exact ⟨rfl,HC⟩|(rw [if_pos hlts];exact ⟨rfl,HC⟩)
    ·intro vals wx hd HC;simp only [GF] at hd;have H:=HC;simp only [CA] at H;simp only [PS,hd];go_simp;first|exact HC|exact ⟨rfl,HC⟩|(rw [if_pos hil];exact ⟨rfl,HC⟩)
    ·intro vals wx hd HC;simp only [GF] at hd;have H:=HC;simp only [CA] at H;simp only [PS,hd];go_simp;first|exact HC|exact ⟨rfl,HC⟩|exact ⟨HI2.out,HC⟩|(rw [HI2.out];exact ⟨IntWalk.i64_in _ (by omega),HC⟩)
    ·intro vals wx hd HC;simp only [GF] at hd;have H:=HC;simp only [CA] at H;simp only [PS,hd];go_simp;first|exact HC|exact ⟨rfl,HC⟩|(rw [if_pos hrts];exact ⟨rfl,HC⟩)
    ·intro vals wx hd HC;simp only [GF] at hd;obtain ⟨h0,h9,h18⟩:=hd;have H:=HC;simp only [CA] at H;simp only [PS,h0,h9,h18];clear h0 h9 h18 HC;go_simp;with_reducible refine zm (HPR.out _ (H.get pk)) ?_
     rintro e wz ⟨X5,id5,rfl,y1,y2,y3,y4,hb⟩;have H2:=(H.pick pk).call hb;exact ⟨_,rfl,⟨_,rfl⟩,X5,id5,rfl,⟨y1,y2,y3,y4⟩,by simpa using H2⟩
    ·intro vals wx hd HC;simp only [GF] at hd;have h19:=hd;clear hd;have H:=HC;simp only [CA] at H;obtain ⟨X5,id5,hv19,hj5,H⟩:=H;simp only [PS];clear h19;go_simp;first|exact HC|exact ⟨rfl,HC⟩
    ·intro vals wx hd HC;simp only [GF] at hd;have h20:=hd;clear hd;have H:=HC;simp only [CA] at H;obtain ⟨X5,id5,hv19,hj5,H⟩:=H;simp only [PS];have e20:vals 20=.tuple #[.int .i64 id5,.nilIface]:=(by rw [← hv19];exact X8 (show [vals 19]=[vals 20] from h20));simp only [e20];clear h20;go_simp;first|exact ⟨⟨id5,by simp [e20],rfl⟩,HC⟩|exact ⟨⟨id5,rfl⟩,HC⟩|exact ⟨rfl,HC⟩|exact HC|exact ⟨⟨⟨id5,rfl⟩,rfl⟩,HC⟩|exact ⟨⟨id5,rfl,rfl⟩,HC⟩|fail "Z9"
    ·intro vals wx hd HC;simp only [GF] at hd;have h20:=hd;clear hd;have H:=HC;simp only [CA] at H;obtain ⟨X5,id5,hv19,hj5,H⟩:=H;simp only [PS];have e20:vals 20=.tuple #[.int .i64 id5,.nilIface]:=(by rw [← hv19];exact X8 (show [vals 19]=[vals 20] from h20));simp only [e20];clear h20;go_simp;first|exact ⟨⟨id5,by simp [e20],rfl⟩,HC⟩|exact ⟨⟨id5,rfl⟩,HC⟩|exact ⟨rfl,HC⟩|exact HC|exact ⟨⟨⟨id5,rfl⟩,rfl⟩,HC⟩|exact ⟨⟨id5,rfl,rfl⟩,HC⟩|fail "Z9"
    ·intro vals wx hd HC;simp only [GF] at hd;have h21:=hd;clear hd;have H:=HC;simp only [CA] at H;obtain ⟨X5,id5,hv19,hj5,H⟩:=H;simp only [PS];clear h21;go_simp;first|exact HC|exact ⟨rfl,HC⟩
    ·intro vals wx hd HC;simp only [GF] at hd;have h22:=hd;clear hd;have H:=HC;simp only [CA] at H;obtain ⟨X5,id5,hv19,hj5,H⟩:=H;simp only [PS];clear h22;go_simp;first|exact HC|exact ⟨rfl,HC⟩
    intro vals wx hd HC;have h19:=hd.2.2.2.2.2.2.2.2.2.2.2.2.2.2.2.2.2.2.2.1;have h20:=hd.2.2.2.2.2.2.2.2.2.2.2.2.2.2.2.2.2.2.2.2.1;have h21:=hd.2.2.2.2.2.2.2.2.2.2.2.2.2.2.2.2.2.2.2.2.2.1;have h22:=hd.2.2.2.2.2.2.2.2.2.2.2.2.2.2.2.2.2.2.2.2.2.2.1;have h23:=hd.2.2.2.2.2.2.2.2.2.2.2.2.2.2.2.2.2.2.2.2.2.2.2.1;have h24:=hd.2.2.2.2.2.2.2.2.2.2.2.2.2.2.2.2.2.2.2.2.2.2.2.2.1;simp only [CA] at HC;obtain ⟨X5,id5,hv19,hj5,H⟩:=HC;simp only [GF] at hd;simp only [PS,hd];clear hd;have e20:vals 20=.tuple #[.int .i64 id5,.nilIface]:=(by rw [← hv19];exact X8 (show [vals 19]=[vals 20] from h20));have e23:vals 23=.int .i64 id5:=by
     obtain ⟨q,q1,q2⟩:=(h21:∃ id:Nat,[vals 20]=[.tuple #[.int .i64 id,.nilIface]]∧vals 21=.int .i64 id)
     replace q1:[vals 20]=[Value.tuple #[.int .i64 q,.nilIface]]:=q1;rw [e20] at q1;simp only [Zt.injEq,and_true,Value.tuple.injEq,Array.mk.injEq,Value.int.injEq,true_and] at q1;rw [X8 (show [vals 21]=[vals 23] from h23),q2,q1]
    have e24:vals 24=.nilIface:=by
     obtain ⟨q,q1,q2⟩:=(h22:∃ id:Nat,[vals 20]=[.tuple #[.int .i64 id,.nilIface]]∧vals 22=.nilIface)
     rw [X8 (show [vals 22]=[vals 24] from h24),q2]
    simp only [hv19,e20,e23,e24];have HY:=zh hj5;clear hv19 e20 e23 e24 h19 h20 h21 h22 h23 h24 hj5;have hge:1<=id5:=XG HY.out.2.2.2;have d50:decide ((id5:Int)<1)=false:=(by simp;omega)
    have d50n:decide (id5<1)=false:=(by simp;omega)
    go_wp2_with (first|go_big_skip|refine sL ?_|(refine sS ?_;clear H;intros;rename_i H)|((with_reducible refine qR ?_);refine AtSlice.one H rfl rfl rfl rfl rfl rfl rfl rfl rfl ?_;clear H;intro b6 _ H;simp only [Act.put,puA,puB,puC])|((with_reducible refine qG ?_);refine AtAppend.go (enc:=zX) H rfl rfl rfl rfl rfl (by decide) (by decide) rfl (xs:=ids) pk rfl (H.at pk) [id5] rfl (by simp [zY,zX]) qy xO (by simp;omega) ?_;clear H;intro ad9 cp9 _ H;simp only [Act.put,puA,puB,puC]));go_roundg (n-(i+1));case measure=>omega
    case rel =>
     have h1:=HRL.out;have h2:=HY.out;exact ⟨i+1,X5,ids++[id5],rfl,by omega,by go_num,⟨h1.1.step h1.2.2.1.ok h2.1.le HTT.out h2.2.2.2,h1.2.1.trans h2.1,h2.2.1,by omega⟩,H.picks (.cons pk (.cons pk .nil))⟩
   ·simp only at q1 q2 q3 q4 q5 hltb;subst q1;obtain ⟨xa,hxa,TA,hTA,hTa⟩:=HRL.out.1.at_ l ta hl ha;obtain ⟨gi,rfl,hca⟩:=HRW.out l xa hxa;have HIA:=zh hca;have hlts:l<ids.length:=yF hxa;have HI1:Hid (lf-1=(l:Nat)):=zh (by omega);have HPW:Hid (∀ w,(pA X2).ho w->Calls z9 70 #[.pointer (some ⟨X.s,0,none⟩),.int .i64 (xa:Nat),.int .i64 tm] w (W0 X2 (fun S id=>IdT S id t) (pA X2).fp w)):=zh fun w h=>by
     have hl1:TA.len=ta.length:=(by rw [← Tr.txt_len,hTa]);have hl3:ta.length*k<=300:=(by rw [q6,List.length_flatten,Qd,Xz,xq] at ht3;exact ht3);have:=kb (P:=fun S id=>IdT S id t) hroom2 (fun S id h=>⟨_,h,by rw [q6];simp only [Tr.txt];rw [hTa]⟩) (XM (k:=k) hTA hk2 (by omega) (by simp only [yH];rw [hl1];omega) HRL.out.2.2.1 w h);rw [HRL.out.2.1.s,← q5] at this;exact this
    have il1:-9223372036854775808<=lf-1∧lf-1<=9223372036854775807:=(by omega);clear hrel q2 q3 q4 q5 hltb hroom2 ht3 htne htb hca hTA hTa hxa ha q6 HRW hl hk2 hk3;go_wp2_with (first|go_big_skip|refine sL ?_|(refine sS ?_;clear H;intros;rename_i H));replace H:St w N [pA X2,zb zX 26 1 (.slice (some ⟨gi,0,none⟩) ids.length ci) ids] _:=H.picks (.cons (A:=pA X2) pk (.cons (A:=zb zX 26 1 (.slice (some ⟨gi,0,none⟩) ids.length ci) ids) pk .nil));refine zN 21 [⟨[],fun v _=>v=.pointer (some ⟨X.s,0,none⟩)⟩,⟨[],fun v _=>v=.slice (some ⟨gi,0,none⟩) ids.length ci⟩,⟨[],fun v _=>v=.slice (some ⟨gb,o,none⟩) n c⟩,⟨[],fun v _=>v=.int .i64 i⟩,⟨[2,3],fun v _=>v=.pointer (some ⟨gb,o+i*5,none⟩)⟩,⟨[4],fun v _=>v=.pointer (some ⟨gb,o+i*5+2,none⟩)⟩,⟨[5],fun v _=>v=.int .i64 lf⟩,⟨[6],fun v _=>v=.int .i64 (l:Nat)⟩,⟨[1,7],fun v _=>v=.pointer (some ⟨gi,l,none⟩)⟩,⟨[8],fun v _=>v=.int .i64 (xa:Nat)⟩,⟨[],fun v _=>v=.slice (some ⟨gb,o,none⟩) n c⟩,⟨[],fun v _=>v=.int .i64 i⟩,⟨[10,11],fun v _=>v=.pointer (some ⟨gb,o+i*5,none⟩)⟩,⟨[12],fun v _=>v=.pointer (some ⟨gb,o+i*5+4,none⟩)⟩,⟨[13],fun v _=>v=.int .i64 tm⟩,⟨[0,9,14],fun v _=>∃ id:Nat,v=.tuple #[.int .i64 id,.nilIface]⟩,⟨[15],fun v ds=>ds=[v]⟩,⟨[16],fun v ds=>∃ id:Nat,ds=[.tuple #[.int .i64 id,.nilIface]]∧v=.int .i64 id⟩,⟨[16],fun v ds=>∃ id:Nat,ds=[.tuple #[.int .i64 id,.nilIface]]∧v=.nilIface⟩,⟨[17],fun v ds=>ds=[v]⟩,⟨[18],fun v ds=>ds=[v]⟩] [15] [[0],[0],[0],[0],[0],[0],[0],[0],[0],[0],[0],[0],[0],[0],[0],[0],[1],[1],[1],[1],[1]] [fun _ wx=>St w N [pA X2,zb zX 26 1 (.slice (some ⟨gi,0,none⟩) ids.length ci) ids] wx,fun vals wx=>∃ (X5:Px) (id:Nat),vals 15=.tuple #[.int .i64 id,.nilIface]∧(X2.Ext X5∧zL X5∧X5.S.list.length<=X2.S.list.length+1∧IdT X5.S id t)∧St w N [pA X5,zb zX 26 1 (.slice (some ⟨gi,0,none⟩) ids.length ci) ids] wx]
     [[],[],[],[],[(2,24),(3,25)],[(4,26)],[(5,27)],[(6,28)],[(1,23),(7,29)],[(8,30)],[],[],[(10,32),(11,33)],[(12,34)],[(13,35)],[(0,22),(9,31),(14,36)],[(15,37)],[(16,21)],[(16,21)],[(17,38)],[(18,39)]] [(0,22),(1,23),(2,24),(3,25),(4,26),(5,27),(6,28),(7,29),(8,30),(9,31),(10,32),(11,33),(12,34),(13,35),(14,36),(15,37),(16,21),(17,38),(18,39),(19,8),(20,9)] (by kernel_rfl) (by kernel_rfl) H.drew ⟨⟨qo,trivial⟩,⟨qo,trivial⟩,⟨qo,trivial⟩,⟨qo,trivial⟩,⟨?_,trivial⟩,⟨qo,trivial⟩,⟨ql,trivial⟩,⟨?_,trivial⟩,⟨?_,trivial⟩,⟨ql,trivial⟩,⟨qo,trivial⟩,⟨qo,trivial⟩,⟨?_,trivial⟩,⟨qo,trivial⟩,⟨ql,trivial⟩,⟨?_,trivial⟩,⟨?_,trivial⟩,⟨?_,trivial⟩,⟨?_,trivial⟩,⟨?_,trivial⟩,⟨?_,trivial⟩,trivial⟩ ?_
    ·intro vals wx hd HC;simp only [GF] at hd;have H:=HC;simp only [CA] at H;simp only [PS,hd];go_simp;first|exact HC|exact ⟨rfl,HC⟩|(rw [if_pos hil];exact ⟨rfl,HC⟩)
    ·intro vals wx hd HC;simp only [GF] at hd;have H:=HC;simp only [CA] at H;simp only [PS,hd];go_simp;first|exact HC|exact ⟨rfl,HC⟩|exact ⟨HI1.out,HC⟩|(rw [HI1.out];exact ⟨IntWalk.i64_in _ (by omega),HC⟩)
    ·intro vals wx hd HC;simp only [GF] at hd;have H:=HC;simp only [CA] at H;simp only [PS,hd];go_simp;first|exact HC|exact ⟨rfl,HC⟩|(rw [if_pos hlts];exact ⟨rfl,HC⟩)
    ·intro vals wx hd HC;simp only [GF] at hd;have H:=HC;simp only [CA] at H;simp only [PS,hd];go_simp;first|exact HC|exact ⟨rfl,HC⟩|(rw [if_pos hil];exact ⟨rfl,HC⟩)
    ·intro vals wx hd HC;simp only [GF] at hd;obtain ⟨h0,h9,h14⟩:=hd;have H:=HC;simp only [CA] at H;simp only [PS,h0,h9,h14];clear h0 h9 h14 HC;go_simp;with_reducible refine zm (HPW.out _ (H.get pk)) ?_
     rintro e wz ⟨X5,id5,rfl,y1,y2,y3,y4,hb⟩;have H2:=(H.pick pk).call hb;exact ⟨_,rfl,⟨_,rfl⟩,X5,id5,rfl,⟨y1,y2,y3,y4⟩,by simpa using H2⟩
    ·intro vals wx hd HC;simp only [GF] at hd;have h15:=hd;clear hd;have H:=HC;simp only [CA] at H;obtain ⟨X5,id5,hv15,hj5,H⟩:=H;simp only [PS];clear h15;go_simp;first|exact HC|exact ⟨rfl,HC⟩
    ·intro vals wx hd HC;simp only [GF] at hd;have h16:=hd;clear hd;have H:=HC;simp only [CA] at H;obtain ⟨X5,id5,hv15,hj5,H⟩:=H;simp only [PS];have e16:vals 16=.tuple #[.int .i64 id5,.nilIface]:=(by rw [← hv15];exact X8 (show [vals 15]=[vals 16] from h16));simp only [e16];clear h16;go_simp;first|exact ⟨⟨id5,by simp [e16],rfl⟩,HC⟩|exact ⟨⟨id5,rfl⟩,HC⟩|exact ⟨rfl,HC⟩|exact HC|exact ⟨⟨⟨id5,rfl⟩,rfl⟩,HC⟩|exact ⟨⟨id5,rfl,rfl⟩,HC⟩|fail "Z9"
    ·intro vals wx hd HC;simp only [GF] at hd;have h16:=hd;clear hd;have H:=HC;simp only [CA] at H;obtain ⟨X5,id5,hv15,hj5,H⟩:=H;simp only [PS];have e16:vals 16=.tuple #[.int .i64 id5,.nilIface]:=(by rw [← hv15];exact X8 (show [vals 15]=[vals 16] from h16));simp only [e16];clear h16;go_simp;first|exact ⟨⟨id5,by simp [e16],rfl⟩,HC⟩|exact ⟨⟨id5,rfl⟩,HC⟩|exact ⟨rfl,HC⟩|exact HC|exact ⟨⟨⟨id5,rfl⟩,rfl⟩,HC⟩|exact ⟨⟨id5,rfl,rfl⟩,HC⟩|fail "Z9"
    ·intro vals wx hd HC;simp only [GF] at hd;have h17:=hd;clear hd;have H:=HC;simp only [CA] at H;obtain ⟨X5,id5,hv15,hj5,H⟩:=H;simp only [PS];clear h17;go_simp;first|exact HC|exact ⟨rfl,HC⟩
    ·intro vals wx hd HC;simp only [GF] at hd;have h18:=hd;clear hd;have H:=HC;simp only [CA] at H;obtain ⟨X5,id5,hv15,hj5,H⟩:=H;simp only [PS];clear h18;go_simp;first|exact HC|exact ⟨rfl,HC⟩
    intro vals wx hd HC;have h15:=hd.2.2.2.2.2.2.2.2.2.2.2.2.2.2.2.1;have h16:=hd.2.2.2.2.2.2.2.2.2.2.2.2.2.2.2.2.1;have h17:=hd.2.2.2.2.2.2.2.2.2.2.2.2.2.2.2.2.2.1;have h18:=hd.2.2.2.2.2.2.2.2.2.2.2.2.2.2.2.2.2.2.1;have h19:=hd.2.2.2.2.2.2.2.2.2.2.2.2.2.2.2.2.2.2.2.1;have h20:=hd.2.2.2.2.2.2.2.2.2.2.2.2.2.2.2.2.2.2.2.2.1;simp only [CA] at HC;obtain ⟨X5,id5,hv15,hj5,H⟩:=HC;simp only [GF] at hd;simp only [PS,hd];clear hd;have e16:vals 16=.tuple #[.int .i64 id5,.nilIface]:=(by rw [← hv15];exact X8 (show [vals 15]=[vals 16] from h16));have e19:vals 19=.int .i64 id5:=by
     obtain ⟨q,q1,q2⟩:=(h17:∃ id:Nat,[vals 16]=[.tuple #[.int .i64 id,.nilIface]]∧vals 17=.int .i64 id)
     replace q1:[vals 16]=[Value.tuple #[.int .i64 q,.nilIface]]:=q1;rw [e16] at q1;simp only [Zt.injEq,and_true,Value.tuple.injEq,Array.mk.injEq,Value.int.injEq,true_and] at q1;rw [X8 (show [vals 17]=[vals 19] from h19),q2,q1]
    have e20:vals 20=.nilIface:=by
     obtain ⟨q,q1,q2⟩:=(h18:∃ id:Nat,[vals 16]=[.tuple #[.int .i64 id,.nilIface]]∧vals 18=.nilIface)
     rw [X8 (show [vals 18]=[vals 20] from h20),q2]
    simp only [hv15,e16,e19,e20];have HY:=zh hj5;clear hv15 e16 e19 e20 h15 h16 h17 h18 h19 h20 hj5;have hge:1<=id5:=XG HY.out.2.2.2;have d50:decide ((id5:Int)<1)=false:=(by simp;omega)
    have d50n:decide (id5<1)=false:=(by simp;omega)
    go_wp2_with (first|go_big_skip|refine sL ?_|(refine sS ?_;clear H;intros;rename_i H)|((with_reducible refine qR ?_);refine AtSlice.one H rfl rfl rfl rfl rfl rfl rfl rfl rfl ?_;clear H;intro b6 _ H;simp only [Act.put,puA,puB,puC])|((with_reducible refine qG ?_);refine AtAppend.go (enc:=zX) H rfl rfl rfl rfl rfl (by decide) (by decide) rfl (xs:=ids) pk rfl (H.at pk) [id5] rfl (by simp [zY,zX]) qy xO (by simp;omega) ?_;clear H;intro ad9 cp9 _ H;simp only [Act.put,puA,puB,puC]));go_roundg (n-(i+1));case measure=>omega
    case rel =>
     have h1:=HRL.out;have h2:=HY.out;exact ⟨i+1,X5,ids++[id5],rfl,by omega,by go_num,⟨h1.1.step h1.2.2.1.ok h2.1.le HTT.out h2.2.2.2,h1.2.1.trans h2.1,h2.2.1,by omega⟩,H.picks (.cons pk (.cons pk .nil))⟩
  ·have d90:decide ((i:Int)<(n:Int))=false:=(by simp;omega);have d90n:decide (i<n)=false:=(by simp;omega);have hin:n=i:=(by omega);subst hin;clear hrel;go_wp2_with (first|refine sL ?_|(refine sS ?_;clear H;intros;rename_i H));go_ret2;exact ⟨X2,_,ids,rfl,HRL.out.2.1,HRL.out.2.2.1,HRL.out.1,HRL.out.2.2.2,H.picks (.cons pk (.cons pk .nil))⟩
end
section
open Go.RowKit Go.Maps
attribute [local go_sem] qw yM
def RowT (S:Sto) (ids:List Nat) (ts:List Nat):Prop:=∃ us:List Tr,DenL S ids us∧(us.map Tr.txt).flatten=ts
theorem RowT.le {S S':Sto} {ids ts:List Nat} (h:RowT S ids ts) (hS:S.Ok) (hl:S.Le S'):RowT S' ids ts:=by
 obtain ⟨us,h1,h2⟩:=h;exact ⟨us,h1.le hS hl,h2⟩
theorem RowT.snoc {S:Sto} {ids ts:List Nat} {a b:Nat} (h:RowT S ids ts) (ha:Den S a (.leaf b)):RowT S (ids++[a]) (ts++[b]):=by
 obtain ⟨us,h1,h2⟩:=h;exact ⟨us++[.leaf b],h1.snoc ha,by simp [h2,Tr.txt]⟩
end
section
open Go.RowKit Go.Maps
attribute [local go_sem] qw yM
abbrev K6 (X1 X2:Px) (T:Tr) (x:Nat) (K:List (Nat×Nat)) (bm mp:Nat) (N:List Nat) (w:World) (e:Ending) (w':World):Prop :=
 ∃ (X':Px) (K':List (Nat×Nat)) (y:Nat),e=.returned (.tuple #[.int .i64 y,.nilIface])∧X2.Ext X'∧zL X'∧KnOk X'.S K'∧IdIs X'.S y (T.txt.map Tr.leaf)∧(∀ q∈K,q∈K')∧X'.S.list.length<=X2.S.list.length+14788∧(x<=40->X'.S.list.length+1200*kz 40 (kys K')<=X2.S.list.length+1200*kz 40 (kys K))∧St w N [pA X',blk bm (.cells #[.pointer (some ⟨X1.p,0,none⟩),.map (some mp)] 138),zK z9 26 mp (K'.map zP)] w'
theorem ofL_c {X1 X2:Px} {bm mp x:Nat} {T:Tr} {K:List (Nat×Nat)} (hD:Den X2.S x T) (hT:T.len<=300) (hm:X1.S.most=1048576) (hE:X1.Ext X2) (hO:zL X2) (hK:KnOk X2.S K) (hroom:X2.S.list.length<=900000) (w:World) (h:((pA X2).sep ((blk bm (.cells #[.pointer (some ⟨X1.p,0,none⟩),.map (some mp)] 138)).sep (zK z9 26 mp (K.map zP)))).ho w) (hd:(((pA X2).sep ((blk bm (.cells #[.pointer (some ⟨X1.p,0,none⟩),.map (some mp)] 138)).sep (zK z9 26 mp (K.map zP)))).sep deA).ho w) :
  Calls z9 35 #[.pointer (some ⟨bm,0,none⟩),.int .i64 (x:Nat)] w (K6 X1 X2 T x K bm mp ((pA X2).sep ((blk bm (.cells #[.pointer (some ⟨X1.p,0,none⟩),.map (some mp)] 138)).sep (zK z9 26 mp (K.map zP)))).fp w):=by
 obtain ⟨i,en,hi,hx,hte⟩:=wu hD;have hp2:T.Pow2:=(by rw [← hte];exact (ji hO.ok i en hx).2);have hc:=W8 hp2 hT;have hmm:=hE.le.1;have htr:X2.S.tr x=T:=hD.2.2;rw [← hE.p] at h hd;by_cases h40:x<=40
 ·have:=of_g (X:=X2) (bm:=bm) (mp:=mp) (n0:=40) hO hD.1 hD.2.1 h40 hK (by rw [htr];exact hT) (by rw [htr];omega) (by omega) w h hd;rw [hE.p] at this;refine this.mono ?_;rintro e w' ⟨X',K',y,rfl,z1,z2,z3,z4,z5,z6,z7,z8⟩;rw [htr] at z4 z6;exact ⟨X',K',y,rfl,z1,z2,z3,z4,z5,by omega,fun _=>z7,by rw [hE.p] at z8;exact z8⟩
 ·have:=of_g (X:=X2) (bm:=bm) (mp:=mp) (n0:=x) hO hD.1 hD.2.1 (zt _) hK (by rw [htr];exact hT) (by rw [htr];omega) (by omega) w h hd;rw [hE.p] at this;refine this.mono ?_;rintro e w' ⟨X',K',y,rfl,z1,z2,z3,z4,z5,z6,z7,z8⟩;rw [htr] at z4 z6;exact ⟨X',K',y,rfl,z1,z2,z3,z4,z5,by omega,fun q=>absurd q h40,by rw [hE.p] at z8;exact z8⟩
theorem St.ho9 {w0 w:World} {M:List Nat} {A:As} {L:List As} (h:St w0 M (A::L) w):A.ho w:=h.ho _ zM
structure LwOk (X1:Px) (ids:List Nat) (ts:List (List Nat)) (n:Nat):Prop where
 ok:zL X1
 most:X1.S.most=1048576
 len:X1.S.list.length<=40
 il:ids.length=n
 n40:n<=40
 at_:∀ j,j<n->∃ x T t,ids[j]?=some x∧ts[j]?=some t∧Den X1.S x T∧T.txt=t∧T.len<=300∧x<=40∧t.length<=300∧t≠[]∧∀ b∈t,b<256
theorem LwOk.of {X0 X1:Px} {g:List Gz} {ids:List Nat} {ts:List (List Nat)} {n:Nat} (hT:TxP g ts n) (hg:g.length=n) (hn:n<=40) (h0:X0.S=⟨1048576,[]⟩) (hE:X0.Ext X1) (hO:zL X1) (hI:IdsOk X1.S ids ts n) (hl:X1.S.list.length<=X0.S.list.length+n):LwOk X1 ids ts n:=by
 have hl0:X0.S.list.length=0:=(by rw [h0];rfl);have hm:X0.S.most=1048576:=(by rw [h0]);refine ⟨hO,hE.le.1.trans hm,by omega,hI.len,hn,fun j hj=>?_⟩;obtain ⟨t,h1,h2,h3,h4,_⟩:=hT.at_ j _ hj (zg (by omega));obtain ⟨x,hx,T,hD,hTt⟩:=hI.at_ j t hj h1;exact ⟨x,T,t,hx,h1,hD,hTt,by rw [← Tr.txt_len,hTt];exact h2,by have:=hD.2.1;omega,h2,h3,h4⟩
theorem unkN_nil:kz 40 (kys [])=41:=by decide +kernel
theorem lw_text {P:we} {g:List Gz} {v1:Value} {n:Nat} (r1:RowIn P Qj 5 v1 g) (hb:∀ q∈g,q.lt<256) (hn:g.length=n) (h40:n<=40) (w:World) (h:(y9 P).ho w):Calls z9 32 #[v1,.int .i64 300] w fun e w'=>∃ (v:Value) (ok:Bool) (ts:List (List Nat)),e=.returned (.tuple #[v,.bool ok])∧(ok=true->TxP g ts n)∧St w [] [zb yN 9 1 v ts] w':=by
 subst hn;exact texts_c r1 hb h40 w h
theorem lw_add {P:we} {g:List Gz} {ts:List (List Nat)} {v1:Value} {n:Nat} {X0:Px} (r1:RowIn P Qj 5 v1 g) (hb:∀ q∈g,q.lt<256) (hn:g.length=n) (h40:n<=40) (hX:zL X0) (h0:X0.S=⟨1048576,[]⟩) (hT:TxP g ts n) (w:World) (h:((pA X0).sep (y9 P)).ho w):Calls z9 34 #[.pointer (some ⟨X0.s,0,none⟩),v1] w fun e w'=>∃ (X1:Px) (v':Value) (ids:List Nat),e=.returned (.tuple #[v',.bool true])∧X0.Ext X1∧zL X1∧IdsOk X1.S ids ts n∧X1.S.list.length<=X0.S.list.length+n∧St w (pA X0).fp [pA X1,zb zX 26 1 v' ids] w':=by
 subst hn;exact addL_c r1 hT hb h40 hX (by rw [h0];simp) w h
end
section
open Go.RowKit Go.Maps
attribute [local go_sem] qw yM
structure OutOk (S:Sto) (out:List Nat) (ts:List (List Nat)) (i:Nat):Prop where
 len:out.length=i
 at_:∀ j t,j<i->ts[j]?=some t->∃ y,out[j]?=some y∧IdIs S y (t.map Tr.leaf)
theorem OutOk.le {S S':Sto} {out:List Nat} {ts:List (List Nat)} {i:Nat} (h:OutOk S out ts i) (hS:S.Ok) (hl:S.Le S'):OutOk S' out ts i :=
 ⟨h.len,fun j t hj ht=>by obtain ⟨y,h1,h2⟩:=h.at_ j t hj ht;exact ⟨y,h1,h2.le hS hl⟩⟩
theorem OutOk.step {S S':Sto} {out:List Nat} {ts:List (List Nat)} {i y:Nat} {t:List Nat} (h:OutOk S out ts i) (hS:S.Ok) (hl:S.Le S') (ht:ts[i]?=some t) (hy:IdIs S' y (t.map Tr.leaf)):OutOk S' (out++[y]) ts (i+1):=by
 refine ⟨by simp [h.len],fun j u hj hu=>?_⟩;rcases qY j i with h1|h1
 ·obtain ⟨x,h2,h3⟩:=h.at_ j u h1 hu;exact ⟨x,by rw [qr (by rw [h.len];exact h1)];exact h2,h3.le hS hl⟩
 ·obtain rfl:j=i:=by omega
  rw [ht] at hu;injection hu with hu
  subst hu;exact ⟨y,by rw [← h.len];simp,hy⟩
theorem leaf_inj {a b:List Nat} (h:a.map Tr.leaf=b.map Tr.leaf):a=b:=(List.map_inj_right (fun a b h=>by injection h)).1 h
theorem idIs_txt {S:Sto} {y:Nat} {s t:List Tr} (h:IdIs S y s) (k:IdIs S y t):s=t:=by
 rcases h with ⟨rfl,rfl⟩|⟨T,h1,h2,rfl⟩
 ·rcases k with ⟨rfl,_⟩|⟨U,k1,_,_⟩
  ·rfl
  ·have:=k1.1;omega
 ·rcases k with ⟨_,rfl⟩|⟨U,k1,k2,rfl⟩
  ·have:=h1.1;omega
  ·rw [h1.tr_inj k1]
theorem out_eq {S:Sto} (hS:S.Ok) {a b:Nat} {s t:List Nat} (h:IdIs S a (s.map Tr.leaf)) (k:IdIs S b (t.map Tr.leaf)):(a=b)↔s=t :=
 ⟨fun e=>by subst e;exact leaf_inj (idIs_txt h k),fun e=>by subst e;exact h.uniq hS k⟩
def AlG (X1 Xb:Px) (ts:List (List Nat)) (N:List Nat) (w:World) (bm mp n:Nat) (m:Nat) (v1 v2:Value) (wr:World):Prop :=
 ∃ (i:Nat) (X2:Px) (K2:List (Nat×Nat)) (out:List Nat),m=n-i∧i<=n∧v2=.int .i64 i∧(X1.Ext X2∧Xb.Ext X2∧zL X2∧KnOk X2.S K2∧OutOk X2.S out ts i∧X2.S.list.length+1200*kz 40 (kys K2)<=X1.S.list.length+1200*41)∧St w N [pA X2,blk bm (.cells #[.pointer (some ⟨X1.p,0,none⟩),.map (some mp)] 138),zK z9 26 mp (K2.map zP),zb zX 26 1 v1 out] wr
abbrev AlLPost (X1 X2:Px) (ts:List (List Nat)) (n bm mp:Nat) (N:List Nat) (w:World) (e:Ending) (w':World):Prop :=
 ∃ (X':Px) (K':List (Nat×Nat)) (v':Value) (out:List Nat),e=.returned (.tuple #[v',.nilIface])∧X1.Ext X'∧X2.Ext X'∧zL X'∧KnOk X'.S K'∧OutOk X'.S out ts n∧X'.S.list.length+1200*kz 40 (kys K')<=X1.S.list.length+1200*41∧St w N [pA X',blk bm (.cells #[.pointer (some ⟨X1.p,0,none⟩),.map (some mp)] 138),zK z9 26 mp (K'.map zP),zb zX 26 1 v' out] w'
theorem allL_c {X1 X2:Px} {bm mp n gi ci:Nat} {ids:List Nat} {ts:List (List Nat)} {K:List (Nat×Nat)} (hL:LwOk X1 ids ts n) (hE:X1.Ext X2) (hO:zL X2) (hK:KnOk X2.S K) (hroom:X2.S.list.length+1200*kz 40 (kys K)<=X1.S.list.length+1200*41) (w:World) (h:((pA X2).sep ((blk bm (.cells #[.pointer (some ⟨X1.p,0,none⟩),.map (some mp)] 138)).sep (zK z9 26 mp (K.map zP)))).ho w) (hd:(((pA X2).sep ((blk bm (.cells #[.pointer (some ⟨X1.p,0,none⟩),.map (some mp)] 138)).sep (zK z9 26 mp (K.map zP)))).sep deA).ho w) (hr:(((pA X2).sep ((blk bm (.cells #[.pointer (some ⟨X1.p,0,none⟩),.map (some mp)] 138)).sep (zK z9 26 mp (K.map zP)))).sep (zb zX 26 1 (.slice (some ⟨gi,0,none⟩) n ci) ids)).ho w) :
  Calls z9 44 #[.pointer (some ⟨bm,0,none⟩),.slice (some ⟨gi,0,none⟩) n ci] w (AlLPost X1 X2 ts n bm mp ((pA X2).sep ((blk bm (.cells #[.pointer (some ⟨X1.p,0,none⟩),.map (some mp)] 138)).sep (zK z9 26 mp (K.map zP)))).fp w):=by
 have H:=((St.one h).sep.pick (A:=(blk bm (.cells #[.pointer (some ⟨X1.p,0,none⟩),.map (some mp)] 138)).sep (zK z9 26 mp (K.map zP))) pk).sep;rw [qx] at hd hr;have HK:Ks w ((pA X2).sep ((blk bm (.cells #[.pointer (some ⟨X1.p,0,none⟩),.map (some mp)] 138)).sep (zK z9 26 mp (K.map zP)))).fp [deA,zb zX 26 1 (.slice (some ⟨gi,0,none⟩) n ci) ids]:=⟨fun A hA=>by
   simp at hA;rcases hA with rfl|rfl
   ·exact hd.2.1
   ·exact hr.2.1,fun A hA b hbA hm=>by
   simp at hA;rcases hA with rfl|rfl
   ·exact hd.2.2 b hm hbA
   ·exact hr.2.2 b hm hbA⟩
 generalize ((pA X2).sep ((blk bm (.cells #[.pointer (some ⟨X1.p,0,none⟩),.map (some mp)] 138)).sep (zK z9 26 mp (K.map zP)))).fp=N at H HK ⊢;have HLW:=zh hL;have HOF:Hid (∀ (X2:Px) (K:List (Nat×Nat)) (x:Nat) (T:Tr),Den X1.S x T->T.len<=300->X1.Ext X2->zL X2->KnOk X2.S K->X2.S.list.length<=900000->∀ w,((pA X2).sep ((blk bm (.cells #[.pointer (some ⟨X1.p,0,none⟩),.map (some mp)] 138)).sep (zK z9 26 mp (K.map zP)))).ho w->(((pA X2).sep ((blk bm (.cells #[.pointer (some ⟨X1.p,0,none⟩),.map (some mp)] 138)).sep (zK z9 26 mp (K.map zP)))).sep deA).ho w->Calls z9 35 #[.pointer (some ⟨bm,0,none⟩),.int .i64 (x:Nat)] w (K6 X1 X2 T x K bm mp ((pA X2).sep ((blk bm (.cells #[.pointer (some ⟨X1.p,0,none⟩),.map (some mp)] 138)).sep (zK z9 26 mp (K.map zP)))).fp w)):=zh fun X2 K x T q1 q2 q3 q4 q5 q6 w h hd=>ofL_c (q1.le HLW.out.ok.ok q3.le) q2 HLW.out.most q3 q4 q5 q6 w h hd
 have HRW:Hid (∀ (l a:Nat),ids[l]?=some a->∀ w,(zb zX 26 1 (.slice (some ⟨gi,0,none⟩) n ci) ids).ho w->w.cell? ⟨gi,l,none⟩=some (.int .i64 (a:Nat))):=zh fun l a hl w h=>by
  have:=zU h qy hl (j:=0) rfl;simpa using this
 have HIN:Hid (X1.Ext X2∧zL X2∧KnOk X2.S K∧X2.S.list.length+1200*kz 40 (kys K)<=X1.S.list.length+1200*41):=zh ⟨hE,hO,hK,hroom⟩;have hn40:=hL.n40;clear hL hE hO hK hroom h hd hr;go_enter Tryz.func44,Tryz.ntmps44;go_wp2_with (first|refine sL ?_|(refine sS ?_;clear H;intros;rename_i H)|((with_reducible refine Vn ?_);refine AtMkRoom.room zX H rfl rfl rfl n rfl rfl rfl rfl qy (by omega) (by omega) ?_;clear H;intro b5 _ H;simp only [Act.put,puA,puB,puC]));go_loopg [6,16] n (fun m v1 v2 wr=>AlG X1 X2 ts N w bm mp n m v1 v2 wr);case atStart=>exact ⟨0,X2,K,[],rfl,qk _,rfl,⟨HIN.out.1,.refl _,HIN.out.2.1,HIN.out.2.2.1,⟨rfl,fun j t hj=>absurd hj (jN _)⟩,HIN.out.2.2.2⟩,H.picks (.cons pk (.cons pk (.cons pk (.cons pk .nil))))⟩
 case round =>
  clear H;obtain ⟨i,X3,K3,out,rfl,hik,rfl,hrel,H⟩:=hrel;have HRL:=zh hrel;obtain ⟨ad2,c2,rfl,_⟩:=zE (H.get (A:=zb zX 26 1 _ out) pk);by_cases hlt:i<n
  ·obtain ⟨x,T,t,hx,ht,hD,hTt,hT3,hx40,_⟩:=HLW.out.at_ i hlt;have d5:decide ((i:Int)<(n:Int))=true:=(by simp;omega);have d5n:decide (i<n)=true:=(by simp;omega);have HC:=zh (HRW.out i x hx);have hol:out.length<=40:=(by rw [hrel.2.2.2.2.1.len];omega);have hHR:=HRL.out;have HOA:=zh (HOF.out X3 K3 x T hD hT3 hHR.1 hHR.2.2.1 hHR.2.2.2.1 (by have:=HLW.out.len;omega));have HTT:=zh (za ht (za hTt hx40));clear hrel hx ht hD hTt hT3 hx40 hHR;go_wp2_with (first|refine sL ?_|(refine sS ?_;clear H;intros;rename_i H)|(go_at_call 35;with_reducible refine zm (HOA.out _ (St.join3 (H.pick3 (A:=pA X3) (B:=blk bm (.cells #[.pointer (some ⟨X1.p,0,none⟩),.map (some mp)] 138)) (C:=zK z9 26 mp (K3.map zP)) pk pk pk)).ho9 ((St.join3 (H.pick3 (A:=pA X3) (B:=blk bm (.cells #[.pointer (some ⟨X1.p,0,none⟩),.map (some mp)] 138)) (C:=zK z9 26 mp (K3.map zP)) pk pk pk)).sepK HK .here pk)) ?_;rintro e9 wc ⟨X4,K4,y4,rfl,z1,z2,z3,z4,z5,z6,z7,hb⟩;have HZ4:=zh (za z1 (za z2 (za z3 (za z4 (za z5 (za z6 z7))))));clear z1 z2 z3 z4 z5 z6 z7;replace H:=zn ((St.join3 (H.pick3 (A:=pA X3) (B:=blk bm (.cells #[.pointer (some ⟨X1.p,0,none⟩),.map (some mp)] 138)) (C:=zK z9 26 mp (K3.map zP)) pk pk pk)).call hb);clear hb)|((with_reducible refine qR ?_);refine AtSlice.one H rfl rfl rfl rfl rfl rfl rfl rfl rfl ?_;clear H;intro b8 _ H;simp only [Act.put,puA,puB,puC])|((with_reducible refine qG ?_);refine AtAppend.go (enc:=zX) H rfl rfl rfl rfl rfl (by decide) (by decide) rfl (xs:=out) pk rfl (H.at pk) [y4] rfl (by simp [zY,zX]) qy xO (by simp;omega) ?_;clear H;intro ad9 cp9 _ H;simp only [Act.put,puA,puB,puC]));go_roundg (n-(i+1));case measure=>omega
   case rel =>
    have h1:=HRL.out;have h2:=HZ4.out;have h3:=HTT.out;exact ⟨i+1,X4,K4,out++[y4],rfl,by omega,by go_num,⟨h1.1.trans h2.1,h1.2.1.trans h2.1,h2.2.1,h2.2.2.1,h1.2.2.2.2.1.step h1.2.2.1.ok h2.1.le h3.1 (by rw [← h3.2.1];exact h2.2.2.2.1),by have:=h2.2.2.2.2.2.2 h3.2.2;omega⟩,H.picks (.cons pk (.cons pk (.cons pk (.cons pk .nil))))⟩
  ·have d5:decide ((i:Int)<(n:Int))=false:=(by simp;omega);have d5n:decide (i<n)=false:=(by simp;omega);have hin:n=i:=(by omega);subst hin;clear hrel;go_wp2_with (first|refine sL ?_|(refine sS ?_;clear H;intros;rename_i H));go_ret2;have h1:=HRL.out;exact ⟨X3,K3,_,out,rfl,h1.1,h1.2.1,h1.2.2.1,h1.2.2.2.1,h1.2.2.2.2.1,h1.2.2.2.2.2,H.picks (.cons pk (.cons pk (.cons pk (.cons pk .nil))))⟩
section
variable {ops:Array Oper} {Q:Exit->Act->World->Prop} {rest:List Oper} {a:Act} {w w0:World} {M:List Nat} {L R:List As} {o1:Oper} {dst:Option Tmp} {ty0:TypeId} {pos:String} {aft:Array Edge} {gd:Option (Nat×Bool)}
def AtLk (P:Program) (ops:Array Oper) (Q:Exit->Act->World->Prop) (o:Oper) (_:TypeId) (_ _:Operand) (_:Bool) (rest:List Oper) (a:Act) (w:World):Prop:=wpList P ops Q (o::rest) a w
theorem isLk {P:Program} {t:TypeId} {x y:Operand} {ok:Bool} (h:AtLk P ops Q ⟨dst,.lookup t x y ok,ty0,pos,aft,gd⟩ t x y ok rest a w):wpList P ops Q (⟨dst,.lookup t x y ok,ty0,pos,aft,gd⟩::rest) a w:=h
theorem AtLk.go {T:TypeId} {x y:Operand} {ok:Bool} {u v r:Value} (hw:Region.wanted o1 (yielded ops a.tmps)=true) (ho:o1.op=.lookup T x y ok) (hx:a.eval x=u) (hy:a.eval y=v) (hr:(Instr.lookup T u v ok).run z9 w=.ok r w)
  (h:wpList z9 ops Q rest (a.put o1.dst r) w):AtLk z9 ops Q o1 T x y ok rest a w :=
 wpList_step fun _ hK=>by
  rw [if_pos hw];unfold Oper.wp execOp;simp only [ho,hx,hy,Sem.run_bind,hr,Result.andThen_ok,Sem.run_pure];exact hK _ _ h
def AtMkI (P:Program) (ops:Array Oper) (Q:Exit->Act->World->Prop) (o:Oper) (_:TypeId) (_ _:Operand) (rest:List Oper) (a:Act) (w:World):Prop:=wpList P ops Q (o::rest) a w
theorem isMkI {P:Program} {t:TypeId} {x y:Operand} (h:AtMkI P ops Q ⟨dst,.makeSlice t x y,ty0,pos,aft,gd⟩ t x y rest a w):wpList P ops Q (⟨dst,.makeSlice t x y,ty0,pos,aft,gd⟩::rest) a w:=h
theorem AtMkI.ints {t:TypeId} {x y:Operand} (H:St w0 M L w) (hw:Region.wanted o1 (yielded ops a.tmps)=true) (ho:o1.op=.makeSlice t x y) (n:Nat) (hx:a.eval x=.int .i64 (n:Int)) (hy:a.eval y=.int .i64 (n:Int)) (hte:yt t=some 3) {bytes:Nat} (hi:xl 3=some (.int .i64 0,1,bytes)) (hn:n*bytes<=281474976710656) (h63:n<=16777216)
  (h:∀ b w',St w0 M (zb zX 3 1 (.slice (some ⟨b,0,none⟩) n n) (zc n 0)::L) w'->wpList z9 ops Q rest (a.put o1.dst (.slice (some ⟨b,0,none⟩) n n)) w'):AtMkI z9 ops Q o1 t x y rest a w :=
 wpList_step fun _ hK=>by
  rw [if_pos hw];obtain ⟨i,h2,h3,h4,h5⟩:=yW hi;have hb3:(bytes:Int)*(n:Int)<=281474976710656:=by
   have h9:((n*bytes:Nat):Int)<=281474976710656:=(by omega);rw [xq] at h9;rwa [XT] at h9
  have hr:=run_makeSlice (P:=z9) (w:=w) t 3 i (.int .i64 0) (yf hte) h2 h3 .i64 .i64 n n (by omega) (by omega) (by rw [h4];simp;omega) (by rw [h5];exact hb3) (by omega);rw [show (Value.int .i64 0).cells=#[.int .i64 0] from rfl,h4] at hr;simp only [Int.toNat_natCast,Nat.mul_one] at hr;unfold Oper.wp execOp;simp only [ho,hx,hy,Sem.run_bind,hr,Result.andThen_ok,Sem.run_pure];refine hK _ _ (h _ _ ((H.alloc (.cells (madeCells #[.int .i64 0] n) 3)).conv (by rw [qN,xV];rfl) fun hb=>?_));rw [xi] at hb;have:=kI (enc:=zX) (k:=1) (xs:=zc n 0) hb (by simp [maxLen];omega) (by
   rw [show (madeCells #[Value.int .i64 0] n).toList=zc n (.int .i64 0) from toList_madeCells_one _ _];clear h h3 h4 h5 hb hr hb3 hn h63 hx hy;induction n with
   |zero=>rfl
   |succ n ih=>rw [zR,zR];show _=zX 0++zY zX _;rw [← ih];rfl) qy
  simpa using this
end
theorem XJ {mp x:Nat} {K:List (Nat×Nat)} (ok:Bool) (hx:x<=1152921504606846976) {w:World} (h:(zK z9 26 mp (K.map zP)).ho w) :
  (∃ y,(x,y)∈K∧(Instr.lookup 152 (.map (some mp)) (.int .i64 (x:Nat)) ok).run z9 w=.ok (if ok then .tuple #[.int .i64 (y:Nat),.bool true] else .int .i64 (y:Nat)) w)∨((∀ q∈K,q.1≠x)∧(Instr.lookup 152 (.map (some mp)) (.int .i64 (x:Nat)) ok).run z9 w=.ok (if ok then .tuple #[.int .i64 0,.bool false] else .int .i64 0) w):=by
 obtain ⟨l,hl⟩:=Kp x hx;obtain ⟨v,b,hv,hr⟩:=kh Y1 h mt_152 hl (J2 (t:=3) rfl) ok;have hmem:∀ {u:Value},(.int .i64 (x:Nat),u)∈K.map zP->∃ y,(x,y)∈K∧u=.int .i64 (y:Nat):=fun {u} hu=>by
  obtain ⟨⟨a,c⟩,hq,he⟩:=qQ.1 hu;simp only [zP,Prod.mk.injEq,Value.int.injEq,true_and] at he;obtain ⟨e1,e2⟩:=he;have e3:a=x:=(by omega);subst e3;exact ⟨c,hq,e2.symm⟩
 have hk:∀ {y},(x,y)∈K->zP (x,y)∈K.map zP:=fun h=>qQ.2 ⟨_,h,rfl⟩
 rcases hv with ⟨rfl,h1⟩|⟨rfl,rfl,h1⟩
 ·obtain ⟨y,hy,rfl⟩:=hmem h1;exact .inl ⟨y,hy,hr⟩
 ·refine .inr ⟨fun q hq e=>?_,hr⟩;obtain ⟨a,c⟩:=q;simp only at e;subst e;exact h1 _ (hk hq) rfl
def FstIx (l:List Nat) (j k:Nat):Prop:=k<=j∧l[k]?=l[j]?∧∀ i,i<k->l[i]?≠l[j]?
theorem FstIx.uniq {l:List Nat} {j k k':Nat} (h:FstIx l j k) (h':FstIx l j k'):k=k':=by
 rcases kX k k' with h1|h1|h1
 ·exact absurd h.2.1 (h'.2.2 k h1)
 ·exact h1
 ·exact absurd h'.2.1 (h.2.2 k' h1)
structure ClFx (out:List Nat) (n i:Nat) (M:List (Nat×Nat)) (cls:List Nat):Prop where
 len:cls.length=n
 at_:∀ j,j<i->∃ k,cls[j]?=some k∧FstIx out j k
 mem:∀ q∈M,q.2<i∧out[q.2]?=some q.1∧∀ l,l<q.2->out[l]?≠some q.1
 all:∀ l y,l<i->out[l]?=some y->∃ k,(y,k)∈M
theorem ClFx.next {out:List Nat} {n i y k:Nat} {M M':List (Nat×Nat)} {cls:List Nat} (h:ClFx out n i M cls) (hi:i<n) (hy:out[i]?=some y) (hk:k<=i∧out[k]?=some y∧∀ l,l<k->out[l]?≠some y) (hM:∀ q∈M',q∈M∨q=(y,k)) (hM2:∀ q∈M,q∈M') (hM3:(y,k)∈M'):ClFx out n (i+1) M' (cls.set i k):=by
 refine ⟨by rw [wl];exact h.len,fun j hj=>?_,fun q hq=>?_,fun l z hl hz=>?_⟩
 ·rcases qY j i with h1|h1
  ·obtain ⟨m,h2,h3⟩:=h.at_ j h1;exact ⟨m,by rw [j1 (by omega)];exact h2,h3⟩
  ·obtain rfl:j=i:=by omega
   refine ⟨k,by rw [km (by rw [h.len];exact hi)],hk.1,by rw [hk.2.1,hy],fun l hl=>by rw [hy];exact hk.2.2 l hl⟩
 ·rcases hM q hq with h1|rfl
  ·have:=h.mem q h1;exact ⟨by omega,this.2.1,this.2.2⟩
  ·exact ⟨by simp only;omega,hk.2.1,hk.2.2⟩
 ·rcases qY l i with h1|h1
  ·obtain ⟨m,hm⟩:=h.all l z h1 hz;exact ⟨m,hM2 _ hm⟩
  ·obtain rfl:l=i:=by omega
   rw [hy] at hz;injection hz with hz
   subst hz;exact ⟨k,hM3⟩
def ClRel (out:List Nat) (N:List Nat) (w:World) (LS:List As) (mf gc n m:Nat) (v:Value) (wr:World):Prop :=
 ∃ (i:Nat) (M:List (Nat×Nat)) (cls:List Nat),m=n-i∧i<=n∧v=.int .i64 i∧ClFx out n i M cls∧St w N (LS++[zK z9 26 mf (M.map zP),zb zX 3 1 (.slice (some ⟨gc,0,none⟩) n n) cls]) wr
abbrev ClLPost (X1 X2:Px) (ts:List (List Nat)) (n bm mp:Nat) (N:List Nat) (w:World) (e:Ending) (w':World):Prop :=
 ∃ (X':Px) (K':List (Nat×Nat)) (gc:Nat) (out cls:List Nat),e=.returned (.tuple #[.slice (some ⟨gc,0,none⟩) n n,.nilIface])∧X1.Ext X'∧X2.Ext X'∧zL X'∧KnOk X'.S K'∧OutOk X'.S out ts n∧X'.S.list.length+1200*kz 40 (kys K')<=X1.S.list.length+1200*41∧(cls.length=n∧∀ j,j<n->∃ k,cls[j]?=some k∧FstIx out j k)∧St w N [pA X',blk bm (.cells #[.pointer (some ⟨X1.p,0,none⟩),.map (some mp)] 138),zK z9 26 mp (K'.map zP),zb zX 3 1 (.slice (some ⟨gc,0,none⟩) n n) cls] w'
theorem classesL_c {X1 X2:Px} {bm mp n gi ci:Nat} {ids:List Nat} {ts:List (List Nat)} {K:List (Nat×Nat)} (hL:LwOk X1 ids ts n) (hn1:1<=n) (hE:X1.Ext X2) (hO:zL X2) (hK:KnOk X2.S K) (hroom:X2.S.list.length+1200*kz 40 (kys K)<=X1.S.list.length+1200*41) (w:World) (h:((pA X2).sep ((blk bm (.cells #[.pointer (some ⟨X1.p,0,none⟩),.map (some mp)] 138)).sep (zK z9 26 mp (K.map zP)))).ho w) (hd:(((pA X2).sep ((blk bm (.cells #[.pointer (some ⟨X1.p,0,none⟩),.map (some mp)] 138)).sep (zK z9 26 mp (K.map zP)))).sep deA).ho w) (hr:(((pA X2).sep ((blk bm (.cells #[.pointer (some ⟨X1.p,0,none⟩),.map (some mp)] 138)).sep (zK z9 26 mp (K.map zP)))).sep (zb zX 26 1 (.slice (some ⟨gi,0,none⟩) n ci) ids)).ho w) :
  Calls z9 45 #[.pointer (some ⟨bm,0,none⟩),.slice (some ⟨gi,0,none⟩) n ci] w (ClLPost X1 X2 ts n bm mp ((pA X2).sep ((blk bm (.cells #[.pointer (some ⟨X1.p,0,none⟩),.map (some mp)] 138)).sep (zK z9 26 mp (K.map zP)))).fp w):=by
 have H:=((St.one h).sep.pick (A:=(blk bm (.cells #[.pointer (some ⟨X1.p,0,none⟩),.map (some mp)] 138)).sep (zK z9 26 mp (K.map zP))) pk).sep;have hdd:=hd;have hrr:=hr;rw [qx] at hd hr;have HK:Ks w ((pA X2).sep ((blk bm (.cells #[.pointer (some ⟨X1.p,0,none⟩),.map (some mp)] 138)).sep (zK z9 26 mp (K.map zP)))).fp [deA,zb zX 26 1 (.slice (some ⟨gi,0,none⟩) n ci) ids]:=⟨fun A hA=>by
   simp at hA;rcases hA with rfl|rfl
   ·exact hd.2.1
   ·exact hr.2.1,fun A hA b hbA hm=>by
   simp at hA;rcases hA with rfl|rfl
   ·exact hd.2.2 b hm hbA
   ·exact hr.2.2 b hm hbA⟩
 generalize ((pA X2).sep ((blk bm (.cells #[.pointer (some ⟨X1.p,0,none⟩),.map (some mp)] 138)).sep (zK z9 26 mp (K.map zP)))).fp=N at H HK ⊢;have HAL:Hid (∀ w,((pA X2).sep ((blk bm (.cells #[.pointer (some ⟨X1.p,0,none⟩),.map (some mp)] 138)).sep (zK z9 26 mp (K.map zP)))).ho w->(((pA X2).sep ((blk bm (.cells #[.pointer (some ⟨X1.p,0,none⟩),.map (some mp)] 138)).sep (zK z9 26 mp (K.map zP)))).sep deA).ho w->(((pA X2).sep ((blk bm (.cells #[.pointer (some ⟨X1.p,0,none⟩),.map (some mp)] 138)).sep (zK z9 26 mp (K.map zP)))).sep (zb zX 26 1 (.slice (some ⟨gi,0,none⟩) n ci) ids)).ho w->Calls z9 44 #[.pointer (some ⟨bm,0,none⟩),.slice (some ⟨gi,0,none⟩) n ci] w (AlLPost X1 X2 ts n bm mp ((pA X2).sep ((blk bm (.cells #[.pointer (some ⟨X1.p,0,none⟩),.map (some mp)] 138)).sep (zK z9 26 mp (K.map zP)))).fp w)):=zh fun w h hd hr=>allL_c hL hE hO hK hroom w h hd hr
 have hn40:=hL.n40;have HL4:Hid (X1.S.list.length<=40∧X1.S.most=1048576∧ts.length=ts.length):=zh ⟨hL.len,hL.most,rfl⟩;have HTS:Hid (∀ j,j<n->∃ t,ts[j]?=some t):=zh fun j hj=>by obtain ⟨_,_,t,_,h2,_⟩:=hL.at_ j hj;exact ⟨t,h2⟩
 clear hL hE hO hK hroom h hd hr hdd hrr;go_enter Tryz.func45,Tryz.ntmps45;go_wp2_with (first|refine sL ?_|(refine sS ?_;clear H;intros;rename_i H)|(go_at_call 44;with_reducible refine zm (HAL.out _ (St.join3 (H.pick3 (A:=pA X2) (B:=blk bm (.cells #[.pointer (some ⟨X1.p,0,none⟩),.map (some mp)] 138)) (C:=zK z9 26 mp (K.map zP)) pk pk pk)).ho9 ((St.join3 (H.pick3 (A:=pA X2) (B:=blk bm (.cells #[.pointer (some ⟨X1.p,0,none⟩),.map (some mp)] 138)) (C:=zK z9 26 mp (K.map zP)) pk pk pk)).sepK HK .here pk) ((St.join3 (H.pick3 (A:=pA X2) (B:=blk bm (.cells #[.pointer (some ⟨X1.p,0,none⟩),.map (some mp)] 138)) (C:=zK z9 26 mp (K.map zP)) pk pk pk)).sepK HK .here pk)) ?_;rintro e9 wc ⟨X3,K3,vo,out,rfl,z1,z2,z3,z4,z5,z6,hb⟩;have HZ:=zh (za z1 (za z2 (za z3 (za z4 (za z5 z6)))));clear z1 z2 z3 z4 z5 z6;replace H:=zn ((St.join3 (H.pick3 (A:=pA X2) (B:=blk bm (.cells #[.pointer (some ⟨X1.p,0,none⟩),.map (some mp)] 138)) (C:=zK z9 26 mp (K.map zP)) pk pk pk)).call hb);clear hb;obtain ⟨go,co,e5,_⟩:=zZ (H.get (A:=zb zX 26 1 vo out) pk) (by rw [HZ.out.2.2.2.2.1.len];omega);rw [HZ.out.2.2.2.2.1.len] at e5;subst e5)|((with_reducible refine YC ?_);refine AtMakeMap.go 26 H rfl rfl ?_;clear H;intro mf _ H;simp only [Act.put,puA,puB,puC])|((with_reducible refine isMkI ?_);refine AtMkI.ints H rfl rfl n rfl rfl rfl rfl (by omega) (by omega) ?_;clear H;intro gc _ H;simp only [Act.put,puA,puB,puC]));have HRW:Hid (∀ (l a:Nat),out[l]?=some a->∀ w,(zb zX 26 1 (.slice (some ⟨go,0,none⟩) n co) out).ho w->w.cell? ⟨go,l,none⟩=some (.int .i64 (a:Nat))):=zh fun l a hl w h=>by
  have:=zU h qy hl (j:=0) rfl;simpa using this
 go_loopg [29] n (fun m v wr=>ClRel out N w [pA X3,blk bm (.cells #[.pointer (some ⟨X1.p,0,none⟩),.map (some mp)] 138),zK z9 26 mp (K3.map zP),zb zX 26 1 (.slice (some ⟨go,0,none⟩) n co) out] mf gc n m v wr);case atStart=>exact ⟨0,[],zc n 0,rfl,qk _,rfl,⟨by simp,fun j hj=>absurd hj (jN _),fun q hq=>by simp at hq,fun l y hl=>absurd hl (jN _)⟩,H.picks (.cons pk (.cons pk (.cons pk (.cons pk (.cons pk (.cons pk .nil))))))⟩
 case round =>
  clear H;obtain ⟨i,M,cls,rfl,hik,rfl,hrel,H⟩:=hrel;simp only [zl,zr] at H;have HRL:=zh hrel;by_cases hlt:i<n
  ·have d5:decide ((i:Int)<(n:Int))=true:=(by simp;omega);have d5n:decide (i<n)=true:=(by simp;omega);have hil:i<n:=hlt;obtain ⟨t,ht⟩:=HTS.out i hlt;obtain ⟨y,hy,hyid⟩:=HZ.out.2.2.2.2.1.at_ i t hlt ht;have hyb:y<=1152921504606846976:=by
    have h1:=Ko hyid;have h2:=HZ.out;have h3:=HL4.out;omega
   have HC:=zh (HRW.out i y hy);obtain ⟨c0,hc0⟩:∃ a,cls[i]?=some a:=⟨_,zg (by rw [hrel.len];exact hlt)⟩
   have HC0:=zh hc0;rcases XJ (x:=y) true hyb (H.get (A:=zK z9 26 mf (M.map zP)) pk) with ⟨k,hk,_⟩|⟨hno,_⟩
   ·have hkf:=hrel.mem _ hk;simp only at hkf;have HLK:Hid (∀ (ok:Bool) w,(zK z9 26 mf (M.map zP)).ho w->(Instr.lookup 152 (.map (some mf)) (.int .i64 (y:Nat)) ok).run z9 w=.ok (if ok then .tuple #[.int .i64 (k:Nat),.bool true] else .int .i64 (k:Nat)) w):=zh fun ok w h=>by
     rcases XJ (x:=y) ok hyb h with ⟨k',hk',hr⟩|⟨hno,_⟩
     ·have hkf':=HRL.out.mem _ hk';simp only at hkf';have:k'=k:=by
       rcases kX k k' with h1|h1|h1
       ·exact absurd hkf.2.1 (hkf'.2.2 k h1)
       ·exact h1.symm
       ·exact absurd hkf'.2.1 (hkf.2.2 k' h1)
      rw [← this];exact hr
     ·exact absurd rfl (hno _ hk)
    have HNX:Hid (ClFx out n (i+1) M (cls.set i k)):=zh (hrel.next hlt hy ⟨by omega,hkf.2.1,hkf.2.2⟩ (fun q hq=>.inl hq) (fun q hq=>hq) hk);have hkn:k<n:=(by omega);clear hrel hk hkf ht hy hyid hc0;go_wp2_with (first|refine sL ?_|(refine sS ?_;clear H;intros;rename_i H)|((with_reducible refine isLk ?_);first|(refine AtLk.go rfl rfl rfl rfl (HLK.out true _ (H.get pk)) ?_;simp only [Act.put,puA,puB,puC];simp only [if_true])|(refine AtLk.go rfl rfl rfl rfl (HLK.out false _ (H.get pk)) ?_;simp only [Act.put,puA,puB,puC];simp only [xH,if_false]))|((with_reducible refine ye ?_);refine AtStore.rowAk (enc:=zX) (k:=1) (n:=n) (c:=n) (i:=i) (j:=0) H rfl rfl rfl rfl rfl rfl pk qy HC0.out (by omega) (by omega) k rfl ?_;clear H;intro _ H;simp only [Act.put,puA,puB,puC]));go_roundg (n-(i+1));case measure=>omega
    case rel=>exact ⟨i+1,M,cls.set i k,rfl,by omega,by go_num,HNX.out,H.picks (.cons pk (.cons pk (.cons pk (.cons pk (.cons pk (.cons pk .nil))))))⟩
   ·have hno2:∀ l,l<i->out[l]?≠some y:=fun l hl he=>by
     obtain ⟨k,hk⟩:=hrel.all l y hl he;exact hno _ hk rfl
    have HNX:Hid (ClFx out n (i+1) (M++[(y,i)]) (cls.set i i)):=zh (hrel.next hlt hy ⟨zt _,hy,hno2⟩ (fun q hq=>by simpa using hq) (fun q hq=>zk.2 (.inl hq)) (by simp));have HLK:Hid (∀ w,(zK z9 26 mf (M.map zP)).ho w->(Instr.lookup 152 (.map (some mf)) (.int .i64 (y:Nat)) true).run z9 w=.ok (.tuple #[.int .i64 0,.bool false]) w):=zh fun w h=>by
     rcases XJ (x:=y) true hyb h with ⟨k',hk',hr⟩|⟨_,hr⟩
     ·exact absurd rfl (hno _ hk')
     ·exact hr
    have HLK2:Hid (∀ w,(zK z9 26 mf ((M++[(y,i)]).map zP)).ho w->(Instr.lookup 152 (.map (some mf)) (.int .i64 (y:Nat)) false).run z9 w=.ok (.int .i64 (i:Nat)) w):=zh fun w h=>by
     rcases XJ (x:=y) false hyb h with ⟨k',hk',hr⟩|⟨hn2,_⟩
     ·rcases zk.1 hk' with hk'|hk'
      ·exact absurd rfl (hno _ hk')
      ·simp at hk';subst hk';exact hr
     ·exact absurd rfl (hn2 (y,i) (by simp))
    obtain ⟨l9,hl9⟩:=Kp y hyb;have HN9:Hid (∀ e∈M.map zP,e.1≠.int .i64 (y:Nat)):=zh fun e he e1=>by
     obtain ⟨q,hq,rfl⟩:=qQ.1 he;simp only [zP,Value.int.injEq,true_and] at e1;exact hno q hq (by omega)
    have HL9:=zh hl9;clear hrel hno hno2 ht hy hyid hc0 hl9;go_wp2_with (first|refine sL ?_|(refine sS ?_;clear H;intros;rename_i H)|((with_reducible refine isLk ?_);first|(refine AtLk.go rfl rfl rfl rfl (HLK.out _ (H.get pk)) ?_;simp only [Act.put,puA,puB,puC])|(refine AtLk.go rfl rfl rfl rfl (HLK2.out _ (by simpa [zP] using (H.get (A:=zK z9 26 mf (M.map zP++[(.int .i64 (y:Nat),.int .i64 (i:Nat))])) pk))) ?_;simp only [Act.put,puA,puB,puC]))|((with_reducible refine Wh ?_);refine AtUpdate.new Y1 mt_152 H rfl rfl rfl pk (k:=.int .i64 (y:Nat)) (v:=.int .i64 (i:Nat)) rfl rfl HL9.out HN9.out ?_;clear H;intro _ H;simp only [Act.put,puA,puB,puC])|((with_reducible refine ye ?_);refine AtStore.rowAk (enc:=zX) (k:=1) (n:=n) (c:=n) (i:=i) (j:=0) H rfl rfl rfl rfl rfl rfl pk qy HC0.out (by omega) (by omega) i rfl ?_;clear H;intro _ H;simp only [Act.put,puA,puB,puC]));go_roundg (n-(i+1));case measure=>omega
    case rel =>
     refine ⟨i+1,M++[(y,i)],cls.set i i,rfl,by omega,by go_num,HNX.out,?_⟩;have:=H.picks (.cons (A:=pA X3) pk (.cons (A:=blk bm (.cells #[.pointer (some ⟨X1.p,0,none⟩),.map (some mp)] 138)) pk (.cons (A:=zK z9 26 mp (K3.map zP)) pk (.cons (A:=zb zX 26 1 (.slice (some ⟨go,0,none⟩) n co) out) pk (.cons (A:=zK z9 26 mf (M.map zP++[(.int .i64 (y:Nat),.int .i64 (i:Nat))])) pk (.cons (A:=zb zX 3 1 (.slice (some ⟨gc,0,none⟩) n n) (cls.set i i)) pk .nil))))));simpa [zP] using this
  ·have d5:decide ((i:Int)<(n:Int))=false:=(by simp;omega);have d5n:decide (i<n)=false:=(by simp;omega);have hin:n=i:=(by omega);subst hin;clear hrel;go_wp2_with (first|refine sL ?_|(refine sS ?_;clear H;intros;rename_i H));go_ret2;have h1:=HZ.out;exact ⟨X3,K3,gc,out,cls,rfl,h1.1,h1.2.1,h1.2.2.1,h1.2.2.2.1,h1.2.2.2.2.1,h1.2.2.2.2.2,⟨HRL.out.len,HRL.out.at_⟩,H.picks (.cons pk (.cons pk (.cons pk (.cons pk .nil))))⟩
theorem sameL_c {X1 X2:Px} {bm mp x y:Nat} {T U:Tr} {K:List (Nat×Nat)} (hx:Den X1.S x T) (hy:Den X1.S y U) (hT:T.len<=300) (hU:U.len<=300) (hx4:x<=40) (hy4:y<=40) (h1O:X1.S.Ok) (hm:X1.S.most=1048576) (h40:X1.S.list.length<=40) (hE:X1.Ext X2) (hO:zL X2) (hK:KnOk X2.S K) (hroom:X2.S.list.length+1200*kz 40 (kys K)<=X1.S.list.length+1200*41) (w:World) (h:((pA X2).sep ((blk bm (.cells #[.pointer (some ⟨X1.p,0,none⟩),.map (some mp)] 138)).sep (zK z9 26 mp (K.map zP)))).ho w) (hd:(((pA X2).sep ((blk bm (.cells #[.pointer (some ⟨X1.p,0,none⟩),.map (some mp)] 138)).sep (zK z9 26 mp (K.map zP)))).sep deA).ho w) :
  Calls z9 46 #[.pointer (some ⟨bm,0,none⟩),.int .i64 (x:Nat),.int .i64 (y:Nat)] w fun e w'=>∃ (X':Px) (K':List (Nat×Nat)),e=.returned (.tuple #[.bool (decide (T.txt=U.txt)),.nilIface])∧X1.Ext X'∧X2.Ext X'∧zL X'∧KnOk X'.S K'∧X'.S.list.length+1200*kz 40 (kys K')<=X1.S.list.length+1200*41∧St w ((pA X2).sep ((blk bm (.cells #[.pointer (some ⟨X1.p,0,none⟩),.map (some mp)] 138)).sep (zK z9 26 mp (K.map zP)))).fp [pA X',blk bm (.cells #[.pointer (some ⟨X1.p,0,none⟩),.map (some mp)] 138),zK z9 26 mp (K'.map zP)] w':=by
 have H:=((St.one h).sep.pick (A:=(blk bm (.cells #[.pointer (some ⟨X1.p,0,none⟩),.map (some mp)] 138)).sep (zK z9 26 mp (K.map zP))) pk).sep;rw [qx] at hd;have HK:Ks w ((pA X2).sep ((blk bm (.cells #[.pointer (some ⟨X1.p,0,none⟩),.map (some mp)] 138)).sep (zK z9 26 mp (K.map zP)))).fp [deA]:=⟨by simpa using hd.2.1,by simpa using fun b hb hm=>hd.2.2 b hm hb⟩
 generalize ((pA X2).sep ((blk bm (.cells #[.pointer (some ⟨X1.p,0,none⟩),.map (some mp)] 138)).sep (zK z9 26 mp (K.map zP)))).fp=N at H HK ⊢;have HO1:=zh (fun w h hd=>ofL_c (X1:=X1) (X2:=X2) (bm:=bm) (mp:=mp) (x:=x) (T:=T) (K:=K) (hx.le h1O hE.le) hT hm hE hO hK (by omega) w h hd);have HO2:Hid (∀ (X3:Px) (K3:List (Nat×Nat)),X2.Ext X3->zL X3->KnOk X3.S K3->X3.S.list.length+1200*kz 40 (kys K3)<=X2.S.list.length+1200*kz 40 (kys K)->∀ w,((pA X3).sep ((blk bm (.cells #[.pointer (some ⟨X1.p,0,none⟩),.map (some mp)] 138)).sep (zK z9 26 mp (K3.map zP)))).ho w->(((pA X3).sep ((blk bm (.cells #[.pointer (some ⟨X1.p,0,none⟩),.map (some mp)] 138)).sep (zK z9 26 mp (K3.map zP)))).sep deA).ho w->Calls z9 35 #[.pointer (some ⟨bm,0,none⟩),.int .i64 (y:Nat)] w (K6 X1 X3 U y K3 bm mp ((pA X3).sep ((blk bm (.cells #[.pointer (some ⟨X1.p,0,none⟩),.map (some mp)] 138)).sep (zK z9 26 mp (K3.map zP)))).fp w)):=zh fun X3 K3 q1 q2 q3 q4 w h hd=>ofL_c (hy.le h1O (hE.trans q1).le) hU hm (hE.trans q1) q2 q3 (by omega) w h hd
 have HIN:Hid (X1.Ext X2∧X2.S.list.length+1200*kz 40 (kys K)<=X1.S.list.length+1200*41∧x<=40∧y<=40):=zh ⟨hE,hroom,hx4,hy4⟩;clear hx hy hT hU hx4 hy4 h1O hm h40 hE hO hK hroom h hd;go_enter Tryz.func46,Tryz.ntmps46;go_wp2_with (first|refine sL ?_|(refine sS ?_;clear H;intros;rename_i H)|first|(go_at_call 35;with_reducible refine zm (HO1.out _ (St.join3 (H.pick3 (A:=pA X2) (B:=blk bm (.cells #[.pointer (some ⟨X1.p,0,none⟩),.map (some mp)] 138)) (C:=zK z9 26 mp (K.map zP)) pk pk pk)).ho9 ((St.join3 (H.pick3 (A:=pA X2) (B:=blk bm (.cells #[.pointer (some ⟨X1.p,0,none⟩),.map (some mp)] 138)) (C:=zK z9 26 mp (K.map zP)) pk pk pk)).sepK HK .here pk)) ?_;rintro e9 wc ⟨X3,K3,y3,rfl,z1,z2,z3,z4,z5,z6,z7,hb⟩;have HZ3:=zh (za z1 (za z2 (za z3 (za z4 (za z5 (za z6 z7))))));clear z1 z2 z3 z4 z5 z6 z7;replace H:=zn ((St.join3 (H.pick3 (A:=pA X2) (B:=blk bm (.cells #[.pointer (some ⟨X1.p,0,none⟩),.map (some mp)] 138)) (C:=zK z9 26 mp (K.map zP)) pk pk pk)).call hb);clear hb)|(go_at_call 35;with_reducible refine zm (HO2.out X3 K3 HZ3.out.1 HZ3.out.2.1 HZ3.out.2.2.1 (HZ3.out.2.2.2.2.2.2 HIN.out.2.2.1) _ (St.join3 (H.pick3 (A:=pA X3) (B:=blk bm (.cells #[.pointer (some ⟨X1.p,0,none⟩),.map (some mp)] 138)) (C:=zK z9 26 mp (K3.map zP)) pk pk pk)).ho9 ((St.join3 (H.pick3 (A:=pA X3) (B:=blk bm (.cells #[.pointer (some ⟨X1.p,0,none⟩),.map (some mp)] 138)) (C:=zK z9 26 mp (K3.map zP)) pk pk pk)).sepK HK .here pk)) ?_;rintro e9 wc ⟨X4,K4,y4,rfl,z1,z2,z3,z4,z5,z6,z7,hb⟩;have HZ4:=zh (za z1 (za z2 (za z3 (za z4 (za z5 (za z6 z7))))));clear z1 z2 z3 z4 z5 z6 z7;replace H:=zn ((St.join3 (H.pick3 (A:=pA X3) (B:=blk bm (.cells #[.pointer (some ⟨X1.p,0,none⟩),.map (some mp)] 138)) (C:=zK z9 26 mp (K3.map zP)) pk pk pk)).call hb);clear hb));have hdec:((y3:Int)==(y4:Int))=decide (T.txt=U.txt):=by
  have h1:=HZ3.out;have h2:=HZ4.out;have:=out_eq h2.2.1.ok (h1.2.2.2.1.le h1.2.1.ok h2.1.le) h2.2.2.2.1;by_cases hq:T.txt=U.txt
  ·rw [decide_eq_true hq,this.2 hq];simp
  ·rw [decide_eq_false hq];simp only [beq_eq_false_iff_ne,ne_eq];intro e;exact hq (this.1 (by omega))
 go_ret2;rw [hdec];exact ⟨X4,K4,rfl,HIN.out.1.trans (HZ3.out.1.trans HZ4.out.1),HZ3.out.1.trans HZ4.out.1,HZ4.out.2.1,HZ4.out.2.2.1,by have h1:=HZ3.out.2.2.2.2.2.2 HIN.out.2.2.1;have h2:=HZ4.out.2.2.2.2.2.2 HIN.out.2.2.2;have h3:=HIN.out.2.1;omega,H.picks (.cons pk (.cons pk (.cons pk .nil)))⟩
end
section
open Go.RowKit Go.Maps
attribute [local go_sem] qw yM
theorem ints_c {g1 g2 n c1 c2:Nat} {xs:List Nat} (hx:xs.length=n) (hn:n<=40) (w:World) (h1:(zb zX 3 1 (.slice (some ⟨g1,0,none⟩) n c1) xs).ho w) (h2:(zb zX 3 1 (.slice (some ⟨g2,0,none⟩) n c2) xs).ho w) :
  Calls z9 47 #[.slice (some ⟨g1,0,none⟩) n c1,.slice (some ⟨g2,0,none⟩) n c2] w fun e w'=>e=.returned (.bool true)∧St w [] [] w':=by
 have H:=St.nil w [];have HK:Ks w [] [zb zX 3 1 (.slice (some ⟨g1,0,none⟩) n c1) xs,zb zX 3 1 (.slice (some ⟨g2,0,none⟩) n c2) xs]:=Ks.two h1 h2;have HX:=zh hx;clear h1 h2 hx;go_enter Tryz.func47,Tryz.ntmps47;go_wp2_with (first|refine sL ?_|(refine sS ?_;clear H;intros;rename_i H));go_loopg [5] n (fun m v wr=>∃ i:Nat,m=n-i∧i<=n∧v=.int .i64 i∧St w [] [] wr);case atStart=>exact ⟨0,rfl,qk _,rfl,H⟩
 case round =>
  clear H;obtain ⟨i,rfl,hik,rfl,H⟩:=hrel;by_cases hlt:i<n
  ·have d5:decide ((i:Int)<(n:Int))=true:=(by simp;omega);have d5n:decide (i<n)=true:=(by simp;omega);have hil:i<n:=hlt;obtain ⟨x,hx⟩:∃ a,xs[i]?=some a:=⟨_,zg (by rw [HX.out];exact hlt)⟩
   have HC1:Hid (∀ w,(zb zX 3 1 (.slice (some ⟨g1,0,none⟩) n c1) xs).ho w->w.cell? ⟨g1,i,none⟩=some (.int .i64 (x:Nat))):=zh fun w h=>by
    have:=zU h qy hx (j:=0) rfl;simpa using this
   have HC2:Hid (∀ w,(zb zX 3 1 (.slice (some ⟨g2,0,none⟩) n c2) xs).ho w->w.cell? ⟨g2,i,none⟩=some (.int .i64 (x:Nat))):=zh fun w h=>by
    have:=zU h qy hx (j:=0) rfl;simpa using this
   clear hx;go_wp2_with (first|refine sL ?_|(refine sS ?_;clear H;intros;rename_i H));refine zC H 9 [] [] (by kernel_rfl) (by kernel_rfl) ?_;apply Exists.intro;refine ⟨fun w1 hw1 HX=>?_,fun bs wr Hr=>?_⟩
   ·refine sG ?_;repeat (first|go_big_quiet_skip|refine sQ ?_|fail|go_big_quiet_step (fail))
    exact wpQuiet_nil rfl
   clear H;have H:=Hr;clear Hr;replace H:=sH H;refine sT ?_;go_wp2_with (first|refine sL ?_|(refine sS ?_;clear H;intros;rename_i H));go_roundg (n-(i+1));case measure=>omega
   case rel=>exact ⟨i+1,rfl,by omega,by go_num,H⟩
  ·have d5:decide ((i:Int)<(n:Int))=false:=(by simp;omega);have d5n:decide (i<n)=false:=(by simp;omega);go_wp2_with (first|refine sL ?_|(refine sS ?_;clear H;intros;rename_i H));go_ret;exact ⟨rfl,H.nix⟩
theorem strB_tl (l:List Nat):(xT l).toList=l.map UInt8.ofNat:=by
 unfold xT;rw [ByteArray.toList_mk]
theorem strB_ne {s t:List Nat} (hs:∀ b∈s,b<256) (ht:∀ b∈t,b<256) (h:s≠t):((xT s).toList==(xT t).toList)=false:=by
 rw [strB_tl,strB_tl];rw [beq_eq_false_iff_ne];intro e;refine h (strB_inj hs ht ?_);unfold xT;rw [e]
def FstT (l:List (List Nat)) (j k:Nat):Prop:=k<=j∧l[k]?=l[j]?∧∀ i,i<k->l[i]?≠l[j]?
def RcRel (ts:List (List Nat)) (w:World) (n m:Nat) (v3 v4:Value) (wr:World):Prop :=
 ∃ (i:Nat) (cl:List Nat),m=n-i∧i<=n∧v4=.int .i64 i∧(cl.length=i∧∀ j,j<i->∃ k,cl[j]?=some k∧FstT ts j k)∧St w [] [zb zX 3 1 v3 cl] wr
theorem KE {gt n ct:Nat} {ts:List (List Nat)} (hx:ts.length=n) (hn:n<=40) (hb:∀ t∈ts,∀ b∈t,b<256) (w:World) (h1:(zb yN 9 1 (.slice (some ⟨gt,0,none⟩) n ct) ts).ho w) :
  Calls z9 48 #[.slice (some ⟨gt,0,none⟩) n ct] w fun e w'=>∃ (v:Value) (cl:List Nat),e=.returned v∧(cl.length=n∧∀ j,j<n->∃ k,cl[j]?=some k∧FstT ts j k)∧St w [] [zb zX 3 1 v cl] w':=by
 have H:=St.nil w [];have HK:=Ks.one h1;have HX:=zh (za hx hb);clear h1 hx hb;go_enter Tryz.func48,Tryz.ntmps48;go_wp2_with (first|refine sL ?_|(refine sS ?_;clear H;intros;rename_i H));go_loopg [3,4] n (fun m v3 v4 wr=>RcRel ts w n m v3 v4 wr);case atStart=>exact ⟨0,[],rfl,qk _,rfl,⟨rfl,fun j hj=>absurd hj (jN _)⟩,(H.picks .nil).empty (A:=zb zX 3 1 (.slice none 0 0) []) (qp _) (by rw [qN];rfl)⟩
 case round =>
  clear H;obtain ⟨i,cl,rfl,hik,rfl,hrel,H⟩:=hrel;have HRL:=zh hrel;obtain ⟨ad2,c2,rfl,_⟩:=zE (H.get (A:=zb zX 3 1 _ cl) pk);have hcl:cl.length<=40:=(by rw [hrel.1];omega);clear hrel;by_cases hlt:i<n
  ·have d5:decide ((i:Int)<(n:Int))=true:=(by simp;omega);have d5n:decide (i<n)=true:=(by simp;omega);have hil:i<n:=hlt;obtain ⟨t,ht⟩:∃ a,ts[i]?=some a:=⟨_,zg (by rw [HX.out.1];exact hlt)⟩
   have HTI:=zh ht;have HC1:Hid (∀ w,(zb yN 9 1 (.slice (some ⟨gt,0,none⟩) n ct) ts).ho w->w.cell? ⟨gt,i,none⟩=some (.string (xT t))):=zh fun w h=>by
    have:=zU h jD ht (j:=0) rfl;simpa using this
   clear ht;go_wp2_with (first|refine sL ?_|(refine sS ?_;clear H;intros;rename_i H));go_loopg [5] i (fun m v wr=>∃ k:Nat,m=i-k∧k<=i∧v=.int .i64 k∧(∀ l,l<k->ts[l]?≠some t)∧St w [] [zb zX 3 1 (.slice ad2 cl.length c2) cl] wr);case atStart=>exact ⟨0,rfl,qk _,rfl,fun l hl=>absurd hl (jN _),H⟩
   case round =>
    clear H;obtain ⟨k,rfl,hki,rfl,hno,H⟩:=hrel;have HNO:=zh hno;clear hno;obtain ⟨s,hs⟩:∃ a,ts[k]?=some a:=⟨_,zg (by rw [HX.out.1];omega)⟩
    have HC2:Hid (∀ w,(zb yN 9 1 (.slice (some ⟨gt,0,none⟩) n ct) ts).ho w->w.cell? ⟨gt,k,none⟩=some (.string (xT s))):=zh fun w h=>by
     have:=zU h jD hs (j:=0) rfl;simpa using this
    have HSK:=zh hs;have hkn:k<n:=(by omega);by_cases hst:s=t
    ·subst hst;clear hs;go_wp2_with (first|refine sL ?_|(refine sS ?_;clear H;intros;rename_i H));refine zC H 9 [] [] (by kernel_rfl) (by kernel_rfl) ?_;apply Exists.intro;refine ⟨fun w1 hw1 HX=>?_,fun bs wr Hr=>?_⟩
     ·refine sG ?_;repeat (first|go_big_quiet_skip|refine sQ ?_|fail|go_big_quiet_step (fail))
      exact wpQuiet_nil rfl
     clear H;have H:=Hr;clear Hr;replace H:=sH H;refine sT ?_;go_wp2_with (first|refine sL ?_|(refine sS ?_;clear H;intros;rename_i H)|((with_reducible refine qR ?_);refine AtSlice.one H rfl rfl rfl rfl rfl rfl rfl rfl rfl ?_;clear H;intro b6 _ H;simp only [Act.put,puA,puB,puC])|((with_reducible refine qG ?_);refine AtAppend.go (enc:=zX) H rfl rfl rfl rfl rfl (by decide) (by decide) rfl (xs:=cl) pk rfl (H.at pk) [k] rfl (by simp [zY,zX]) qy xO (by simp;omega) ?_;clear H;intro ad9 cp9 _ H;simp only [Act.put,puA,puB,puC]));go_roundg (n-(i+1));case measure=>omega
     case rel =>
      refine ⟨i+1,cl++[k],rfl,by omega,by go_num,⟨by simp [HRL.out.1],fun j hj=>?_⟩,H.picks (.cons pk .nil)⟩;rcases qY j i with h1|h1
      ·obtain ⟨m,h2,h3⟩:=HRL.out.2 j h1;exact ⟨m,by rw [qr (by rw [HRL.out.1];exact h1)];exact h2,h3⟩
      ·obtain rfl:j=i:=by omega
       exact ⟨k,by rw [← HRL.out.1];simp,hki,by rw [HSK.out,HTI.out],fun l hl=>by rw [HTI.out];exact HNO.out l hl⟩
    ·have hkl:k<i:=by
      rcases qY k i with h|h
      ·exact h
      ·obtain rfl:k=i:=by omega
       have:=HTI.out;rw [hs] at this;injection this with this
       exact absurd this hst
     have hne:=strB_ne (HX.out.2 s (zv hs)) (HX.out.2 t (zv HTI.out)) hst;clear hs;go_wp2_with (first|refine sL ?_|(refine sS ?_;clear H;intros;rename_i H));refine zC H 9 [] [] (by kernel_rfl) (by kernel_rfl) ?_;apply Exists.intro;refine ⟨fun w1 hw1 HX=>?_,fun bs wr Hr=>?_⟩
     ·refine sG ?_;repeat (first|go_big_quiet_skip|refine sQ ?_|fail|go_big_quiet_step (fail))
      exact wpQuiet_nil rfl
     clear H;have H:=Hr;clear Hr;replace H:=sH H;refine sT ?_;go_wp2_with (first|refine sL ?_|(refine sS ?_;clear H;intros;rename_i H));go_roundg (i-(k+1));case measure=>omega
     case rel =>
      refine ⟨k+1,rfl,by omega,by go_num,fun l hl=>?_,H⟩;rcases qY l k with h1|h1
      ·exact HNO.out l h1
      ·obtain rfl:l=k:=by omega
       rw [HSK.out];intro e;injection e with e
       exact hst e
  ·have d5:decide ((i:Int)<(n:Int))=false:=(by simp;omega);have d5n:decide (i<n)=false:=(by simp;omega);have hin:n=i:=(by omega);subst hin;go_wp2_with (first|refine sL ?_|(refine sS ?_;clear H;intros;rename_i H));go_ret;exact ⟨_,cl,rfl,HRL.out,H.picks (.cons pk .nil)⟩
end
section
open Go.RowKit Go.Maps
attribute [local go_sem] qw yM
def feasR (R:Nat->Nat->Bool) (Bs:List Nat) (k s:Nat):Bool:=Bs.zipIdx.all fun p=>(!R k p.1 || decide (p.2<s))&&(!R p.1 k || decide (s<=p.2))&&(decide (p.1≠k) || decide (s=p.2))
def sgR (R:Nat->Nat->Bool) (ops:Array Oper) (m:Nat) (Ss:List GS) (Bs:List Nat) (SL:List (List Nat)):Bool :=
 Xf ops m&&((zj m).all fun k=>(gAt Ss k).D.all fun i=>decide (i<m)&&R k i)&&(Bs.all fun b=>decide (b<m)) &&
 ((zj Bs.length).all fun j=>(zj j).all fun i=>R (Bs.getD j 0) (Bs.getD i 0)) &&
 ((zj m).all fun k=>(zj (Bs.length+1)).all fun s=>!feasR R Bs k s || (SL.getD k []).contains s)
def sgxR (R:Nat->Nat->Bool) (l:List Oper) (m:Nat) (Ss:List GS) (Bs:List Nat) (SL:List (List Nat)) (DS:List (List (Nat×Tmp))) (S:List (Nat×Tmp)):Bool :=
 sgR R l.toArray m Ss Bs SL&&Region.seqB .any l.toArray (l.length-m) m (wv l.length m)&&vj l.toArray S&&decide (S.map (·.1)=(zj m).filter fun i=>(y8 l.toArray i).isSome) &&
 DS.all (vj l.toArray)&&decide (DS.map (fun d=>d.map (·.1))=(zj m).map (qm l.toArray))
def tblB (ops:Array Oper) (T:List (List Nat)):Bool :=
 decide (T.length<=ops.size)&&(T.all fun r=>r.all fun i=>decide (i<ops.size))&&(zj ops.size).all fun k=>match ops[k]? with
  |none=>true
  |some o=>(o.after.all fun e=>!Region.binds .any e || decide (e.on<k))&&(zj ops.size).all fun i=>(T.getD k []).contains i==o.after.any fun e=>Region.binds .any e&&(e.on==i || (T.getD e.on []).contains i)
theorem reach_tbl {ops:Array Oper} {T:List (List Nat)} (h:tblB ops T=true):yD ops ops.size=fun k i=>(T.getD k []).contains i:=by
 simp only [tblB,zq,decide_eq_true_eq,zF,zJ] at h;obtain ⟨⟨h1,h2⟩,h3⟩:=h;have hlt:∀ k i,(T.getD k []).contains i=true->i<ops.size:=fun k i hi=>by
  rw [List.contains_iff_mem] at hi;rw [jA] at hi;cases hk:T[k]? with
  |none=>rw [hk] at hi;simp at hi
  |some r=>rw [hk] at hi;exact h2 r (zv hk) i hi
 have key:∀ k f,k<f->k<ops.size->∀ i,yD ops f k i=(T.getD k []).contains i:=by
  intro k;induction k using x6 with
  |_ k ih =>
   intro f hf hk i;obtain ⟨f,rfl⟩:∃ g,f=g+1:=⟨f-1,by omega⟩
   have hko:ops[k]?=some ops[k]:=(by simp [hk]);have h4:=h3 k hk;rw [hko] at h4;simp only [zq,zF,zJ,beq_iff_eq] at h4;obtain ⟨h5,h6⟩:=h4;rw [Array.all_eq_true'] at h5;have hany:(ops[k].after.any fun e=>Region.binds .any e&&(e.on==i || yD ops f e.on i))=ops[k].after.any fun e=>Region.binds .any e&&(e.on==i || (T.getD e.on []).contains i):=by
    rw [Bool.eq_iff_iff,wq,wq];constructor
    ·rintro ⟨e,he,hq⟩;refine ⟨e,he,?_⟩;simp only [zq] at hq ⊢;have:=h5 e he;rw [hq.1] at this;have hon:e.on<k:=(by simpa using this);rw [← ih e.on hon f (by omega) (by omega) i];exact hq
    ·rintro ⟨e,he,hq⟩;refine ⟨e,he,?_⟩;simp only [zq] at hq ⊢;have:=h5 e he;rw [hq.1] at this;have hon:e.on<k:=(by simpa using this);rw [ih e.on hon f (by omega) (by omega) i];exact hq
   unfold yD;rw [hko];simp only;rw [hany];by_cases hi:i<ops.size
   ·exact (h6 i hi).symm
   ·have hr:(T.getD k []).contains i=false:=by
     cases hc:(T.getD k []).contains i with
     |false=>rfl
     |true=>exact absurd (hlt k i hc) hi
    rw [hr];rw [Bool.eq_false_iff];intro hq;rw [wq] at hq;obtain ⟨e,he,hq⟩:=hq;simp only [zq,vN,beq_iff_eq] at hq;have:=h5 e he;rw [hq.1] at this;have hon:e.on<k:=(by simpa using this);rcases hq.2 with h|h
    ·omega
    ·exact hi (hlt _ _ h)
 funext k i
 by_cases hk:k<ops.size
 ·exact key k ops.size hk hk i
 ·have h0:ops[k]?=none:=qz (by omega);have h9:(T.getD k []).contains i=false:=by
   rw [jA,wY (by omega)];rfl
  rw [h9];cases hs:ops.size with
  |zero=>rfl
  |succ s=>unfold yD;rw [h0]
theorem sgx_tbl {l:List Oper} {m:Nat} {Ss:List GS} {Bs:List Nat} {SL:List (List Nat)} {DS:List (List (Nat×Tmp))} {S:List (Nat×Tmp)} (T:List (List Nat)) (h:tblB l.toArray T=true) (h2:sgxR (fun k i=>(T.getD k []).contains i) l m Ss Bs SL DS S=true):sgxB l m Ss Bs SL DS S=true:=by
 have e:sgxB l m Ss Bs SL DS S=sgxR (yD l.toArray l.toArray.size) l m Ss Bs SL DS S:=rfl;rw [e,reach_tbl h];exact h2
theorem VS {s t:List Nat} (hs:∀ b∈s,b<256) (ht:∀ b∈t,b<256):((xT s).toList==(xT t).toList)=decide (s=t):=by
 by_cases h:s=t
 ·subst h;simp
 ·rw [strB_ne hs ht h,decide_eq_false h]
theorem cls_eq {S:Sto} {out cls cl:List Nat} {ts:List (List Nat)} {n:Nat} (hS:S.Ok) (ho:OutOk S out ts n) (ht:ts.length=n) (h1:cls.length=n∧∀ j,j<n->∃ k,cls[j]?=some k∧FstIx out j k) (h2:cl.length=n∧∀ j,j<n->∃ k,cl[j]?=some k∧FstT ts j k):cl=cls:=by
 apply Zz;intro j;rcases qY j n with hj|hj
 ·obtain ⟨k,k1,k2,k3,k4⟩:=h1.2 j hj;obtain ⟨m,m1,m2,m3,m4⟩:=h2.2 j hj;rw [k1,m1];have key:∀ i,i<n->((out[i]?=out[j]?)↔ts[i]?=ts[j]?):=fun i hi=>by
   have e1:ts[i]?=some (ts[i]'(by omega)):=zg _;have e2:ts[j]?=some (ts[j]'(by omega)):=zg _;obtain ⟨y,y1,y2⟩:=ho.at_ i _ hi e1;obtain ⟨z,z1,z2⟩:=ho.at_ j _ hj e2;rw [y1,z1,e1,e2];have:=out_eq hS y2 z2;constructor
   ·intro h;injection h with h;rw [this.1 h]
   ·intro h;injection h with h;rw [this.2 h]
  have:k=m:=by
   rcases kX k m with h|h|h
   ·exact absurd ((key k (by omega)).1 k3) (m4 k h)
   ·exact h
   ·exact absurd ((key m (by omega)).2 m3) (k4 m h)
  rw [this]
 ·rw [wY (by omega),wY (by omega)]
attribute [local go_sem] StStep jh yJ in
theorem V6 {P:we} {g:List Gz} {v1:Value} (r1:RowIn P Qj 5 v1 g) (hb:∀ q∈g,q.lt<256) (a b:Int) (w:World) (hde:deA.ho w) (hp:(y9 P).ho w) :
  Calls z9 10 #[v1,.int .i64 a,.int .i64 b] w fun e w'=>e=.returned (.bool true)∧St w [] [] w':=by
 have H:=St.nil w [];have HK:Ks w [] [deA,y9 P]:=Ks.two hde hp;have HAL:Hid (∀ w,deA.ho w->Calls z9 31 #[] w fun e w'=>e=.returned (.bool true)∧St w [] [] w'):=zh fun w h=>alive_c w h
 have HST:Hid (∀ w,Calls z9 33 #[.int .i64 1048576] w (Kb 1048576 w)):=zh fun w=>start_c 1048576 (by decide) _ rfl w
 obtain ⟨n,hn⟩:∃ n,g.length=n:=⟨_,rfl⟩
 obtain ⟨ad1,c1,e1,_⟩:=r1.shape;rw [hn] at e1;subst e1;have HIN:Hid (RowIn P Qj 5 (.slice ad1 n c1) g∧g.length=n∧(∀ q∈g,q.lt<256)∧True):=zh ⟨r1,hn,hb,trivial⟩;clear r1 hb hn hde hp;rcases zG ((n:Int)==0) with e0|e0
 ·skip
  go_enter j4,jP;go_wp2_with (first|go_big_skip|(go_at_call 31;with_reducible refine zm (HAL.out _ (H.known HK pk)) ?_;rintro e9 wc ⟨rfl,hb⟩;replace H:=H.grew hb.below;clear hb));go_ret;exact ⟨rfl,H.nix⟩
 rcases zG (decide ((40:Int)<(n:Int))) with e1|e1
 ·skip
  have e9:decide (40<n)=true:=(by simp at e1 ⊢;omega);go_enter j4,jP;go_wp2_with (first|go_big_skip|(go_at_call 31;with_reducible refine zm (HAL.out _ (H.known HK pk)) ?_;rintro e9 wc ⟨rfl,hb⟩;replace H:=H.grew hb.below;clear hb));go_ret;exact ⟨rfl,H.nix⟩
 have e9:decide (40<n)=false:=(by simp at e1 ⊢;omega);rcases zG (decide (a<0)) with e2|e2
 ·skip
  go_enter j4,jP;go_wp2_with (first|go_big_skip|(go_at_call 31;with_reducible refine zm (HAL.out _ (H.known HK pk)) ?_;rintro e9 wc ⟨rfl,hb⟩;replace H:=H.grew hb.below;clear hb));go_ret;exact ⟨rfl,H.nix⟩
 rcases zG (decide ((n:Int)<=a)) with e3|e3
 ·skip
  go_enter j4,jP;go_wp2_with (first|go_big_skip|(go_at_call 31;with_reducible refine zm (HAL.out _ (H.known HK pk)) ?_;rintro e9 wc ⟨rfl,hb⟩;replace H:=H.grew hb.below;clear hb));go_ret;exact ⟨rfl,H.nix⟩
 rcases zG (decide (b<0)) with e4|e4
 ·skip
  go_enter j4,jP;go_wp2_with (first|go_big_skip|(go_at_call 31;with_reducible refine zm (HAL.out _ (H.known HK pk)) ?_;rintro e9 wc ⟨rfl,hb⟩;replace H:=H.grew hb.below;clear hb));go_ret;exact ⟨rfl,H.nix⟩
 rcases zG (decide ((n:Int)<=b)) with e5|e5
 ·skip
  go_enter j4,jP;go_wp2_with (first|go_big_skip|(go_at_call 31;with_reducible refine zm (HAL.out _ (H.known HK pk)) ?_;rintro e9 wc ⟨rfl,hb⟩;replace H:=H.grew hb.below;clear hb));go_ret;exact ⟨rfl,H.nix⟩
 have hz0:¬ n=0:=(by simp at e0;omega);have hz1:¬ 40<n:=(by simp at e1;omega);obtain ⟨ja,rfl⟩:∃ j:Nat,a=(j:Nat):=⟨a.toNat,by simp at e2;omega⟩
 obtain ⟨jb,rfl⟩:∃ j:Nat,b=(j:Nat):=⟨b.toNat,by simp at e4;omega⟩
 have hja:ja<n:=(by simp at e3;omega);have hjb:jb<n:=(by simp at e5;omega);have e3n:decide (n<=ja)=false:=(by simp;omega);have e5n:decide (n<=jb)=false:=(by simp;omega);have HTX:Hid (∀ w,(y9 P).ho w->Calls z9 32 #[.slice ad1 n c1,.int .i64 300] w fun e w'=>∃ (v:Value) (ok:Bool) (ts:List (List Nat)),e=.returned (.tuple #[v,.bool ok])∧(ok=true->TxP g ts n)∧St w [] [zb yN 9 1 v ts] w'):=zh fun w h=>lw_text HIN.out.1 HIN.out.2.2.1 HIN.out.2.1 (by omega) w h
 have HAD:Hid (∀ (X0:Px) (ts:List (List Nat)),zL X0->X0.S=⟨1048576,[]⟩->TxP g ts n->∀ w,((pA X0).sep (y9 P)).ho w->Calls z9 34 #[.pointer (some ⟨X0.s,0,none⟩),.slice ad1 n c1] w fun e w'=>∃ (X1:Px) (v':Value) (ids:List Nat),e=.returned (.tuple #[v',.bool true])∧X0.Ext X1∧zL X1∧IdsOk X1.S ids ts n∧X1.S.list.length<=X0.S.list.length+n∧St w (pA X0).fp [pA X1,zb zX 26 1 v' ids] w'):=zh fun X0 ts q1 q2 q3 w h=>lw_add HIN.out.1 HIN.out.2.2.1 HIN.out.2.1 (by omega) q1 q2 q3 w h
 go_enter j4,jP;go_wp2_with (first|go_big_skip|(go_at_call 31;with_reducible refine zm (HAL.out _ (H.known HK pk)) ?_;rintro e9 wc ⟨rfl,hb⟩;replace H:=H.grew hb.below;clear hb));refine zm (HTX.out _ (H.known HK pk)) ?_;rintro e9 wc ⟨vt,ok,ts,rfl,hok,hb⟩;replace H:=zn (H.call0 hb);clear hb;cases ok
 ·clear hok;go_wp2_with (first|refine sL ?_|(refine sS ?_;clear H;intros;rename_i H));go_ret;exact ⟨rfl,H.picks .nil⟩
 have HTP:=zh (hok rfl);obtain ⟨gt,ct,e6,_⟩:=zZ (H.get (A:=zb yN 9 1 vt ts) pk) (by rw [HTP.out.len];omega);rw [HTP.out.len] at e6;subst e6;clear hok;go_wp2_with (first|refine sL ?_|(refine sS ?_;clear H;intros;rename_i H)|(go_at_call 33;with_reducible refine zm (HST.out _) ?_;rintro e9 wc ⟨X0,bm,mp,rfl,y1,y2,hb⟩;have HX0:=zh (za y1 y2);clear y1 y2;replace H:=zn (H.call0 hb);clear hb)|(go_at_call 34;with_reducible refine zm (HAD.out X0 ts HX0.out.1 HX0.out.2 HTP.out _ (H.sepK HK pk pk)) ?_;rintro e9 wc ⟨X1,vi,ids,rfl,y1,y2,y3,y4,hb⟩;have HX1:=zh (za y1 (za y2 (za y3 y4)));clear y1 y2 y3 y4;replace H:=zn ((H.pick pk).call hb);clear hb));obtain ⟨gi,ci,e5,_⟩:=zZ (H.get (A:=zb zX 26 1 vi ids) pk) (by rw [HX1.out.2.2.1.len];omega);rw [HX1.out.2.2.1.len] at e5;subst e5;have HLW:=zh (LwOk.of HTP.out HIN.out.2.1 (by omega) HX0.out.2 HX1.out.1 HX1.out.2.1 HX1.out.2.2.1 HX1.out.2.2.2);have HPX:Hid (X1.p=X0.p):=zh HX1.out.1.p;rw [← HPX.out] at H ⊢;have H2:=H.picks (.cons (A:=pA X1) pk (.cons (A:=blk bm (.cells #[.pointer (some ⟨X1.p,0,none⟩),.map (some mp)] 138)) pk (.cons (A:=zK z9 26 mp (([]:List (Nat×Nat)).map zP)) pk (.cons (A:=zb zX 26 1 (.slice (some ⟨gi,0,none⟩) n ci) ids) pk (.cons (A:=zb yN 9 1 (.slice (some ⟨gt,0,none⟩) n ct) ts) pk .nil)))));clear H;have H:=H2;clear H2;have hn40:n<=40:=(by omega);have hn1:1<=n:=(by omega);obtain ⟨xa,Ta,ta,hxa,hta,hDa,hTa,hTa3,hxa40,_,_,hba⟩:=HLW.out.at_ ja hja;obtain ⟨xb,Tb,tb,hxb,htb,hDb,hTb,hTb3,hxb40,_,_,hbb⟩:=HLW.out.at_ jb hjb;obtain ⟨bs,hbs⟩:∃ q,decide (Ta.txt=Tb.txt)=q:=⟨_,rfl⟩
 have HXA:Hid (∀ w,(zb zX 26 1 (.slice (some ⟨gi,0,none⟩) n ci) ids).ho w->w.cell? ⟨gi,ja,none⟩=some (.int .i64 (xa:Nat))):=zh fun w h=>by
  have:=zU h qy hxa (j:=0) rfl;simpa using this
 have HXB:Hid (∀ w,(zb zX 26 1 (.slice (some ⟨gi,0,none⟩) n ci) ids).ho w->w.cell? ⟨gi,jb,none⟩=some (.int .i64 (xb:Nat))):=zh fun w h=>by
  have:=zU h qy hxb (j:=0) rfl;simpa using this
 have HTA:Hid (∀ w,(zb yN 9 1 (.slice (some ⟨gt,0,none⟩) n ct) ts).ho w->w.cell? ⟨gt,ja,none⟩=some (.string (xT ta))):=zh fun w h=>by
  have:=zU h jD hta (j:=0) rfl;simpa using this
 have HTB:Hid (∀ w,(zb yN 9 1 (.slice (some ⟨gt,0,none⟩) n ct) ts).ho w->w.cell? ⟨gt,jb,none⟩=some (.string (xT tb))):=zh fun w h=>by
  have:=zU h jD htb (j:=0) rfl;simpa using this
 have HBE:Hid (((xT ta).toList==(xT tb).toList)=bs):=zh (by rw [VS hba hbb,← hbs,hTa,hTb]);have hroom0:X1.S.list.length+1200*kz 40 (kys [])<=X1.S.list.length+1200*41:=(by rw [unkN_nil];exact zt _);have HCL:=zh (fun w h hd hr=>classesL_c (bm:=bm) (mp:=mp) (gi:=gi) (ci:=ci) HLW.out hn1 (.refl _) HLW.out.ok (K:=[]) (fun q hq=>by simp at hq) hroom0 w h hd hr);have HSM0:Hid (∀ (X3:Px) (K3:List (Nat×Nat)),X1.Ext X3->zL X3->KnOk X3.S K3->X3.S.list.length+1200*kz 40 (kys K3)<=X1.S.list.length+1200*41->∀ w,((pA X3).sep ((blk bm (.cells #[.pointer (some ⟨X1.p,0,none⟩),.map (some mp)] 138)).sep (zK z9 26 mp (K3.map zP)))).ho w->(((pA X3).sep ((blk bm (.cells #[.pointer (some ⟨X1.p,0,none⟩),.map (some mp)] 138)).sep (zK z9 26 mp (K3.map zP)))).sep deA).ho w->Calls z9 46 #[.pointer (some ⟨bm,0,none⟩),.int .i64 (xa:Nat),.int .i64 (xb:Nat)] w fun e w'=>∃ (X':Px) (K':List (Nat×Nat)),e=.returned (.tuple #[.bool bs,.nilIface])∧X1.Ext X'∧X3.Ext X'∧zL X'∧KnOk X'.S K'∧X'.S.list.length+1200*kz 40 (kys K')<=X1.S.list.length+1200*41∧St w ((pA X3).sep ((blk bm (.cells #[.pointer (some ⟨X1.p,0,none⟩),.map (some mp)] 138)).sep (zK z9 26 mp (K3.map zP)))).fp [pA X',blk bm (.cells #[.pointer (some ⟨X1.p,0,none⟩),.map (some mp)] 138),zK z9 26 mp (K'.map zP)] w'):=zh fun X3 K3 q1 q2 q3 q4 w h hd=>by
  have:=sameL_c hDa hDb hTa3 hTb3 hxa40 hxb40 HLW.out.ok.ok HLW.out.most HLW.out.len q1 q2 q3 q4 w h hd;rw [hbs] at this;exact this
 have HTQ:Hid (ts[ja]?=some ta∧∀ x∈ta,x<256):=zh ⟨hta,hba⟩;clear e0 e1 e2 e3 e4 e5 e3n e5n HAL HST HTX HAD hz0 hz1 hxa hta hDa hTa hTa3 hxa40 hba hxb htb hDb hTb hTb3 hxb40 hbb hbs hroom0;go_wp2_with (first|refine sL ?_|(refine sS ?_;clear H;intros;rename_i H)|(go_at_call 45;with_reducible refine zm (HCL.out _ (St.join3 (H.pick3 (A:=pA X1) (B:=blk bm (.cells #[.pointer (some ⟨X1.p,0,none⟩),.map (some mp)] 138)) (C:=zK z9 26 mp (([]:List (Nat×Nat)).map zP)) pk pk pk)).ho9 ((St.join3 (H.pick3 (A:=pA X1) (B:=blk bm (.cells #[.pointer (some ⟨X1.p,0,none⟩),.map (some mp)] 138)) (C:=zK z9 26 mp (([]:List (Nat×Nat)).map zP)) pk pk pk)).sepK HK .here pk) ((St.join3 (H.pick3 (A:=pA X1) (B:=blk bm (.cells #[.pointer (some ⟨X1.p,0,none⟩),.map (some mp)] 138)) (C:=zK z9 26 mp (([]:List (Nat×Nat)).map zP)) pk pk pk)).sepO (B:=zb zX 26 1 (.slice (some ⟨gi,0,none⟩) n ci) ids) .here pk)) ?_;rintro e9 wc ⟨X3,K3,gc,outA,cls,rfl,z1,z2,z3,z4,z5,z6,z7,hb⟩;have HZ3:=zh (za z1 (za z2 (za z3 (za z4 (za z5 (za z6 z7))))));clear z1 z2 z3 z4 z5 z6 z7;replace H:=zn ((St.join3 (H.pick3 (A:=pA X1) (B:=blk bm (.cells #[.pointer (some ⟨X1.p,0,none⟩),.map (some mp)] 138)) (C:=zK z9 26 mp (([]:List (Nat×Nat)).map zP)) pk pk pk)).call hb);clear hb));have HSM:=zh (HSM0.out X3 K3 HZ3.out.1 HZ3.out.2.2.1 HZ3.out.2.2.2.1 HZ3.out.2.2.2.2.2.1);replace H:St w [] [pA X3,blk bm (.cells #[.pointer (some ⟨X1.p,0,none⟩),.map (some mp)] 138),zK z9 26 mp (K3.map zP),zb zX 3 1 (.slice (some ⟨gc,0,none⟩) n n) cls,zb zX 26 1 (.slice (some ⟨gi,0,none⟩) n ci) ids,zb yN 9 1 (.slice (some ⟨gt,0,none⟩) n ct) ts] _:=H.picks (.cons (A:=pA X3) pk (.cons (A:=blk bm (.cells #[.pointer (some ⟨X1.p,0,none⟩),.map (some mp)] 138)) pk (.cons (A:=zK z9 26 mp (K3.map zP)) pk (.cons (A:=zb zX 3 1 (.slice (some ⟨gc,0,none⟩) n n) cls) pk (.cons (A:=zb zX 26 1 (.slice (some ⟨gi,0,none⟩) n ci) ids) pk (.cons (A:=zb yN 9 1 (.slice (some ⟨gt,0,none⟩) n ct) ts) pk .nil))))));refine zN 15 [⟨[],fun v _=>v=.pointer (some ⟨bm,0,none⟩)⟩,⟨[],fun v _=>v=.slice (some ⟨gi,0,none⟩) n ci⟩,⟨[],fun v _=>v=.int .i64 ja⟩,⟨[1,2],fun v _=>v=.pointer (some ⟨gi,ja,none⟩)⟩,⟨[3],fun v _=>v=.int .i64 (xa:Nat)⟩,⟨[],fun v _=>v=.slice (some ⟨gi,0,none⟩) n ci⟩,⟨[],fun v _=>v=.int .i64 jb⟩,⟨[5,6],fun v _=>v=.pointer (some ⟨gi,jb,none⟩)⟩,⟨[7],fun v _=>v=.int .i64 (xb:Nat)⟩,⟨[0,4,8],fun v _=>v=.tuple #[.bool bs,.nilIface]⟩,⟨[9],fun v _=>v=.tuple #[.bool bs,.nilIface]⟩,⟨[10],fun v _=>v=.bool bs⟩,⟨[10],fun v _=>v=.nilIface⟩,⟨[11],fun v _=>v=.bool bs⟩,⟨[12],fun v _=>v=.nilIface⟩] [9] [[0],[0],[0],[0],[0],[0],[0],[0],[0],[0],[1],[1],[1],[1],[1]] [fun _ wx=>St w [] [pA X3,blk bm (.cells #[.pointer (some ⟨X1.p,0,none⟩),.map (some mp)] 138),zK z9 26 mp (K3.map zP),zb zX 3 1 (.slice (some ⟨gc,0,none⟩) n n) cls,zb zX 26 1 (.slice (some ⟨gi,0,none⟩) n ci) ids,zb yN 9 1 (.slice (some ⟨gt,0,none⟩) n ct) ts] wx,fun vals wx=>∃ (X4:Px) (K4:List (Nat×Nat)),(X1.Ext X4∧X3.Ext X4∧zL X4∧KnOk X4.S K4∧X4.S.list.length+1200*kz 40 (kys K4)<=X1.S.list.length+1200*41)∧St w [] [pA X4,blk bm (.cells #[.pointer (some ⟨X1.p,0,none⟩),.map (some mp)] 138),zK z9 26 mp (K4.map zP),zb zX 3 1 (.slice (some ⟨gc,0,none⟩) n n) cls,zb zX 26 1 (.slice (some ⟨gi,0,none⟩) n ci) ids,zb yN 9 1 (.slice (some ⟨gt,0,none⟩) n ct) ts] wx]
  [[],[],[],[(1,81),(2,82)],[(3,83)],[],[],[(5,85),(6,86)],[(7,87)],[(0,80),(4,84),(8,88)],[(9,89)],[(10,79)],[(10,79)],[(11,90)],[(12,91)]] [(0,80),(1,81),(2,82),(3,83),(4,84),(5,85),(6,86),(7,87),(8,88),(9,89),(10,79),(11,90),(12,91),(13,15),(14,16)] (by kernel_rfl) (by kernel_rfl) H.drew ⟨⟨qo,trivial⟩,⟨qo,trivial⟩,⟨qo,trivial⟩,⟨?_,trivial⟩,⟨ql,trivial⟩,⟨qo,trivial⟩,⟨qo,trivial⟩,⟨?_,trivial⟩,⟨ql,trivial⟩,⟨?_,trivial⟩,⟨qo,trivial⟩,⟨qo,trivial⟩,⟨qo,trivial⟩,⟨qo,trivial⟩,⟨qo,trivial⟩,trivial⟩ ?_
 ·intro vals wx hd HC;simp only [GF] at hd;have H:=HC;simp only [CA] at H;simp only [PS,hd];go_simp;first|exact HC|exact ⟨rfl,HC⟩|(rw [if_pos hja];exact ⟨rfl,HC⟩)
 ·intro vals wx hd HC;simp only [GF] at hd;have H:=HC;simp only [CA] at H;simp only [PS,hd];go_simp;first|exact HC|exact ⟨rfl,HC⟩|(rw [if_pos hjb];exact ⟨rfl,HC⟩)
 ·intro vals wx hd HC;simp only [GF] at hd;obtain ⟨h0,h4,h8⟩:=hd;have H:=HC;simp only [CA] at H;simp only [PS,h0,h4,h8];clear h0 h4 h8 HC;go_simp;with_reducible refine zm (HSM.out _ (St.join3 (H.pick3 (A:=pA X3) (B:=blk bm (.cells #[.pointer (some ⟨X1.p,0,none⟩),.map (some mp)] 138)) (C:=zK z9 26 mp (K3.map zP)) pk pk pk)).ho9 ((St.join3 (H.pick3 (A:=pA X3) (B:=blk bm (.cells #[.pointer (some ⟨X1.p,0,none⟩),.map (some mp)] 138)) (C:=zK z9 26 mp (K3.map zP)) pk pk pk)).sepK HK .here pk)) ?_
  rintro e wz ⟨X4,K4,rfl,y1,y2,y3,y4,y5,hb⟩;have H2:=(St.join3 (H.pick3 (A:=pA X3) (B:=blk bm (.cells #[.pointer (some ⟨X1.p,0,none⟩),.map (some mp)] 138)) (C:=zK z9 26 mp (K3.map zP)) pk pk pk)).call hb;simp only [zl,zr] at H2;exact ⟨_,rfl,rfl,X4,K4,⟨y1,y2,y3,y4,y5⟩,H2.picks (.cons (A:=pA X4) pk (.cons (A:=blk bm (.cells #[.pointer (some ⟨X1.p,0,none⟩),.map (some mp)] 138)) pk (.cons (A:=zK z9 26 mp (K4.map zP)) pk (.cons (A:=zb zX 3 1 (.slice (some ⟨gc,0,none⟩) n n) cls) pk (.cons (A:=zb zX 26 1 (.slice (some ⟨gi,0,none⟩) n ci) ids) pk (.cons (A:=zb yN 9 1 (.slice (some ⟨gt,0,none⟩) n ct) ts) pk .nil))))))⟩
 intro vals wx hd HC;simp only [CA] at HC;obtain ⟨X4,K4,hj4,H⟩:=HC;simp only [GF] at hd;simp only [PS,hd];clear hd;have HY4:=zh hj4;clear hj4;have HA5:=zh (fun w h hd hr=>allL_c (bm:=bm) (mp:=mp) (gi:=gi) (ci:=ci) HLW.out HY4.out.1 HY4.out.2.2.1 HY4.out.2.2.2.1 HY4.out.2.2.2.2 w h hd hr);go_wp2_with (first|refine sL ?_|(refine sS ?_;clear H;intros;rename_i H)|(go_at_call 44;with_reducible refine zm (HA5.out _ (St.join3 (H.pick3 (A:=pA X4) (B:=blk bm (.cells #[.pointer (some ⟨X1.p,0,none⟩),.map (some mp)] 138)) (C:=zK z9 26 mp (K4.map zP)) pk pk pk)).ho9 ((St.join3 (H.pick3 (A:=pA X4) (B:=blk bm (.cells #[.pointer (some ⟨X1.p,0,none⟩),.map (some mp)] 138)) (C:=zK z9 26 mp (K4.map zP)) pk pk pk)).sepK HK .here pk) ((St.join3 (H.pick3 (A:=pA X4) (B:=blk bm (.cells #[.pointer (some ⟨X1.p,0,none⟩),.map (some mp)] 138)) (C:=zK z9 26 mp (K4.map zP)) pk pk pk)).sepO (B:=zb zX 26 1 (.slice (some ⟨gi,0,none⟩) n ci) ids) .here pk)) ?_;rintro e9 wc ⟨X5,K5,vo,out,rfl,z1,z2,z3,z4,z5,z6,hb⟩;have HZ5:=zh (za z1 (za z2 (za z3 (za z4 (za z5 z6)))));clear z1 z2 z3 z4 z5 z6;replace H:=zn ((St.join3 (H.pick3 (A:=pA X4) (B:=blk bm (.cells #[.pointer (some ⟨X1.p,0,none⟩),.map (some mp)] 138)) (C:=zK z9 26 mp (K4.map zP)) pk pk pk)).call hb);clear hb;obtain ⟨go,co,e5,_⟩:=zZ (H.get (A:=zb zX 26 1 vo out) pk) (by rw [HZ5.out.2.2.2.2.1.len];omega);rw [HZ5.out.2.2.2.2.1.len] at e5;subst e5));have HRC:Hid (∀ w,(zb yN 9 1 (.slice (some ⟨gt,0,none⟩) n ct) ts).ho w->Calls z9 48 #[.slice (some ⟨gt,0,none⟩) n ct] w fun e w'=>∃ g9 c9:Nat,e=.returned (.slice (some ⟨g9,0,none⟩) n c9)∧St w [] [zb zX 3 1 (.slice (some ⟨g9,0,none⟩) n c9) cls] w'):=zh fun w h=>by
  refine (KE HTP.out.len hn40 (fun t ht=>?_) w h).mono ?_
  ·obtain ⟨j,hj,e⟩:=List.mem_iff_getElem.1 ht;have:=HTP.out.get (l:=j) (a:=t) (by rw [HIN.out.2.1];exact zt _) (by rw [← e];exact zg hj);exact this.2.2
  ·rintro e w' ⟨v,cl,rfl,h2,hst⟩;have hcl:=cls_eq HZ3.out.2.2.1.ok HZ3.out.2.2.2.2.1 HTP.out.len HZ3.out.2.2.2.2.2.2 h2;subst hcl;obtain ⟨g9,c9,e7,_⟩:=zZ (hst.ho _ zM) (by rw [h2.1];omega);rw [h2.1] at e7;subst e7;exact ⟨g9,c9,rfl,hst⟩
 have HIT:Hid (∀ (g9 c9:Nat) (w:World),(zb zX 3 1 (.slice (some ⟨gc,0,none⟩) n n) cls).ho w->(zb zX 3 1 (.slice (some ⟨g9,0,none⟩) n c9) cls).ho w->Calls z9 47 #[.slice (some ⟨gc,0,none⟩) n n,.slice (some ⟨g9,0,none⟩) n c9] w fun e w'=>e=.returned (.bool true)∧St w [] [] w'):=zh fun g9 c9 w h1 h2=>ints_c HZ3.out.2.2.2.2.2.2.1 hn40 w h1 h2
 replace H:St w [] [pA X5,blk bm (.cells #[.pointer (some ⟨X1.p,0,none⟩),.map (some mp)] 138),zK z9 26 mp (K5.map zP),zb zX 26 1 (.slice (some ⟨go,0,none⟩) n co) out,zb zX 3 1 (.slice (some ⟨gc,0,none⟩) n n) cls,zb zX 26 1 (.slice (some ⟨gi,0,none⟩) n ci) ids,zb yN 9 1 (.slice (some ⟨gt,0,none⟩) n ct) ts] _:=H.picks (.cons (A:=pA X5) pk (.cons (A:=blk bm (.cells #[.pointer (some ⟨X1.p,0,none⟩),.map (some mp)] 138)) pk (.cons (A:=zK z9 26 mp (K5.map zP)) pk (.cons (A:=zb zX 26 1 (.slice (some ⟨go,0,none⟩) n co) out) pk (.cons (A:=zb zX 3 1 (.slice (some ⟨gc,0,none⟩) n n) cls) pk (.cons (A:=zb zX 26 1 (.slice (some ⟨gi,0,none⟩) n ci) ids) pk (.cons (A:=zb yN 9 1 (.slice (some ⟨gt,0,none⟩) n ct) ts) pk .nil)))))));refine zN 37 [⟨[],fun v _=>v=.nilIface⟩,⟨[0],fun v _=>v=.bool false⟩,⟨[1],fun v _=>v=.bool false⟩,⟨[2],fun v _=>v=.nilIface⟩,⟨[2,3],fun v _=>v=.bool false⟩,⟨[2,4],fun v _=>v=.bool false⟩,⟨[5],fun v _=>v=.bool false⟩,⟨[6],fun v _=>v=.nilIface⟩,⟨[6,7],fun v _=>v=.bool false⟩,⟨[6,8],fun v _=>v=.bool false⟩,⟨[9],fun v _=>v=.bool false⟩,⟨[10],fun v _=>v=.slice (some ⟨gc,0,none⟩) n n⟩,⟨[10],fun v _=>v=.slice (some ⟨gt,0,none⟩) n ct⟩,⟨[12,10],fun _ _=>True⟩,⟨[10,11],fun v _=>v=.bool true⟩,⟨[10,14],fun v _=>v=.bool false⟩,⟨[10,15],fun v _=>v=.bool false⟩,⟨[16],fun v _=>v=.bool false⟩,⟨[17],fun v _=>v=.bool bs⟩,⟨[17],fun v _=>v=.slice (some ⟨gt,0,none⟩) n ct⟩,⟨[17],fun v _=>v=.int .i64 ja⟩,⟨[17,19,20],fun v _=>v=.pointer (some ⟨gt,ja,none⟩)⟩,⟨[17,21],fun v _=>v=.string (xT ta)⟩,⟨[17],fun v _=>v=.slice (some ⟨gt,0,none⟩) n ct⟩,⟨[17],fun v _=>v=.int .i64 jb⟩,⟨[17,23,24],fun v _=>v=.pointer (some ⟨gt,jb,none⟩)⟩,⟨[17,25],fun v _=>v=.string (xT tb)⟩,⟨[17,22,26],fun v _=>v=.bool bs⟩,⟨[17,18,27],fun v _=>v=.bool false⟩,⟨[17,28],fun v _=>v=.bool false⟩,⟨[29],fun v _=>v=.bool false⟩,⟨[30],fun v _=>v=.slice (some ⟨go,0,none⟩) n co⟩,⟨[30,31],fun v _=>v=.int .i64 n⟩,⟨[30],fun v _=>v=.slice (some ⟨gi,0,none⟩) n ci⟩,⟨[30,33],fun v _=>v=.int .i64 n⟩,⟨[30,32,34],fun v _=>v=.bool false⟩,⟨[30,35],fun v _=>v=.bool false⟩] [13] [[0],[0],[0],[0],[0],[0],[0],[0],[0],[0],[0],[0,1],[0],[0],[1],[1],[1],[1],[1],[1],[1],[1],[1],[1],[1],[1],[1],[1],[1],[1],[1],[1],[1],[1],[1],[1],[1]] [fun _ wx=>St w [] [pA X5,blk bm (.cells #[.pointer (some ⟨X1.p,0,none⟩),.map (some mp)] 138),zK z9 26 mp (K5.map zP),zb zX 26 1 (.slice (some ⟨go,0,none⟩) n co) out,zb zX 3 1 (.slice (some ⟨gc,0,none⟩) n n) cls,zb zX 26 1 (.slice (some ⟨gi,0,none⟩) n ci) ids,zb yN 9 1 (.slice (some ⟨gt,0,none⟩) n ct) ts] wx,fun vals wx=>(∃ g9 c9,vals 13=.slice (some ⟨g9,0,none⟩) n c9)∧St w [] [pA X5,blk bm (.cells #[.pointer (some ⟨X1.p,0,none⟩),.map (some mp)] 138),zK z9 26 mp (K5.map zP),zb zX 26 1 (.slice (some ⟨go,0,none⟩) n co) out,zb zX 3 1 (.slice (some ⟨gc,0,none⟩) n n) cls,zb zX 26 1 (.slice (some ⟨gi,0,none⟩) n ci) ids,zb yN 9 1 (.slice (some ⟨gt,0,none⟩) n ct) ts,zb zX 3 1 (vals 13) cls] wx]
  [[],[(0,98)],[(1,99)],[(2,100)],[(2,100),(3,101)],[(2,100),(4,102)],[(5,103)],[(6,104)],[(6,104),(7,105)],[(6,104),(8,106)],[(9,107)],[(10,108)],[(10,108)],[(10,108),(12,110)],[(10,108),(11,109),(13,111)],[(10,108),(14,112)],[(10,108),(15,113)],[(16,114)],[(17,115)],[(17,115)],[(17,115)],[(17,115),(19,117),(20,118)],[(17,115),(21,119)],[(17,115)],[(17,115)],[(17,115),(23,121),(24,122)],[(17,115),(25,123)],[(17,115),(22,120),(26,124)],[(17,115),(18,116),(27,125)],[(17,115),(28,126)],[(29,127)],[(30,128)],[(30,128),(31,129)],[(30,128)],[(30,128),(33,131)],[(30,128),(32,130),(34,132)],[(30,128),(35,133)]] [(0,98),(1,99),(2,100),(3,101),(4,102),(5,103),(6,104),(7,105),(8,106),(9,107),(10,108),(11,109),(12,110),(13,111),(14,112),(15,113),(16,114),(17,115),(18,116),(19,117),(20,118),(21,119),(22,120),(23,121),(24,122),(25,123),(26,124),(27,125),(28,126),(29,127),(30,128),(31,129),(32,130),(33,131),(34,132),(35,133),(36,134)] (by kernel_rfl) (sgx_tbl [[],[0],[0,1],[0,1,2],[0,1,2,3],[0,1,2,3,4],[0,1,2,3,4,5],[0,1,2,3,4,5,6],[0,1,2,3,4,5,6,7],[0,1,2,3,4,5,6,7,8],[0,1,2,3,4,5,6,7,8,9],[0,1,2,3,4,5,6,7,8,9,10],[0,1,2,3,4,5,6,7,8,9,10],[0,1,2,3,4,5,6,7,8,9,10,12],[0,1,2,3,4,5,6,7,8,9,10,11,12,13],[0,1,2,3,4,5,6,7,8,9,10,11,12,13,14],[0,1,2,3,4,5,6,7,8,9,10,11,12,13,14,15],[0,1,2,3,4,5,6,7,8,9,10,11,12,13,14,15,16],[0,1,2,3,4,5,6,7,8,9,10,11,12,13,14,15,16,17],[0,1,2,3,4,5,6,7,8,9,10,11,12,13,14,15,16,17],[0,1,2,3,4,5,6,7,8,9,10,11,12,13,14,15,16,17],[0,1,2,3,4,5,6,7,8,9,10,11,12,13,14,15,16,17,19,20],[0,1,2,3,4,5,6,7,8,9,10,11,12,13,14,15,16,17,19,20,21],[0,1,2,3,4,5,6,7,8,9,10,11,12,13,14,15,16,17],[0,1,2,3,4,5,6,7,8,9,10,11,12,13,14,15,16,17],[0,1,2,3,4,5,6,7,8,9,10,11,12,13,14,15,16,17,23,24],[0,1,2,3,4,5,6,7,8,9,10,11,12,13,14,15,16,17,23,24,25],[0,1,2,3,4,5,6,7,8,9,10,11,12,13,14,15,16,17,19,20,21,22,23,24,25,26],[0,1,2,3,4,5,6,7,8,9,10,11,12,13,14,15,16,17,18,19,20,21,22,23,24,25,26,27],[0,1,2,3,4,5,6,7,8,9,10,11,12,13,14,15,16,17,18,19,20,21,22,23,24,25,26,27,28],[0,1,2,3,4,5,6,7,8,9,10,11,12,13,14,15,16,17,18,19,20,21,22,23,24,25,26,27,28,29],[0,1,2,3,4,5,6,7,8,9,10,11,12,13,14,15,16,17,18,19,20,21,22,23,24,25,26,27,28,29,30],[0,1,2,3,4,5,6,7,8,9,10,11,12,13,14,15,16,17,18,19,20,21,22,23,24,25,26,27,28,29,30,31],[0,1,2,3,4,5,6,7,8,9,10,11,12,13,14,15,16,17,18,19,20,21,22,23,24,25,26,27,28,29,30],[0,1,2,3,4,5,6,7,8,9,10,11,12,13,14,15,16,17,18,19,20,21,22,23,24,25,26,27,28,29,30,33],[0,1,2,3,4,5,6,7,8,9,10,11,12,13,14,15,16,17,18,19,20,21,22,23,24,25,26,27,28,29,30,31,32,33,34],[0,1,2,3,4,5,6,7,8,9,10,11,12,13,14,15,16,17,18,19,20,21,22,23,24,25,26,27,28,29,30,31,32,33,34,35]] (by kernel_rfl) (by kernel_rfl)) H.drew ⟨⟨qo,trivial⟩,⟨qo,trivial⟩,⟨qo,trivial⟩,⟨qo,trivial⟩,⟨qo,trivial⟩,⟨qo,trivial⟩,⟨qo,trivial⟩,⟨qo,trivial⟩,⟨qo,trivial⟩,⟨qo,trivial⟩,⟨qo,trivial⟩,⟨qo,qo,trivial⟩,⟨qo,trivial⟩,⟨?_,trivial⟩,⟨?_,trivial⟩,⟨qo,trivial⟩,⟨qo,trivial⟩,⟨qo,trivial⟩,⟨qo,trivial⟩,⟨qo,trivial⟩,⟨qo,trivial⟩,⟨?_,trivial⟩,⟨ql,trivial⟩,⟨qo,trivial⟩,⟨qo,trivial⟩,⟨?_,trivial⟩,⟨ql,trivial⟩,⟨?_,trivial⟩,⟨qo,trivial⟩,⟨qo,trivial⟩,⟨qo,trivial⟩,⟨qo,trivial⟩,⟨qo,trivial⟩,⟨qo,trivial⟩,⟨qo,trivial⟩,⟨qo,trivial⟩,⟨qo,trivial⟩,trivial⟩ ?_
 ·intro vals wx hd HC;simp only [GF] at hd;obtain ⟨h12,h10⟩:=hd;have H:=HC;simp only [CA] at H;simp only [PS,h12,h10];clear h10 h12 HC;go_simp;with_reducible refine zm (HRC.out _ (H.get pk)) ?_
  rintro e wz ⟨g9,c9,rfl,hb⟩;have H2:=H.call0 hb;simp only [zl,zr] at H2;have H3:=H2.picks (.cons (A:=pA X5) pk (.cons (A:=blk bm (.cells #[.pointer (some ⟨X1.p,0,none⟩),.map (some mp)] 138)) pk (.cons (A:=zK z9 26 mp (K5.map zP)) pk (.cons (A:=zb zX 26 1 (.slice (some ⟨go,0,none⟩) n co) out) pk (.cons (A:=zb zX 3 1 (.slice (some ⟨gc,0,none⟩) n n) cls) pk (.cons (A:=zb zX 26 1 (.slice (some ⟨gi,0,none⟩) n ci) ids) pk (.cons (A:=zb yN 9 1 (.slice (some ⟨gt,0,none⟩) n ct) ts) pk (.cons (A:=zb zX 3 1 (.slice (some ⟨g9,0,none⟩) n c9) cls) pk .nil))))))));first|exact ⟨_,rfl,⟨g9,c9,rfl⟩,H3⟩|exact ⟨_,rfl,trivial,⟨g9,c9,rfl⟩,H3⟩|exact ⟨_,rfl,⟨⟨g9,c9,rfl⟩,H3⟩⟩
 ·intro vals wx hd HC;simp only [GF] at hd;obtain ⟨h10,h11⟩:=hd;have H:=HC;simp only [CA] at H;obtain ⟨⟨g9,c9,hv13⟩,H⟩:=H;simp only [PS,h10,h11];rw [hv13] at H;simp only [hv13];clear h11 h10;go_simp;with_reducible refine zm (HIT.out g9 c9 _ (H.get pk) (H.get pk)) ?_
  rintro e wz ⟨rfl,hb⟩;replace H:=H.grew hb.below;exact ⟨_,rfl,rfl,⟨g9,c9,hv13⟩,by rw [upV_ne vals _ (by decide:(13:Nat)≠14),hv13];exact H⟩
 ·intro vals wx hd HC;simp only [GF] at hd;have H:=HC;simp only [CA] at H;obtain ⟨⟨g9,c9,hv13⟩,H⟩:=H;simp only [PS,hd];go_simp;first|exact HC|exact ⟨rfl,HC⟩|(rw [if_pos hja];exact ⟨rfl,HC⟩)
 ·intro vals wx hd HC;simp only [GF] at hd;have H:=HC;simp only [CA] at H;obtain ⟨⟨g9,c9,hv13⟩,H⟩:=H;simp only [PS,hd];go_simp;first|exact HC|exact ⟨rfl,HC⟩|(rw [if_pos hjb];exact ⟨rfl,HC⟩)
 ·intro vals wx hd HC;simp only [GF] at hd;have H:=HC;simp only [CA] at H;obtain ⟨⟨g9,c9,hv13⟩,H⟩:=H;simp only [PS,hd];go_simp;first|exact HC|exact ⟨rfl,HC⟩|(rw [HBE.out];exact ⟨rfl,HC⟩)
 intro vals wx hd HC;simp only [CA] at HC;obtain ⟨⟨g9,c9,hv13⟩,H⟩:=HC;simp only [GF] at hd;simp only [PS,hd];clear hd;have HG9:=zh hv13;clear hv13;go_wp2_with (first|refine sL ?_|(refine sS ?_;clear H;intros;rename_i H));go_loopg [19] n (fun m v wr=>∃ i:Nat,m=n-i∧i<=n∧v=.int .i64 i∧St w [] [zb zX 26 1 (.slice (some ⟨go,0,none⟩) n co) out,zb yN 9 1 (.slice (some ⟨gt,0,none⟩) n ct) ts] wr);case atStart=>exact ⟨0,rfl,qk _,rfl,H.picks (.cons pk (.cons pk .nil))⟩
 case round =>
  clear H;obtain ⟨i,rfl,hik,rfl,H⟩:=hrel;by_cases hlt:i<n
  ·have d5:decide ((i:Int)<(n:Int))=true:=(by simp;omega);have d5n:decide (i<n)=true:=(by simp;omega);have hil:i<n:=hlt;obtain ⟨x,T,t,hx,ht,hD,hTt,hT3,hx40,_,_,hb⟩:=HLW.out.at_ i hlt;obtain ⟨yi,hyi,hyi2⟩:=HZ5.out.2.2.2.2.1.at_ i t hlt ht;obtain ⟨ya,hya,hya2⟩:=HZ5.out.2.2.2.2.1.at_ ja ta hja HTQ.out.1;have HYI:Hid (∀ w,(zb zX 26 1 (.slice (some ⟨go,0,none⟩) n co) out).ho w->w.cell? ⟨go,i,none⟩=some (.int .i64 (yi:Nat))):=zh fun w h=>by
    have:=zU h qy hyi (j:=0) rfl;simpa using this
   have HYA:Hid (∀ w,(zb zX 26 1 (.slice (some ⟨go,0,none⟩) n co) out).ho w->w.cell? ⟨go,ja,none⟩=some (.int .i64 (ya:Nat))):=zh fun w h=>by
    have:=zU h qy hya (j:=0) rfl;simpa using this
   have HTI:Hid (∀ w,(zb yN 9 1 (.slice (some ⟨gt,0,none⟩) n ct) ts).ho w->w.cell? ⟨gt,i,none⟩=some (.string (xT t))):=zh fun w h=>by
    have:=zU h jD ht (j:=0) rfl;simpa using this
   have hq1:=VS hb HTQ.out.2;have hq2:((yi:Int)==(ya:Int))=decide (t=ta):=by
    have:=out_eq HZ5.out.2.2.1.ok hyi2 hya2;by_cases hq:t=ta
    ·rw [decide_eq_true hq,this.2 hq];simp
    ·rw [decide_eq_false hq];simp only [beq_eq_false_iff_ne,ne_eq];intro e;exact hq (this.1 (by omega))
   obtain ⟨q,hq⟩:∃ q,decide (t=ta)=q:=⟨_,rfl⟩
   rw [hq] at hq1 hq2;clear hx ht hD hTt hT3 hx40 hb hyi hyi2 hya hya2 hq;go_wp2_with (first|refine sL ?_|(refine sS ?_;clear H;intros;rename_i H));refine zC H 19 [] [] (by kernel_rfl) (by kernel_rfl) ?_;apply Exists.intro;refine ⟨fun w1 hw1 HX=>?_,fun bs wr Hr=>?_⟩
   ·refine sG ?_;repeat (first|go_big_quiet_skip|refine sQ ?_|fail|go_big_quiet_step (fail))
    exact wpQuiet_nil rfl
   clear H;have H:=Hr;clear Hr;replace H:=sH H;refine sT ?_;go_wp2_with (first|refine sL ?_|(refine sS ?_;clear H;intros;rename_i H));go_roundg (n-(i+1));case measure=>omega
   case rel=>exact ⟨i+1,rfl,by omega,by go_num,H⟩
  ·have d5:decide ((i:Int)<(n:Int))=false:=(by simp;omega);have d5n:decide (i<n)=false:=(by simp;omega);go_wp2_with (first|refine sL ?_|(refine sS ?_;clear H;intros;rename_i H));go_ret;exact ⟨rfl,H.picks .nil⟩
end
section
open Go.ChangeShapes Go.WideShapes Go.ChangeAt Go.RowKit Go.Deep
def fits64 (z:Int):Prop:=-9223372036854775808<=z∧z<=9223372036854775807
theorem ownK:ownKnob z9.godebug=none:=by kernel_rfl
theorem i64_wf {x:Int} (h:(Lit.int .i64 x).wf=true):fits64 x:=by
 simp [Lit.wf,IntKind.min,IntKind.max,IntKind.signed,IntKind.bits] at h;unfold fits64;omega
theorem u8_wf {x:Int} (h:(Lit.int .u8 x).wf=true):∃ n:Nat,x=(n:Int)∧n<256:=by
 simp [Lit.wf,IntKind.min,IntKind.max,IntKind.signed,IntKind.bits] at h;exact ⟨x.toNat,by omega,by omega⟩
section
variable {H:Type} {enc:TypeId×Value->H} {w:World} {base:Nat} {spare:Nat->Bool} {held:Bool}
theorem open_row {α:Type} [Inhabited α] {ec:α->List Value} {k:Nat} (hk:∀ x,(ec x).length=k) (hk0:0<k) {t e:TypeId} (ht:z9.underlying t=some (.slice e)) (hc:z9.cellsOf e=k) (Ok:α->Prop)
  (el:∀ n cs y,cs.length=k->DataW.trod enc z9 w base spare held n e cs=some y->∃ x,cs=ec x∧Ok x) {fuel:Nat} {cs:List Value} {x:DataW H×List MemPlace} (h:DataW.trod enc z9 w base spare held fuel t cs=some x) :
  ∃ (v:Value) (xs:List α) (P:we),cs=[v]∧RowIn P ec k v xs∧(y9 P).ho w∧(∀ x∈xs,Ok x)∧∃ ad c,v=.slice ad xs.length c∧xs.length<=c:=by
 rcases open_slice ht h with ⟨hcs,_⟩|⟨a,len,cap,m,n,D,Pl,hcs,_,hl,hm,hmm,_,hx⟩
 ·exact ⟨_,[],[],hcs,RowIn.nil 0,YH w,by simp,_,_,rfl,zt _⟩
 ·have hml:len<=m:=(by rw [hmm];split <;> omega);rw [hc] at hx;by_cases h0:len=0
  ·subst h0;exact ⟨_,[],[],hcs,⟨some a,cap,rfl,by simp,fun h=>by simp at h⟩,YH w,by simp,_,_,rfl,qk _⟩
  obtain ⟨b,o,spot⟩:=a;have key:∀ i,i<len->∃ x:α,w.cells? base ((⟨b,o,spot⟩:Addr).add (i*k)) k=some (ec x)∧Ok x:=fun i hi=>by
   obtain ⟨cs',h1,h2⟩:=hx i (by omega);obtain ⟨x,rfl,hok⟩:=el _ _ _ (World.cells?_some h1).2.1 h2;exact ⟨x,h1,hok⟩
  obtain ⟨f,hf2⟩:=choose_lt (α:=α) key;have hcell:∀ i,i<len->∀ j u,(ec (f i))[j]?=some u->w.cell? (((⟨b,o,spot⟩:Addr).add (i*k)).add j)=some u:=fun i hi j u hj=>by
   have hj4:j<k:=(by have:=(xA.1 hj).1;rwa [hk] at this);have:=(World.cells?_some (hf2 i hi).1).2.2 j hj4;rw [this,hj]
  have hl4:0<(ec (f 0)).length:=(by rw [hk];omega);have hspot:spot=none:=by
   have:=World.cell?_spot (hcell 0 (by omega) 0 _ (zg hl4));simpa [Addr.add] using this
  subst hspot;have hadd:∀ i j,((⟨b,o,none⟩:Addr).add (i*k)).add j=⟨b,o+(i*k+j),none⟩:=fun i j=>by rw [Addr.add_mid,Addr.add_mid];congr 1;omega
  have hblk:b<w.heap.size:=by
   have:=block_lt_of_cell (hcell 0 (by omega) 0 _ (zg hl4));rw [hadd] at this;exact this
  unfold maxLen at hm;have hlen:((zj len).map f).length=len:=(by simp);refine ⟨_,(zj len).map f,[(b,o,zY ec ((zj len).map f))],hcs,⟨some ⟨b,o,none⟩,cap,by rw [hlen],by rw [hlen];unfold maxLen;omega,fun _=>⟨b,o,rfl,by simp⟩⟩,?_,?_,_,cap,by rw [hlen],by rw [hlen];exact hl⟩
  ·rw [ve];intro y hy;simp only [J3] at hy;subst hy;refine ⟨hblk,fun jj u hj=>?_⟩;have hjl:=qJ hj;rw [yY ec k hk,hlen] at hjl;have hi:jj/k<len:=(by rw [Nat.div_lt_iff_lt_mul hk0];exact hjl);have hjk:jj%k<k:=qV _ hk0;have hget:((zj len).map f)[jj/k]?=some (f (jj/k)):=(by rw [yj,List.getElem?_range hi];rfl);have hfl:=ZZ ec k hk _ (jj/k) _ hget (jj%k) hjk;have hdm:jj/k*k+jj%k=jj:=(by have:=Nat.div_add_mod jj k;rw [xq] at this;exact this);rw [hdm,hj] at hfl;have:=hcell (jj/k) hi (jj%k) u hfl.symm;rw [hadd,hdm] at this;exact this
  ·intro y hy;obtain ⟨i,hi,rfl⟩:=qQ.1 hy;exact (hf2 i (zJ.1 hi)).2
theorem arg_int {r:Reach} {b0:Nat} {v:Value} {d:DataW H} {p:List MemPlace} (hv:Value.okWide z9 w r b0 3 v) (h:DataW.Trod enc z9 w base spare held 3 v d p):∃ z,v=.int .i64 z∧fits64 z:=by
 obtain ⟨z,rfl,h1,h2,h3⟩:=open_int Tryz.underlying3 hv h;exact ⟨z,rfl,i64_wf h3⟩
end
theorem gTab:z9.globalNamed "math/bits.deBruijn64tab"=some 0:=by kernel_rfl
theorem tTab:(z9.globals[0]?).map (·.type)=some 291:=by kernel_rfl
theorem tab_is {H:Type}:(Rows.laid_math_bits_deBruijn64tab:DataW H)=.agg (Lib.deBruijn64tab.map fun (n:Nat)=>.lit (.int .u8 n)):=rfl
theorem tab_of {W:World} (h:laidMetH z9 [("math/bits.deBruijn64tab",Rows.laid_math_bits_deBruijn64tab)] W):deA.ho W:=by
  rw [deA_ho];rw [MakeChecks.laidMetH_plain _ _ _ (by kernel_rfl)] at h;obtain ⟨ps,⟨g0,t0,cs0,f0,p0,q0,hg0,ht0,hv0,hd0,_,_⟩,_,_⟩:=h;obtain rfl:=yn.inj (gTab.symm.trans hg0);obtain rfl:=yn.inj (tTab.symm.trans ht0);obtain ⟨xs,m1,hfu,hx1,hlen,hn3,hel⟩:=DataW.trod_array Tryz.underlying291 hd0;have c5:z9.cellsOf 5=1:=(by kernel_rfl);have key:∀ j,j<64->W.cell? ⟨0,j,none⟩=some (.int .u8 (Lib.deBruijn64tab.getD j 0:Nat)):=fun j hj=>by
    have h0:=hel j hj;rw [c5] at h0;obtain ⟨y,hy⟩:∃ y,xs[j]?=some y:=⟨xs[j]'(by omega),zg _⟩
    rw [hy] at h0;obtain ⟨k,e1,e2,_⟩:=DataW.trod_int Tryz.underlying5 h0;rw [tab_is] at hx1;simp only [Prod.mk.injEq,DataW.agg.injEq] at hx1;have e3:=congrArg (fun l:List (DataW Unit)=>l[j]?) hx1.1;simp only [yj,hy,Qf] at e3
    have hl : j < Lib.deBruijn64tab.length := by have : Lib.deBruijn64tab.length = 64 := by decide
                                                 omega
    rw [zg hl,Qf] at e3;have hk:k=(Lib.deBruijn64tab[j]:Nat):=by
      have:=yn.inj e3;rw [e2] at this;simp at this;exact this.symm
    have hcl:=World.var?_cell hg0 hv0 j;have e4:cs0.toList[j]?=some (.int .u8 k):=by
      have:=congrArg List.head? e1;rw [Nat.mul_one,List.head?_take,if_neg (by omega),List.head?_drop] at this;simpa using this
    rw [hcl,← Array.getElem?_toList,e4,hk];simp [List.getD,hl]
  have h64:Lib.deBruijn64tab.length=64:=(by decide);exact ⟨fun j hj=>key j (by omega),by have:=block_lt_of_cell (key 0 (by omega));exact this⟩
theorem door_met (os:Os) (args:Array Value):laidMetH z9 [("math/bits.deBruijn64tab",Rows.laid_math_bits_deBruijn64tab)] ((World.doorLaid z9 400 os).forCall (fun _ _=>0) ⟨#[],args,[]⟩).memory :=
 laidMetH_of_parts3 (fuel:=80) (laidMet_of_run' 80 (by kernel_rfl) (by kernel_rfl)) (by kernel_rfl) (by kernel_rfl)
end
section
open Go.ChangeShapes Go.WideShapes Go.ChangeAt Go.RowKit Go.Deep
section
variable {H:Type} {enc:TypeId×Value->H} {w:World} {base:Nat} {spare:Nat->Bool} {held:Bool}
instance:Inhabited Gz:=⟨⟨0,0,0,0,0⟩⟩
theorem trod_rule {n:Nat} {cs:List Value} {y:DataW H×List MemPlace} (hl:cs.length=5) (h:DataW.trod enc z9 w base spare held n 131 cs=some y):∃ q:Gz,cs=Qj q∧q.lt<256:=by
 obtain ⟨a0,a1,a2,a3,a4,rfl⟩:∃ a0 a1 a2 a3 a4,cs=[a0,a1,a2,a3,a4]:=by
  match cs,hl with
  |[a0,a1,a2,a3,a4],_=>exact ⟨a0,a1,a2,a3,a4,rfl⟩
 have c3:z9.cellsOf 3=1:=(by kernel_rfl);have c4:z9.cellsOf 5=1:=(by kernel_rfl);have c9:z9.cellsOf 26=1:=(by kernel_rfl);obtain ⟨xs,n2,_,rfl,hcl,hlen,hf⟩:=DataW.trod_struct Tryz.underlying131 h
 match xs,hlen with
 |[y0,y1,y2,y3,y4],_ =>
  have f0:DataW.trod enc z9 w base spare held n2 3 [a0]=some y0:=by
   have:=hf 0 _ rfl;simpa [c3,c4,c9] using this
  have f1:DataW.trod enc z9 w base spare held n2 5 [a1]=some y1:=by
   have:=hf 1 _ rfl;simpa [c3,c4,c9] using this
  have f2:DataW.trod enc z9 w base spare held n2 26 [a2]=some y2:=by
   have:=hf 2 _ rfl;simpa [c3,c4,c9] using this
  have f3:DataW.trod enc z9 w base spare held n2 26 [a3]=some y3:=by
   have:=hf 3 _ rfl;simpa [c3,c4,c9] using this
  have f4:DataW.trod enc z9 w base spare held n2 3 [a4]=some y4:=by
   have:=hf 4 _ rfl;simpa [c3,c4,c9] using this
  obtain ⟨z0,e0,_,w0⟩:=DataW.trod_int Tryz.underlying3 f0;obtain ⟨z1,e1,_,w1⟩:=DataW.trod_int Tryz.underlying5 f1;obtain ⟨z2,e2,_,w2⟩:=DataW.trod_int Tryz.underlying26 f2;obtain ⟨z3,e3,_,w3⟩:=DataW.trod_int Tryz.underlying26 f3;obtain ⟨z4,e4,_,w4⟩:=DataW.trod_int Tryz.underlying3 f4;simp only [Zt.injEq,and_true] at e0 e1 e2 e3 e4;subst e0 e1 e2 e3 e4;obtain ⟨k,rfl,hk⟩:=u8_wf w1;exact ⟨⟨z0,k,z2,z3,z4⟩,rfl,hk⟩
theorem arg_rules {r:Reach} {b0:Nat} {v:Value} {d:DataW H} {p:List MemPlace} (hv:Value.okWide z9 w r b0 54 v) (h:DataW.Trod enc z9 w base spare held 54 v d p) :
  ∃ (g:List Gz) (P:we),RowIn P Qj 5 v g∧(∀ q∈g,q.lt<256)∧(y9 P).ho w:=by
 obtain ⟨a,n,c,rfl⟩:=okWide_slice Tryz.underlying54 hv;obtain ⟨fuel,hf⟩:=h;have c5:z9.cellsOf 131=5:=(by kernel_rfl);obtain ⟨v2,xs,P,e,h1,h2,h3,ad,c2,h4,h5⟩:=open_row (ec:=Qj) Yw (by omega) Tryz.underlying54 c5 (fun q=>q.lt<256) (fun n cs y hl hy=>trod_rule hl hy) hf;simp only [Value.cells,Zt.injEq,and_true] at e;first|subst e|(have e:=(Zt.inj e).1;subst e)
 exact ⟨xs,P,h1,h3,h2⟩
end
end
end Go.Proofs.YtgnppnokkdghcaaGreatDoor
