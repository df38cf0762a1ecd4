/-
  Part 2 of the texts behind the statements of this seat: walks and laws Fb, De, Fc, Fd, Fe, Ff, Gm, Fg. Conditions: as each states.
-/
import Derived.Test.YtgnppnokkdghcaaGreatDoorAw1
import Derived.Laws.Concat
import Derived.Laws.IdiomStrings
import Derived.Lib.BufferRead
set_option linter.unusedSimpArgs false
set_option linter.unusedVariables false
set_option maxRecDepth 100000
set_option maxHeartbeats 80000000
namespace Go.Proofs.YtgnppnokkdghcaaGreatDoor
section
open Go.RowKit Go.Maps
attribute [local go_sem] InGr
abbrev IdPost (X:Px) (s:List Tr) (k:Nat) (M:List Nat) (w:World) (e:Ending) (w':World):Prop :=
 ∃ (X':Px) (id:Nat),e=.returned (.tuple #[.int .i64 id,.nilIface])∧X.Ext X'∧PxOk X'∧IdIs X'.S id s∧X'.S.list.length<=X.S.list.length+k∧St w M [pA X'] w'
theorem join_c {X:Px} {a b:Nat} {sa sb:List Tr} (hX:PxOk X) (ha:IdIs X.S a sa) (hb:IdIs X.S b sb) (hl:sa.length+sb.length<=1048576) (hroom:X.S.list.length+(sa.length+sb.length)<=X.S.most) (w:World) (h:PH X w) :
  Calls Tryz.prog 94 #[.pointer (some ⟨X.p,0,none⟩),.int .i64 a,.int .i64 b] w (IdPost X (sa++sb) (sa.length+sb.length) (pA X).fp w):=by
 have h:((pA X).sep deA).ho w:=h;rw [sep_ho] at h;obtain ⟨k1,k2,hdd⟩:=h;have H:=St.one k1;have HK:Ks w (pA X).fp [deA]:=⟨by simpa using k2,by simpa using fun b hb hm=>hdd b hm hb⟩
 generalize (pA X).fp=N at *;clear k1 k2 hdd;have HSZ:Hid (∀ w,(pA X).ho w->Calls Tryz.prog 92 #[.pointer (some ⟨X.p,0,none⟩),.int .i64 a] w fun e w'=>e=.returned (.int .i64 (sa.length:Nat))∧St w [] [] w'):=zh fun w h=>size_any hX ha w h
 have HSP:Hid (∀ w,((pA X).sep deA).ho w->Calls Tryz.prog 123 #[.pointer (some ⟨X.p,0,none⟩),.int .i64 a,.int .i64 (sa.length:Nat),.int .i64 b,.int .i64 0] w (IdPost X (sa++sb) (sa.length+sb.length) (pA X).fp w)):=zh fun w h=>by
  have:=splice_c (X:=X) (a:=a) (i:=sa.length) (sa:=sa) (b:=b) (j:=0) (sb:=sb) hX ha hb (Nat.le_refl _) (Nat.zero_le _) (by simp;omega) (by simp;omega) w h;simp only [List.take_length,List.drop_zero,List.length_append] at this;exact this
 clear hX ha hb hl hroom;go_enter Tryz.func94,Tryz.ntmps94;go_wp2_with (first|refine sL ?_|(refine sS ?_;clear H;intros;rename_i H)|(go_at_call 92;with_reducible refine zm (HSZ.out _ (H.get pk)) ?_;rintro e9 wc ⟨rfl,hb⟩;replace H:=H.grew hb.below;clear hb)|(go_at_call 123;with_reducible refine zm (HSP.out _ (H.sepK HK pk pk)) ?_;rintro e9 wc ⟨X2,id2,rfl,y1,y2,y3,y4,hb⟩;have HY:=zh (za y1 (za y2 (za y3 y4)));clear y1 y2 y3 y4;replace H:=zn ((H.pick pk).call hb);clear hb));go_ret2;exact ⟨X2,id2,rfl,HY.out.1,HY.out.2.1,HY.out.2.2.1,HY.out.2.2.2,H.picks (.cons pk .nil)⟩
theorem St.row_arr {enc:Nat->List Value} {f:Nat->Value} (henc:∀ x,enc x=[f x]) {e:TypeId} {v:Value} {ids:List Nat} {w0 w:World} {M:List Nat} {R:List As} (H:St w0 M (rowsA enc e 1 v ids::R) w) (hn:0<ids.length) :
  ∃ (g c:Nat) (C:Array Value),v=.slice (some ⟨g,0,none⟩) ids.length c∧ids.length<=c∧c<=maxLen∧Arr C c f [] ids 0∧St w0 M (blk g (.cells C e)::R) w:=by
 have h:=H.ho _ List.mem_cons_self;rw [rowsA_ho] at h;obtain ⟨hl,⟨_,h2⟩|⟨g,cap,cur,h1,h3,h4,h5,h6,h7,h8⟩⟩:=h
 ·omega
 ·refine ⟨g,cap,cur,h1,h5,h6,⟨by omega,by simp,fun p x _ hp=>?_⟩,?_⟩
  ·have hg:=flatG_get enc 1 (fun x=>by rw [henc];rfl) ids p x hp 0 (by omega);rw [Nat.mul_one,Nat.add_zero,← h8,henc] at hg;have:=(List.getElem?_take (l:=cur.toList) (i:=ids.length*1) (j:=p))
   have hlt:=gelt hg;have hlt2:p<cur.toList.length:=(by simp at hlt ⊢;omega);rw [List.getElem?_take] at hg;split at hg
   ·simpa using hg
   ·simp at hg
  ·subst h1;exact H.conv (by rw [blk_fp,rowsA_fp'];rfl) fun _=>by rw [blk_ho];exact h4
theorem clone_id {ids:List Nat} {ad:Option Addr} {c:Nat} (hn:0<ids.length) (hm:ids.length<=65536) (w:World) (h:(rowsA encI 26 1 (.slice ad ids.length c) ids).ho w) :
  Calls Tryz.prog 93 #[.slice ad ids.length c] w fun e w'=>∃ (g d:Nat) (C:Array Value),e=.returned (.slice (some ⟨g,0,none⟩) ids.length d)∧ids.length<=d∧d<=maxLen∧Arr C d fI [] ids 0∧St w [] [blk g (.cells C 26)] w':=by
 obtain ⟨g0,c0,e0,_⟩:=rowsA_cases h hn;injection e0 with e1 e2 e3
 subst e1 e3;clear e2;obtain ⟨P,hr,hp,_⟩:=rowsA_pool h encI_len;have H:=St.nil w [];have HK:=Ks.one hp;have HR:=zh hr;have HL:=zh (za hn hm);clear h hr hp hn hm;obtain ⟨n,hnn⟩:∃ n,ids.length=n:=⟨_,rfl⟩
 have HN:=zh hnn;rw [hnn] at HR HL ⊢;clear hnn;have hne:∀ w,(binOp .eql 63 (.slice (some ⟨g0,0,none⟩) n c) (.slice none 0 0)).run Tryz.prog w=.ok (.bool false) w:=fun w=>by kernel_rfl
 go_enter Tryz.func93,Tryz.ntmps93;go_wp2_with (first|refine sL ?_|(refine sS ?_;clear H;intros;rename_i H)|((with_reducible refine isSlice ?_);refine AtSlice.zero encI H rfl rfl rfl rfl encI_len ?_;clear H;intro b9 _ H;simp only [Act.put,puA,puB,puC])|((with_reducible refine isAppend ?_);refine AtAppend.pool (enc:=encI) (P:=P) (ys:=ids) H rfl rfl rfl rfl rfl (by decide) (by decide) rfl pk rfl HR.out (H.known HK pk) encI_len encI_one (by have h1:=HL.out;have h2:=HN.out;simp;omega) (by have h1:=HL.out;have h2:=HN.out;omega) ?_;clear H;intro ad9 cp9 _ H;simp only [Act.put,puA,puB,puC]));go_ret;simp only [List.nil_append,List.length_nil,Nat.zero_add] at H ⊢;rw [HN.out] at H ⊢;obtain ⟨g,d,C,e1,h1,h2,h3,h4⟩:=St.row_arr (f:=fI) (fun _=>rfl) (H.pick (A:=rowsA encI 26 1 (.slice ad9 n cp9) ids) pk) (by have h1:=HL.out;have h2:=HN.out;omega);rw [HN.out] at e1 h1;injection e1 with e1 _ e3
 subst e1 e3;exact ⟨g,cp9,rfl,h1,h2,C,h3,h4.picks (.cons (A:=blk g (.cells C 26)) pk .nil)⟩
def CcRel1 (X:Px) (N:List Nat) (w:World) (n m:Nat) (v:Value) (wr:World):Prop :=
 ∃ (i:Nat) (X1:Px),m=n-i∧i<=n∧v=.int .i64 i∧(X.Ext X1∧PxOk X1∧X1.S=X.S)∧St w N [pA X1] wr
def CcRel2 (X:Px) (N:List Nat) (w:World) (ss:List (List Tr)) (n m:Nat) (v1 v:Value) (wr:World):Prop :=
 ∃ (i sm:Nat),m=n-i∧i<=n∧v1=.int .i64 sm∧v=.int .i64 i∧sm=totL (ss.take i)∧St w N [pA X] wr
def CcRel3 (X:Px) (N:List Nat) (w:World) (fl:List Tr) (tot n0 g cap m:Nat) (v:Value) (wr:World):Prop :=
 ∃ (X1:Px) (k:Nat) (C:Array Value) (nids:List Nat) (us:List (List Tr)),m=2*k∧v=.slice (some ⟨g,0,none⟩) k cap∧(1<=k∧k<=n0∧nids.length=k∧IdL X1.S nids us∧us.flatten=fl∧Arr C cap fI [] nids 0∧X.Ext X1∧PxOk X1∧X1.S.list.length+k*tot<=X.S.list.length+n0*tot)∧St w N [pA X1,blk g (.cells C 26)] wr
def CcRel4 (X1:Px) (N:List Nat) (w:World) (nids:List Nat) (us:List (List Tr)) (k g cap m:Nat) (v1 v2:Value) (wr:World):Prop :=
 ∃ (X2:Px) (j i:Nat) (C:Array Value) (hids:List Nat),m=k-j∧v1=.slice (some ⟨g,0,none⟩) j cap∧v2=.int .i64 i∧(i=2*j∧i<=k∧hids.length=j∧IdL X2.S hids ((halveL us).take j)∧Arr C cap fI hids nids i∧X1.Ext X2∧PxOk X2∧X2.S.list.length<=X1.S.list.length+totL ((halveL us).take j))∧St w N [pA X2,blk g (.cells C 26)] wr
attribute [local go_sem] StStep stAt stUpon in
theorem concat_c {X:Px} {ids:List Nat} {ss:List (List Tr)} {ad:Option Addr} {c:Nat} (hX:PxOk X) (hd:IdL X.S ids ss) (hn:ids.length<=65536) (hl:totL ss<=1048576) (hroom:X.S.list.length+ids.length*totL ss<=X.S.most) (w:World) (h:PH X w) (hr:((pA X).sep (rowsA encI 26 1 (.slice ad ids.length c) ids)).ho w) :
  Calls Tryz.prog 57 #[.pointer (some ⟨X.p,0,none⟩),.slice ad ids.length c] w (IdPost X ss.flatten (ids.length*totL ss) (pA X).fp w):=by
 have h:((pA X).sep deA).ho w:=h;rw [sep_ho] at h hr;have H:=St.one h.1;have HK:Ks w (pA X).fp [deA,(rowsA encI 26 1 (.slice ad ids.length c) ids)]:=⟨fun A hA=>by
   simp at hA;rcases hA with rfl|rfl
   ·exact h.2.1
   ·exact hr.2.1,fun A hA b hbA hm=>by
   simp at hA;rcases hA with rfl|rfl
   ·exact h.2.2 b hm hbA
   ·exact hr.2.2 b hm hbA⟩
 generalize (pA X).fp=N at *;clear h hr;obtain ⟨n,hnn⟩:∃ n,ids.length=n:=⟨_,rfl⟩
 obtain ⟨tot,htot⟩:∃ t,totL ss=t:=⟨_,rfl⟩
 obtain ⟨L,hL⟩:∃ n,X.S.list.length=n:=⟨_,rfl⟩
 have hsl:=hd.len;rw [hnn] at hsl hn hroom HK ⊢;rw [htot] at hl hroom ⊢;have HST:Hid (∀ X2:Px,X.Ext X2->∀ w,(pA X2).ho w->Calls Tryz.prog 53 #[.pointer (some ⟨X.p,0,none⟩)] w fun e w'=>e=.returned (.pointer (some ⟨X.s,0,none⟩))∧w'=w):=zh fun X2 q w h=>by have:=store_p w h;rwa [q.p,q.s] at this
 have HLE:Hid (∀ X2:Px,X.Ext X2->X2.S=X.S->∀ w,(pA X2).ho w->Calls Tryz.prog 38 #[.pointer (some ⟨X.s,0,none⟩)] w fun e w'=>e=.returned (.int .i64 (L:Nat))∧w'=w):=zh fun X2 q e w h=>by have:=len_c w (pA_sto h);rwa [e,hL,q.s] at this
 have HTP:Hid (∀ (X1:Px) (id:Nat) (s:List Tr),X.Ext X1->PxOk X1->X1.S=X.S->IdIs X.S id s->∀ w,((pA X1).sep deA).ho w->Calls Tryz.prog 91 #[.pointer (some ⟨X.p,0,none⟩),.int .i64 (id:Nat)] w fun e w'=>∃ (l:Nat) (X':Px),e=.returned (.tuple #[.int .i64 (l:Nat),.nilIface])∧X1.Ext X'∧PxOk X'∧X'.S=X1.S∧St w (pA X1).fp [pA X'] w'):=zh fun X1 id s q1 q2 q3 q4 w h=>by
  obtain ⟨l,_,ht⟩:=top_any hX q4;refine (ht X1 w q1 q2 q3 h).mono ?_;rintro e w' ⟨X',y1,y2,y3,rfl,y5⟩;exact ⟨l,X',rfl,y1,y2,y3,y5⟩
 have HSZ:Hid (∀ (X1:Px) (id ln:Nat) (s:List Tr),X.Ext X1->PxOk X1->X1.S=X.S->IdIs X.S id s->s.length=ln->∀ w,(pA X1).ho w->Calls Tryz.prog 92 #[.pointer (some ⟨X.p,0,none⟩),.int .i64 id] w fun e w'=>e=.returned (.int .i64 (ln:Nat))∧St w [] [] w'):=zh fun X1 id ln s q1 q2 q3 q4 q5 w h=>by have:=size_any q2 (by rw [q3];exact q4) w h;rwa [q1.p,q5] at this
 have HAD:Hid (∀ (a b s:Nat),a+b=s->s<=1048576->∀ w,Calls Tryz.prog 61 #[.int .i64 (a:Nat),.int .i64 (b:Nat)] w fun e w'=>e=.returned (.tuple #[.int .i64 (s:Nat),.nilIface])∧w'=w):=zh fun a b s e hs w=>by rw [← e];exact add_ok_e a b w (show a+b<=1152921504606846976 by omega)
 have HCL:Hid (0<n->∀ w,(rowsA encI 26 1 (.slice ad n c) ids).ho w->Calls Tryz.prog 93 #[.slice ad n c] w fun e w'=>∃ (g d:Nat) (C:Array Value),e=.returned (.slice (some ⟨g,0,none⟩) n d)∧n<=d∧d<=maxLen∧Arr C d fI [] ids 0∧St w [] [blk g (.cells C 26)] w'):=zh fun h0 w h=>by
  rw [← hnn] at h h0 hn ⊢;exact clone_id h0 hn w h
 have HJN:Hid (∀ (X2:Px) (a b:Nat) (sa sb:List Tr),X.Ext X2->PxOk X2->IdIs X2.S a sa->IdIs X2.S b sb->sa.length+sb.length<=1048576->X2.S.list.length+(sa.length+sb.length)<=X.S.most->∀ w,((pA X2).sep deA).ho w->Calls Tryz.prog 94 #[.pointer (some ⟨X.p,0,none⟩),.int .i64 a,.int .i64 b] w (IdPost X2 (sa++sb) (sa.length+sb.length) (pA X2).fp w)):=zh fun X2 a b sa sb q1 q2 q3 q4 q5 q6 w h=>by
  have:=join_c q2 q3 q4 q5 (by rw [q1.le.1];exact q6) w h;rwa [q1.p] at this
 have HIN:Hid (IdL X.S ids ss∧ids.length=n∧ss.length=n∧totL ss=tot∧tot<=1048576∧L+n*tot<=X.S.most∧X.S.list.length=L∧PxOk X):=zh ⟨hd,hnn,by omega,htot,hl,by rw [← hL];exact hroom,hL,hX⟩;have HRW:Hid (∀ (i a:Nat),ids[i]?=some a->∃ g,ad=some ⟨g,0,none⟩∧∀ w,(rowsA encI 26 1 (.slice ad n c) ids).ho w->w.cell? ⟨g,i,none⟩=some (.int .i64 (a:Nat))):=zh fun i a hi=>by
  obtain ⟨g,c8,e1,_⟩:=rowsA_cases (HK.ho (rowsA encI 26 1 (.slice ad n c) ids) (by simp)) (by have:=gelt hi;omega);injection e1 with e1 _ _
  exact ⟨g,e1,fun w h=>by rw [e1] at h;exact rowsA_cell1 h encI_len hi rfl⟩
 clear hX hd hl hroom hL htot hnn hsl;go_enter Tryz.func57,Tryz.ntmps57;go_wp2_with (first|refine sL ?_|(refine sS ?_;clear H;intros;rename_i H)|(go_at_call 53;with_reducible refine same (HST.out X (.refl _) _ (H.get pk)) ?_));go_loopg [25] n (fun m v1 wr=>CcRel1 X N w n m v1 wr);case atStart=>exact ⟨0,X,rfl,Nat.zero_le _,rfl,⟨.refl _,HIN.out.2.2.2.2.2.2.2,rfl⟩,H.picks (.cons pk .nil)⟩
 case round =>
  clear H;obtain ⟨i,X1,rfl,hik,rfl,hrel,H⟩:=hrel;have HX1:=zh hrel;by_cases hlt:i<n
  ·obtain ⟨a,ha⟩:∃ a,ids[i]?=some a:=⟨_,zg (by rw [HIN.out.2.1];exact hlt)⟩
   obtain ⟨s,hs,hid⟩:=HIN.out.1.get ha;obtain ⟨g,rfl,hcell⟩:=HRW.out i a ha;have HA:=zh hcell;have HID:=zh hid;have haL:a<=L:=by
    rw [← HIN.out.2.2.2.2.2.2.1];rcases hid with ⟨_,rfl⟩|⟨T,h1,_⟩
    ·omega
    ·exact h1.2.1
   have d5:decide ((i:Int)<(n:Int))=true:=(by simp;omega);have d5n:decide (i<n)=true:=(by simp;omega);have d6:decide ((a:Int)<0)=false:=(by simp);have d7:decide ((L:Int)<(a:Int))=false:=(by simp;omega);have d7n:decide (L<a)=false:=(by simp;omega);clear hrel ha hs hid hcell haL;go_wp2_with (first|refine sL ?_|(refine sS ?_;clear H;intros;rename_i H)|(go_at_call 53;with_reducible refine same (HST.out X1 HX1.out.1 _ (H.get pk)) ?_)|(go_at_call 38;with_reducible refine same (HLE.out X1 HX1.out.1 HX1.out.2.2 _ (H.get pk)) ?_)|(go_at_call 91;with_reducible refine zm (HTP.out X1 a s HX1.out.1 HX1.out.2.1 HX1.out.2.2 HID.out _ (H.sepK HK pk pk)) ?_;rintro e9 wc ⟨l2,X2,rfl,y1,y2,y3,hb⟩;have HZ:=zh (za y1 (za y2 y3));clear y1 y2 y3;replace H:=zn ((H.pick pk).call hb);clear hb));go_roundg (n-(i+1));case measure=>omega
   case rel=>exact ⟨i+1,X2,rfl,by omega,rfl,⟨HX1.out.1.trans HZ.out.1,HZ.out.2.1,HZ.out.2.2.trans HX1.out.2.2⟩,H.picks (.cons pk .nil)⟩
  ·have d5:decide ((i:Int)<(n:Int))=false:=(by simp;omega);have d5n:decide (i<n)=false:=(by simp;omega);clear hrel;go_wp2_with (first|refine sL ?_|(refine sS ?_;clear H;intros;rename_i H));go_loopg [10,51] n (fun m v1 v2 wr=>CcRel2 X1 N w ss n m v1 v2 wr);case atStart=>exact ⟨0,0,rfl,Nat.zero_le _,rfl,rfl,by simp [totL],H.picks (.cons pk .nil)⟩
   case round =>
    clear H d5 d5n hlt hik;obtain ⟨i,sm,rfl,hik,rfl,rfl,hsm,H⟩:=hrel;by_cases hlt:i<n
    ·obtain ⟨a,ha⟩:∃ a,ids[i]?=some a:=⟨_,zg (by rw [HIN.out.2.1];exact hlt)⟩
     obtain ⟨s,hs,hid⟩:=HIN.out.1.get ha;obtain ⟨g,rfl,hcell⟩:=HRW.out i a ha;have HA:=zh hcell;have HID:=zh hid;obtain ⟨ln,hln⟩:∃ n,s.length=n:=⟨_,rfl⟩
     obtain ⟨sm2,hsm2⟩:∃ n,sm+ln=n:=⟨_,rfl⟩
     have hb2:sm2=totL (ss.take (i+1)):=(by rw [totL_take_succ hs,hln,← hsm,hsm2]);have HS2:Hid (sm+ln=sm2∧sm2<=1048576∧sm2=totL (ss.take (i+1))∧s.length=ln):=zh ⟨hsm2,by have h1:=totL_take ss (i+1);have h2:=HIN.out.2.2.2;omega,hb2,hln⟩;have d5:decide ((i:Int)<(n:Int))=true:=(by simp;omega);have d5n:decide (i<n)=true:=(by simp;omega);clear ha hs hid hcell hln hsm2 hb2 hsm;go_wp2_with (first|refine sL ?_|(refine sS ?_;clear H;intros;rename_i H)|(go_at_call 92;with_reducible refine zm (HSZ.out X1 a ln s HX1.out.1 HX1.out.2.1 HX1.out.2.2 HID.out HS2.out.2.2.2 _ (H.get pk)) ?_;rintro e9 wc ⟨rfl,hb⟩;replace H:=H.grew hb.below;clear hb)|(go_at_call 61;with_reducible refine same (HAD.out sm ln sm2 HS2.out.1 HS2.out.2.1 _) ?_));go_roundg (n-(i+1));case measure=>omega
     case rel=>exact ⟨i+1,sm2,rfl,by omega,rfl,rfl,HS2.out.2.2.1,H.picks (.cons pk .nil)⟩
    ·have d5:decide ((i:Int)<(n:Int))=false:=(by simp;omega);have d5n:decide (i<n)=false:=(by simp;omega);clear hsm;rcases Nat.eq_zero_or_pos n with hn0|hn0
     ·have d8:((n:Int)==0)=true:=(by simp;omega);have HSS:Hid (ss.flatten=[]):=zh (by have h1:=HIN.out.2.2.1;rw [hn0] at h1;rw [List.eq_nil_of_length_eq_zero h1];rfl);go_wp2_with (first|refine sL ?_|(refine sS ?_;clear H;intros;rename_i H));go_ret2;exact ⟨X1,0,rfl,HX1.out.1,HX1.out.2.1,.inl ⟨HSS.out,rfl⟩,by rw [HX1.out.2.2];omega,H.picks (.cons pk .nil)⟩
     ·have d8:((n:Int)==0)=false:=(by simp;omega);have HN0:=zh hn0;clear hn0;go_wp2_with (first|refine sL ?_|(refine sS ?_;clear H;intros;rename_i H)|(go_at_call 93;with_reducible refine zm (HCL.out HN0.out _ (H.known HK pk)) ?_;rintro e9 wc ⟨g,cap,C,rfl,z1,z2,z3,hb⟩;have HC0:=zh (za z1 (za z2 z3));clear z1 z2 z3;replace H:=zn (H.call0 hb);clear hb));go_loopg [14] (2*n) (fun m v1 wr=>CcRel3 X N w ss.flatten tot n g cap m v1 wr);case atStart=>exact ⟨X1,n,C,ids,ss,rfl,rfl,⟨HN0.out,Nat.le_refl _,HIN.out.2.1,by rw [HX1.out.2.2];exact HIN.out.1,rfl,HC0.out.2.2,HX1.out.1,HX1.out.2.1,by rw [HX1.out.2.2];exact Nat.le_refl _⟩,H.picks (.cons pk (.cons pk .nil))⟩
      case round =>
       clear H d5 d5n d8 hlt hik;obtain ⟨X3,k,C3,nids,us,rfl,rfl,hrel,H⟩:=hrel;have HR3:=zh hrel;obtain ⟨hk1,hkn,_⟩:=hrel;by_cases hk:1<k
       ·have d5:decide (1<(k:Int))=true:=(by simp;omega);have d5n:decide (1<k)=true:=(by simp;omega);go_wp2_with (first|refine sL ?_|(refine sS ?_;clear H;intros;rename_i H));go_loopg [15,16] k (fun m v1 v2 wr=>CcRel4 X3 N w nids us k g cap m v1 v2 wr);case atStart=>exact ⟨X3,0,0,C3,[],rfl,rfl,rfl,⟨rfl,Nat.zero_le _,rfl,trivial,HR3.out.2.2.2.2.2.1,.refl _,HR3.out.2.2.2.2.2.2.2.1,by simp [totL]⟩,H.picks (.cons pk (.cons pk .nil))⟩
        case round =>
         clear H d5 d5n;obtain ⟨X2,j,i,C4,hids,rfl,rfl,rfl,hr4,H⟩:=hrel;have HR4:=zh hr4;obtain ⟨hij,hik,hjl,hI4,hA4,hE4,hO4,hS4⟩:=hr4;have hcap:=hA4.size;have HSZC:Hid (C4.size=cap):=zh hcap;have hcapk:k<=cap:=by
          have h1:=HR3.out.2.2.2.2.2.1;have h2:=HR3.out.2.2.1;have h3:=h1.od (k-1) (nids[k-1]'(by omega)) (Nat.zero_le _) (by simp);have:=(Array.getElem?_eq_some_iff.1 h3).1;rw [h1.size] at this;omega
         have htu:totL (halveL us)=tot:=by
          rw [totL_halve];have h1:=HR3.out.2.2.2.2.1;have h2:=HIN.out.2.2.2.1;unfold totL at h2 ⊢;rw [h1];exact h2
         have HTU:=zh htu;have hul:us.length=k:=(by rw [← HR3.out.2.2.2.1.len];exact HR3.out.2.2.1);have hhl:(halveL us).length=(k+1)/2:=(by rw [halveL_len,hul]);have HHL:=zh hhl;have hb3:=HR3.out.2.2.2.2.2.2.2.2;have hroom3:X3.S.list.length+tot<=X.S.most:=by
          have h1:=HIN.out.2.2.2.2.2;have h2:1*tot<=k*tot:=Nat.mul_le_mul_right _ hk1;rw [h1.2.1] at hb3;omega
         by_cases hlt:i+1<k
         ·obtain ⟨i1,hi1⟩:∃ n,i+1=n:=⟨_,rfl⟩
          obtain ⟨i2,hi2⟩:∃ n,i+2=n:=⟨_,rfl⟩
          obtain ⟨a,ha⟩:∃ a,nids[i]?=some a:=⟨_,zg (by rw [HR3.out.2.2.1];omega)⟩
          obtain ⟨b,hb⟩:∃ a,nids[i1]?=some a:=⟨_,zg (by rw [HR3.out.2.2.1];omega)⟩
          obtain ⟨sa,hsa,hia⟩:=HR3.out.2.2.2.1.get ha;obtain ⟨sb,hsb,hib⟩:=HR3.out.2.2.2.1.get hb;have hga:(halveL us)[j]?=some (sa++sb):=halveL_get (by rw [← hij];exact hsa) (by rw [← hij,hi1];exact hsb);have htk:totL ((halveL us).take (j+1))=totL ((halveL us).take j)+(sa++sb).length:=totL_take_succ hga;have htk2:=totL_take (halveL us) (j+1);rw [htu,htk,List.length_append] at htk2;have HJ:=zh (HJN.out X2 a b sa sb (HR3.out.2.2.2.2.2.2.1.trans hE4) hO4 (hia.le HR3.out.2.2.2.2.2.2.2.1.ok hE4.le) (hib.le HR3.out.2.2.2.2.2.2.2.1.ok hE4.le) (by have:=HIN.out.2.2.2.2.1;omega) (by omega));have HA1:Hid (C4[i]?=some (.int .i64 (a:Nat))):=zh (hA4.od i a (Nat.le_refl _) ha);have HA2:Hid (C4[i1]?=some (.int .i64 (b:Nat))):=zh (hA4.od i1 b (by omega) hb);have i9:(i:Int)+1=(i1:Nat):=(by omega);have i10:(i:Int)+2=(i2:Nat):=(by omega);have d5:decide ((i1:Int)<(k:Int))=true:=(by simp;omega);have d5n:decide (i1<k)=true:=(by simp;omega);have hjc:j+1<=cap:=(by omega);have HI:=zh (za hij (za hi2 (za hlt hga)));have hil:i<=65536:=(by omega);have hik9:i<k:=(by omega);have hik8:i1<k:=(by omega);clear hij hik hjl hI4 hA4 hE4 hO4 hS4 hcap htu hul hhl hb3 hroom3 hlt hi1 hi2 ha hb hsa hsb hia hib hga htk htk2;go_wp2_with (first|refine sL ?_|(refine sS ?_;clear H;intros;rename_i H));replace H:=H.picks (.cons (A:=pA X2) pk (.cons (A:=blk g (.cells C4 26)) pk .nil));refine wp_region_sgx 16 [⟨[],fun v _=>v=.pointer (some ⟨X.p,0,none⟩)⟩,⟨[],fun v _=>v=.slice (some ⟨g,0,none⟩) k cap⟩,⟨[],fun v _=>v=.int .i64 i⟩,⟨[1,2],fun v _=>v=.pointer (some ⟨g,i,none⟩)⟩,⟨[3],fun v _=>v=.int .i64 (a:Nat)⟩,⟨[],fun v _=>v=.slice (some ⟨g,0,none⟩) k cap⟩,⟨[],fun v _=>v=.int .i64 i⟩,⟨[6],fun v _=>v=.int .i64 (i1:Nat)⟩,⟨[5,7],fun v _=>v=.pointer (some ⟨g,i1,none⟩)⟩,⟨[8],fun v _=>v=.int .i64 (b:Nat)⟩,⟨[0,4,9],fun v _=>∃ id:Nat,v=.tuple #[.int .i64 id,.nilIface]⟩,⟨[10],fun v ds=>ds=[v]⟩,⟨[11],fun v ds=>∃ id:Nat,ds=[.tuple #[.int .i64 id,.nilIface]]∧v=.int .i64 id⟩,⟨[11],fun v ds=>∃ id:Nat,ds=[.tuple #[.int .i64 id,.nilIface]]∧v=.nilIface⟩,⟨[12],fun v ds=>ds=[v]⟩,⟨[13],fun v ds=>ds=[v]⟩] [10] [[0],[0],[0],[0],[0],[0],[0],[0],[0],[0],[0],[1],[1],[1],[1],[1]] [fun _ wx=>St w N [pA X2,blk g (.cells C4 26)] wx,fun vals wx=>∃ (X5:Px) (id:Nat),vals 10=.tuple #[.int .i64 id,.nilIface]∧(X2.Ext X5∧PxOk X5∧IdIs X5.S id (sa++sb)∧X5.S.list.length<=X2.S.list.length+(sa.length+sb.length))∧St w N [pA X5,blk g (.cells C4 26)] wx]
           [[],[],[],[(1,86),(2,87)],[(3,88)],[],[],[(6,91)],[(5,90),(7,92)],[(8,93)],[(0,85),(4,89),(9,94)],[(10,95)],[(11,84)],[(11,84)],[(12,96)],[(13,97)]] [(0,85),(1,86),(2,87),(3,88),(4,89),(5,90),(6,91),(7,92),(8,93),(9,94),(10,95),(11,84),(12,96),(13,97),(14,17),(15,18)] (by kernel_rfl) (by kernel_rfl) H.drew ⟨⟨qo,trivial⟩,⟨qo,trivial⟩,⟨qo,trivial⟩,⟨?_,trivial⟩,⟨ql,trivial⟩,⟨qo,trivial⟩,⟨qo,trivial⟩,⟨qo,trivial⟩,⟨?_,trivial⟩,⟨ql,trivial⟩,⟨?_,trivial⟩,⟨?_,trivial⟩,⟨?_,trivial⟩,⟨?_,trivial⟩,⟨?_,trivial⟩,⟨?_,trivial⟩,trivial⟩ ?_
          ·intro vals wx hd HC;simp only [GF] at hd;have H:=HC;simp only [CA] at H;simp only [PS,hd];go_simp;first|exact HC|exact ⟨rfl,HC⟩|(rw [if_pos hik9];exact ⟨rfl,HC⟩)
          ·intro vals wx hd HC;simp only [GF] at hd;have H:=HC;simp only [CA] at H;simp only [PS,hd];go_simp;first|exact HC|exact ⟨rfl,HC⟩|(rw [if_pos hik8];exact ⟨rfl,HC⟩)
          ·intro vals wx hd HC;simp only [GF] at hd;obtain ⟨h0,h4,h9⟩:=hd;have H:=HC;simp only [CA] at H;simp only [PS,h0,h4,h9];clear h0 h4 h9 HC;go_simp;with_reducible refine zm (HJ.out _ (H.sepK HK pk pk)) ?_
           rintro e wz ⟨X5,id5,rfl,y1,y2,y3,y4,hb⟩;have H2:=(H.pick pk).call hb;exact ⟨_,rfl,⟨_,rfl⟩,X5,id5,rfl,⟨y1,y2,y3,y4⟩,by simpa using H2⟩
          ·intro vals wx hd HC;simp only [GF] at hd;have h10:=hd;clear hd;have H:=HC;simp only [CA] at H;obtain ⟨X5,id5,hv10,hj5,H⟩:=H;simp only [PS];clear h10;go_simp;first|exact HC|exact ⟨rfl,HC⟩
          ·intro vals wx hd HC;simp only [GF] at hd;have h11:=hd;clear hd;have H:=HC;simp only [CA] at H;obtain ⟨X5,id5,hv10,hj5,H⟩:=H;simp only [PS];have e11:vals 11=.tuple #[.int .i64 id5,.nilIface]:=(by rw [← hv10];exact X8 (show [vals 10]=[vals 11] from h11));simp only [e11];clear h11;go_simp;first|exact ⟨⟨id5,by simp [e11],rfl⟩,HC⟩|exact ⟨⟨id5,rfl⟩,HC⟩|exact ⟨rfl,HC⟩|exact HC|exact ⟨⟨⟨id5,rfl⟩,rfl⟩,HC⟩|exact ⟨⟨id5,rfl,rfl⟩,HC⟩|fail "Z9"
          ·intro vals wx hd HC;simp only [GF] at hd;have h11:=hd;clear hd;have H:=HC;simp only [CA] at H;obtain ⟨X5,id5,hv10,hj5,H⟩:=H;simp only [PS];have e11:vals 11=.tuple #[.int .i64 id5,.nilIface]:=(by rw [← hv10];exact X8 (show [vals 10]=[vals 11] from h11));simp only [e11];clear h11;go_simp;first|exact ⟨⟨id5,by simp [e11],rfl⟩,HC⟩|exact ⟨⟨id5,rfl⟩,HC⟩|exact ⟨rfl,HC⟩|exact HC|exact ⟨⟨⟨id5,rfl⟩,rfl⟩,HC⟩|exact ⟨⟨id5,rfl,rfl⟩,HC⟩|fail "Z9"
          ·intro vals wx hd HC;simp only [GF] at hd;have h12:=hd;clear hd;have H:=HC;simp only [CA] at H;obtain ⟨X5,id5,hv10,hj5,H⟩:=H;simp only [PS];clear h12;go_simp;first|exact HC|exact ⟨rfl,HC⟩
          ·intro vals wx hd HC;simp only [GF] at hd;have h13:=hd;clear hd;have H:=HC;simp only [CA] at H;obtain ⟨X5,id5,hv10,hj5,H⟩:=H;simp only [PS];clear h13;go_simp;first|exact HC|exact ⟨rfl,HC⟩
          intro vals wx hd HC;have h10:=hd.2.2.2.2.2.2.2.2.2.2.1;have h11:=hd.2.2.2.2.2.2.2.2.2.2.2.1;have h12:=hd.2.2.2.2.2.2.2.2.2.2.2.2.1;have h13:=hd.2.2.2.2.2.2.2.2.2.2.2.2.2.1;have h14:=hd.2.2.2.2.2.2.2.2.2.2.2.2.2.2.1;have h15:=hd.2.2.2.2.2.2.2.2.2.2.2.2.2.2.2.1;simp only [CA] at HC;obtain ⟨X5,id5,hv10,hj5,H⟩:=HC;simp only [GF] at hd;simp only [PS,hd];clear hd;have e11:vals 11=.tuple #[.int .i64 id5,.nilIface]:=(by rw [← hv10];exact X8 (show [vals 10]=[vals 11] from h11));have e14:vals 14=.int .i64 id5:=by
           obtain ⟨q,q1,q2⟩:=(h12:∃ id:Nat,[vals 11]=[.tuple #[.int .i64 id,.nilIface]]∧vals 12=.int .i64 id)
           replace q1:[vals 11]=[Value.tuple #[.int .i64 q,.nilIface]]:=q1;rw [e11] at q1;simp only [List.cons.injEq,and_true,Value.tuple.injEq,Array.mk.injEq,Value.int.injEq,true_and] at q1;rw [X8 (show [vals 12]=[vals 14] from h14),q2,q1]
          have e15:vals 15=.nilIface:=by
           obtain ⟨q,q1,q2⟩:=(h13:∃ id:Nat,[vals 11]=[.tuple #[.int .i64 id,.nilIface]]∧vals 13=.nilIface)
           rw [X8 (show [vals 13]=[vals 15] from h15),q2]
          simp only [e14,e15];have HY:=zh hj5;clear e11 e14 e15 h10 h11 h12 h13 h14 h15 hv10 hj5;go_wp2_with (first|refine sL ?_|(refine sS ?_;clear H;intros;rename_i H)|((with_reducible refine isSlice ?_);refine AtSlice.one H rfl rfl rfl rfl rfl rfl rfl rfl rfl ?_;clear H;intro b _ H;simp only [Act.put,puA,puB,puC])|((with_reducible refine isAppend ?_);refine AtAppend.room H rfl rfl rfl rfl rfl rfl (cur:=C4) pk [.int .i64 (id5:Nat)] rfl (one_new (H.at pk)) (by intro u hu;simp at hu;subst hu;rfl) (by omega) HSZC.out ?_;clear H;intro _ H;simp only [Act.put,puA,puB,puC]));go_roundg (k-(j+1));case measure=>have:=HI.out;omega
          case rel =>
           have h4:=HR4.out;have h5:=HI.out;have htk:totL ((halveL us).take (j+1))=totL ((halveL us).take j)+(sa++sb).length:=totL_take_succ h5.2.2.2;refine ⟨X5,j+1,i2,_,hids++[id5],rfl,rfl,rfl,⟨by omega,by omega,by simp [h4.2.2.1],?_,?_,h4.2.2.2.2.2.1.trans HY.out.1,HY.out.2.1,by rw [htk,List.length_append];have:=HY.out.2.2.2;omega⟩,H.picks (.cons pk (.cons pk .nil))⟩
           ·rw [List.take_add_one,h5.2.2.2];exact (h4.2.2.2.1.le h4.2.2.2.2.2.2.1.ok HY.out.1.le).snoc HY.out.2.2.1
           ·have:=h4.2.2.2.2.1.app [id5] (a':=i2) (by omega) (by simp;omega) (by simp;omega);rw [h4.2.2.1] at this;exact this
         ·have hcase:k=i∨k=i+1:=(by omega);obtain ⟨i1,hi1⟩:∃ n,i+1=n:=⟨_,rfl⟩
          have i9:(i:Int)+1=(i1:Nat):=(by omega);have d5:decide ((i1:Int)<(k:Int))=false:=(by simp;omega);have d5n:decide (i1<k)=false:=(by simp;omega);have hi1b:i1<=65537:=(by omega);rcases hcase with hc|hc
          ·have hm:((k:Int)%2==1)=false:=by
            have:(k:Int)%2=0:=by omega
            rw [this];rfl
           have HC9:=zh hc;clear hij hik hjl hI4 hA4 hE4 hO4 hS4 hcap htu hul hhl hb3 hroom3 hlt hi1 hc;go_wp2_with (first|refine sL ?_|(refine sS ?_;clear H;intros;rename_i H));go_roundg (2*j);case measure=>have:=HR4.out.1;have:=HC9.out;omega
           case rel =>
            have h4:=HR4.out;have h3:=HR3.out;have hc:=HC9.out;have htk:(halveL us).take j=halveL us:=List.take_of_length_le (by rw [HHL.out];omega);refine ⟨X2,j,C4,hids,halveL us,rfl,rfl,⟨by omega,by omega,h4.2.2.1,by have:=h4.2.2.2.1;rwa [htk] at this,by rw [halveL_flat];exact h3.2.2.2.2.1,h4.2.2.2.2.1.forget.start,h3.2.2.2.2.2.2.1.trans h4.2.2.2.2.2.1,h4.2.2.2.2.2.2.1,?_⟩,H.picks (.cons pk (.cons pk .nil))⟩;have h6:=h4.2.2.2.2.2.2.2;rw [htk,HTU.out] at h6;have h7:(j+1)*tot<=k*tot:=Nat.mul_le_mul_right _ (by omega);rw [Nat.add_mul,Nat.one_mul] at h7;have h8:=h3.2.2.2.2.2.2.2.2;omega
          ·obtain ⟨a,ha⟩:∃ a,nids[i]?=some a:=⟨_,zg (by rw [HR3.out.2.2.1];omega)⟩
           obtain ⟨sa,hsa,hia⟩:=HR3.out.2.2.2.1.get ha;have HA1:Hid (C4[i]?=some (.int .i64 (a:Nat))):=zh (hA4.od i a (Nat.le_refl _) ha);have hm:((k:Int)%2==1)=true:=by
            have:(k:Int)%2=1:=by omega
            rw [this];rfl
           have hik9:i<k:=(by omega);have i11:(k:Int)-1=(i:Nat):=(by omega);have hjc:j+1<=cap:=(by omega);have hga:(halveL us)[j]?=some sa:=halveL_last (by omega) (by rw [← hij];exact hsa);have HI:=zh (za hc (za hga (hia.le HR3.out.2.2.2.2.2.2.2.1.ok hE4.le)));clear hij hik hjl hI4 hA4 hE4 hO4 hS4 hcap htu hul hhl hb3 hroom3 hlt hi1 hia hsa ha hga hc;go_wp2_with (first|refine sL ?_|(refine sS ?_;clear H;intros;rename_i H)|((with_reducible refine isSlice ?_);refine AtSlice.one H rfl rfl rfl rfl rfl rfl rfl rfl rfl ?_;clear H;intro b _ H;simp only [Act.put,puA,puB,puC])|((with_reducible refine isAppend ?_);refine AtAppend.room H rfl rfl rfl rfl rfl rfl (cur:=C4) pk [.int .i64 (a:Nat)] rfl (one_new (H.at pk)) (by intro u hu;simp at hu;subst hu;rfl) (by omega) HSZC.out ?_;clear H;intro _ H;simp only [Act.put,puA,puB,puC]));go_roundg (2*(j+1));case measure=>have:=HR4.out.1;have:=HI.out.1;omega
           case rel =>
            have h4:=HR4.out;have h3:=HR3.out;have h5:=HI.out;have hc:=h5.1;have htk:(halveL us).take (j+1)=halveL us:=List.take_of_length_le (by rw [HHL.out];omega);have htk2:=totL_take (halveL us) j;rw [HTU.out] at htk2;refine ⟨X2,j+1,_,hids++[a],halveL us,rfl,rfl,⟨by omega,by omega,by simp [h4.2.2.1],?_,by rw [halveL_flat];exact h3.2.2.2.2.1,?_,h3.2.2.2.2.2.2.1.trans h4.2.2.2.2.2.1,h4.2.2.2.2.2.2.1,?_⟩,H.picks (.cons pk (.cons pk .nil))⟩
            ·rw [← htk,List.take_add_one,h5.2.1];exact h4.2.2.2.1.snoc h5.2.2
            ·have:=h4.2.2.2.2.1.app [a] (a':=i+1) (by omega) (by simp;omega) (by simp;omega);rw [h4.2.2.1] at this;exact this.forget.start
            ·have h6:=h4.2.2.2.2.2.2.2;have h7:(j+1+1)*tot<=k*tot:=Nat.mul_le_mul_right _ (by omega);rw [Nat.add_mul,Nat.one_mul] at h7;have h8:=h3.2.2.2.2.2.2.2.2;omega
       ·have hk0:k=1:=(by omega);have d5:decide (1<(k:Int))=false:=(by simp;omega);have d5n:decide (1<k)=false:=(by simp;omega);obtain ⟨a,ha⟩:∃ a,nids[0]?=some a:=⟨_,zg (by rw [HR3.out.2.2.1];omega)⟩
        obtain ⟨sa,hsa,hia⟩:=HR3.out.2.2.2.1.get ha;have hul:us.length=1:=(by rw [← HR3.out.2.2.2.1.len,HR3.out.2.2.1];exact hk0);have husa:us=[sa]:=by
         cases us with
         |nil=>simp at hsa
         |cons u r =>
          simp at hsa hul;subst hsa;have hr0:r=[]:=List.eq_nil_of_length_eq_zero (by simpa using hul);rw [hr0]
        have HA1:Hid (C3[0]?=some (.int .i64 (a:Nat))):=zh (HR3.out.2.2.2.2.2.1.od 0 a (Nat.le_refl _) ha);have HFIN:Hid (IdIs X3.S a ss.flatten):=zh (by
         have:=HR3.out.2.2.2.2.1;rw [husa] at this;simp at this;rw [← this];exact hia)
        have hkz:0<k:=hk1;clear ha hsa hia hul husa hk1 hkn hk;go_wp2_with (first|refine sL ?_|(refine sS ?_;clear H;intros;rename_i H));go_ret2;exact ⟨X3,a,rfl,HR3.out.2.2.2.2.2.2.1,HR3.out.2.2.2.2.2.2.2.1,HFIN.out,by have:=HR3.out.2.2.2.2.2.2.2.2;omega,H.picks (.cons pk .nil)⟩
end
section
open Go.RowKit Go.Maps
attribute [local go_sem] InGr
section
variable {ops:Array Oper} {Q:Exit->Act->World->Prop} {rest:List Oper} {a:Act} {w w0:World} {M:List Nat} {L:List As} {o1:Oper}
theorem AtSlice.lit {t e:TypeId} {n:Nat} {ps:Array (Nat×Operand)} (H:St w0 M L w) (hw:Region.wanted o1 (yielded ops a.tmps)=true) (ho:o1.op=.buildSlice t n ps) (hte:sliceO t=some e) {z:Value} {k bytes:Nat} {cs:Array Value} (hi:infoO e=some (z,k,bytes)) (hk:k=1) (hz:z.cells.size=1) (hn:¬ n*1 > 2 ^ 24) (hn0:¬ n*1=0)
  (hf:Instr.fill (fun i=>some (i*1,1)) ((Array.range (n*1)).map (z.cells[·%z.cells.size]!)) (ps.map fun (i,x)=>(i,a.eval x)).toList=some cs)
  (h:∀ b w',St w0 M (blk b (.cells cs e)::L) w'->wpList Tryz.prog ops Q rest (a.put o1.dst (.slice (some ⟨b,0,none⟩) n n)) w'):AtSlice Tryz.prog ops Q o1 t n ps rest a w :=
 wpList_step fun _ hK=>by
  rw [if_pos hw];obtain ⟨i,h2,h3,h4,h5⟩:=infoO_ok hi;subst hk;have hr:=run_buildSlice (P:=Tryz.prog) w t e n (ps.map fun (i,x)=>(i,a.eval x)) cs i z (sliceO_ok hte) h2 h3 (by rw [h4];exact hn) (by rw [h4];exact hn0) (by rw [h4];exact hf);unfold Oper.wp execOp;simp only [ho,Sem.run_bind,hr,Result.andThen_ok,Sem.run_pure];exact hK _ _ (h _ _ (H.alloc _))
end
theorem St.freeze {g:Nat} {cs:Array Value} {e:TypeId} {w0 w:World} {M:List Nat} {L:List As} (h:St w0 M (blk g (.cells cs e)::L) w):St w0 M (blk g (.cells cs e (cs.size,cs.size+1))::L) (w.freeze ⟨g,cs.size,none⟩ 1):=by
 have hg:w.heap[g]?=some (.cells cs e):=h.at Pick.here;have hs:(w.freeze ⟨g,cs.size,none⟩ 1).heap.size=w.heap.size:=(by unfold World.freeze;simp);have hlt:g<w.heap.size:=(Array.getElem?_eq_some_iff.1 hg).1;refine St.turn h (A':=blk g (.cells cs e (cs.size,cs.size+1))) (fun b hb=>?_) rfl rfl rfl hs ?_ (by rw [blk_fp,blk_fp])
 ·have hne:g≠b:=fun e'=>hb (by simp [blk,e'])
  unfold World.freeze;simp only [Nat.succ_ne_zero,if_false];rw [Array.getElem?_modify,if_neg hne]
 ·rw [blk_ho];unfold World.freeze;simp only [Nat.succ_ne_zero,if_false];rw [Array.getElem?_modify,if_pos rfl,hg];rfl
theorem run_conv {t:TypeId} (hte:sliceO t=some 5) {g n c:Nat} {cs:Array Value} {e:TypeId} {w:World} (hg:w.heap[g]?=some (.cells cs e)):(convert t t (.slice (some ⟨g,0,none⟩) n c)).run Tryz.prog w=.ok (.slice (some ⟨g,0,none⟩) n c) (w.freeze ⟨g,cs.size,none⟩ 1):=by
 have hu:=run_underlying (P:=Tryz.prog) (sliceO_ok hte);have hu5:Tryz.prog.underlying 5=some (.int .u8):=(by kernel_rfl);have hu6:=run_underlying (P:=Tryz.prog) hu5;simp [convert,hu,hu6,markStringish,shape,freeze,Sem.run,World.shape?,hg]
def AtConv (P:Program) (ops:Array Oper) (Q:Exit->Act->World->Prop) (o:Oper) (_:TypeId) (_:Operand) (rest:List Oper) (a:Act) (w:World):Prop:=wpList P ops Q (o::rest) a w
section
variable {ops:Array Oper} {Q:Exit->Act->World->Prop} {rest:List Oper} {a:Act} {w w0:World} {M:List Nat} {L R:List As} {o1:Oper} {dst:Option Tmp} {ty0:TypeId} {pos:String} {aft:Array Edge} {gd:Option (Nat×Bool)}
theorem isConv {P:Program} {t:TypeId} {x:Operand} (h:AtConv P ops Q ⟨dst,.convert t t x,ty0,pos,aft,gd⟩ t x rest a w):wpList P ops Q (⟨dst,.convert t t x,ty0,pos,aft,gd⟩::rest) a w:=h
theorem AtConv.bytes {t e:TypeId} {x:Operand} (H:St w0 M L w) (hw:Region.wanted o1 (yielded ops a.tmps)=true) (ho:o1.op=.convert t t x) (hte:sliceO t=some 5) {g n c:Nat} (hx:a.eval x=.slice (some ⟨g,0,none⟩) n c) {cs:Array Value} (hp:Pick L (blk g (.cells cs e)) R)
  (h:∀ w',St w0 M (blk g (.cells cs e (cs.size,cs.size+1))::R) w'->wpList Tryz.prog ops Q rest (a.put o1.dst (.slice (some ⟨g,0,none⟩) n c)) w'):AtConv Tryz.prog ops Q o1 t x rest a w :=
 wpList_step fun _ hK=>by
  rw [if_pos hw];have H':=H.pick hp;have hg:w.heap[g]?=some (.cells cs e):=H'.at Pick.here;unfold Oper.wp execOp;simp only [ho,hx,Sem.run_bind,run_conv hte hg,Result.andThen_ok,Sem.run_pure];exact hK _ _ (h _ H'.freeze)
end
theorem St.blk_poolF {e:TypeId} {g:Nat} {cs:Array Value} {fr:Nat×Nat} {w0 w:World} {M:List Nat} {R:List As} (h:St w0 M (blk g (.cells cs e fr)::R) w):St w0 M (poolA [(g,0,cs.toList)]::R) w :=
 h.conv (by rw [poolA_fp,blk_fp];rfl) fun hb=>by
  rw [blk_ho] at hb;rw [poolA_ho];intro x hx;simp only [List.mem_cons,List.not_mem_nil,or_false] at hx;subst hx;refine ⟨(Array.getElem?_eq_some_iff.1 hb).1,fun j u hj=>?_⟩;rw [cell_of_row w g (0+j) cs e fr hb];simpa using hj
theorem sto_nil_ok:Sto.Ok ⟨1048576,[]⟩:=⟨Nat.le_refl _,by simp,fun i j x y h=>by simp at h,fun i x h=>by simp at h⟩
end
section
open Go.RowKit Go.Maps
attribute [local go_sem] InGr
structure Pz where
 c:Bool
 f:Int
 n:Int
 t:List Nat
structure Pi where
 c:Bool
 f:Int
 n:Int
 id:Nat
def encPi (p:Pi):List Value:=[.bool p.c,.int .i64 p.f,.int .i64 p.n,.int .i64 p.id]
theorem encPi_len (p:Pi):(encPi p).length=4:=rfl
theorem encPi_one (p:Pi):∀ u∈encPi p,u.oneCell'=true:=by
 intro u hu;simp [encPi] at hu;rcases hu with rfl|rfl|rfl|rfl <;> rfl
structure PiOk (S:Sto) (p:Pi) (q:Pz):Prop where
 c:p.c=q.c
 f:p.f=q.f
 n:p.n=q.n
 id:IdIs S p.id (q.t.map Tr.leaf)
theorem PiOk.le {S S':Sto} {p:Pi} {q:Pz} (h:PiOk S p q) (hS:S.Ok) (hl:S.Le S'):PiOk S' p q:=⟨h.c,h.f,h.n,h.id.le hS hl⟩
def PiL (S:Sto):List Pi->List Pz->Prop
 |[],[]=>True
 |a::l,t::u=>PiOk S a t∧PiL S l u
 |_,_=>False
theorem PiL.len {S:Sto}:∀ {l:List Pi} {u:List Pz},PiL S l u->l.length=u.length
 |[],[],_=>rfl
 |a::l,t::u,h=>by simp [PiL.len h.2]
 |[],_::_,h=>h.elim
 |_::_,[],h=>h.elim
theorem PiL.get {S:Sto}:∀ {l:List Pi} {u:List Pz} {i:Nat} {a:Pi},PiL S l u->l[i]?=some a->∃ t,u[i]?=some t∧PiOk S a t
 |[],[],i,a,_,h=>by simp at h
 |b::l,t::u,0,a,h,e=>by
  simp only [List.getElem?_cons_zero,Option.some.injEq] at e;subst e;exact ⟨t,rfl,h.1⟩
 |b::l,t::u,i+1,a,h,e=>by
  simp only [List.getElem?_cons_succ] at e ⊢;exact PiL.get h.2 e
 |[],_::_,_,_,h,_=>h.elim
 |_::_,[],_,_,h,_=>h.elim
theorem PiL.le {S S':Sto} (hS:S.Ok) (hl:S.Le S'):∀ {l:List Pi} {u:List Pz},PiL S l u->PiL S' l u
 |[],[],_=>trivial
 |a::l,t::u,h=>⟨h.1.le hS hl,PiL.le hS hl h.2⟩
 |[],_::_,h=>h.elim
 |_::_,[],h=>h.elim
theorem PiL.append {S:Sto}:∀ {l l':List Pi} {u u':List Pz},PiL S l u->PiL S l' u'->PiL S (l++l') (u++u')
 |[],_,[],_,_,h=>h
 |a::l,_,t::u,_,h,k=>⟨h.1,PiL.append h.2 k⟩
 |[],_,_::_,_,h,_=>h.elim
 |_::_,_,[],_,h,_=>h.elim
def chkP (size:Nat) (q:Pz):Nat :=
 if q.c then (if q.t≠[]∨q.n<1 then 4 else if 0<=q.f∧q.f+q.n<=size then 0 else 1)
 else (if q.f≠0∨q.n≠0∨q.t=[] then 4 else 0)
def chkL (size:Nat):List Pz->Nat
 |[]=>0
 |q::r=>if chkP size q=0 then chkL size r else chkP size q
theorem chkL_zero {size:Nat}:∀ {l:List Pz},chkL size l=0↔∀ q∈l,chkP size q=0
 |[]=>by simp [chkL]
 |q::r=>by
  rw [chkL];split
  ·rename_i h;simp [h,chkL_zero (l:=r)]
  ·rename_i h;simp [h]
theorem chkL_first {size:Nat}:∀ {l:List Pz} {i:Nat} {q:Pz},(∀ j x,j<i->l[j]?=some x->chkP size x=0)->l[i]?=some q->chkP size q≠0->chkL size l=chkP size q
 |[],i,q,_,h,_=>by simp at h
 |x::r,0,q,_,h,h1=>by
  simp at h;subst h;rw [chkL,if_neg h1]
 |x::r,i+1,q,hb,h,h1=>by
  rw [chkL,if_pos (hb 0 x (by omega) (by simp))];exact chkL_first (i:=i) (q:=q) (fun j y hj hy=>hb (j+1) y (by omega) (by simpa using hy)) (by simpa using h) h1
def szP (q:Pz):Nat:=if q.c then q.n.toNat else q.t.length
def szL (l:List Pz):Nat:=(l.map szP).sum
def erN (k:Nat):Value:=if k=0 then .nilIface else .iface 73 (.int .i64 (k:Nat))
theorem idIs_zero {S:Sto} {id:Nat} {t:List Nat} (h:IdIs S id (t.map Tr.leaf)):id=0↔t=[]:=by
 rcases h with ⟨h1,rfl⟩|⟨T,h1,h2,h3⟩
 ·simpa using h1
 ·have:=canon_pos h2;rw [h3] at this;have h4:=h1.1;constructor
  ·intro h;exact absurd h4 (by omega)
  ·intro h;subst h;simp at this
theorem baseSize_c {X:Px} {b:Nat} {s:List Tr} (hX:PxOk X) (hd:IdIs X.S b s) (w:World) (h:PH X w) :
  Calls Tryz.prog 59 #[.pointer (some ⟨X.p,0,none⟩),.int .i64 b] w (PPost X (.tuple #[.int .i64 (s.length:Nat),.nilIface]) (pA X).fp w):=by
 have h:((pA X).sep deA).ho w:=h;rw [sep_ho] at h;obtain ⟨k1,k2,hdd⟩:=h;have H:=St.one k1;have HK:Ks w (pA X).fp [deA]:=⟨by simpa using k2,by simpa using fun b hb hm=>hdd b hm hb⟩
 generalize (pA X).fp=N at *;clear k1 k2 hdd;obtain ⟨a2,a3,a4,a5,a6,hw⟩:=weight_any hX hd;obtain ⟨l,_,htop⟩:=top_any hX hd;have HW:Hid (∀ w,(pA X).ho w->Calls Tryz.prog 40 #[.pointer (some ⟨X.s,0,none⟩),.int .i64 b] w fun e w'=>e=.returned (.tuple #[.agg #[.int .i64 (s.length:Nat),.int .i64 a2,.int .i64 a3,.int .i64 a4,.int .u64 a5,.int .u64 a6],.nilIface])∧St w [] [] w'):=zh fun w h=>hw X w (.refl _) rfl h
 have HS:Hid (∀ w,(pA X).ho w->Calls Tryz.prog 53 #[.pointer (some ⟨X.p,0,none⟩)] w fun e w'=>e=.returned (.pointer (some ⟨X.s,0,none⟩))∧w'=w):=zh fun w h=>store_p w h
 have HT:Hid (∀ w,((pA X).sep deA).ho w->Calls Tryz.prog 91 #[.pointer (some ⟨X.p,0,none⟩),.int .i64 b] w (PPost X (.tuple #[.int .i64 (l:Nat),.nilIface]) (pA X).fp w)):=zh fun w h=>htop X w (.refl _) hX rfl h
 obtain ⟨n,hn⟩:∃ n,s.length=n:=⟨_,rfl⟩
 rw [hn] at HW ⊢;clear hX hd hw htop hn;go_enter Tryz.func59,Tryz.ntmps59;go_wp2_with (first|refine sL ?_|(refine sS ?_;clear H;intros;rename_i H)|(go_at_call 53;with_reducible refine same (HS.out _ (H.get pk)) ?_)|(go_at_call 40;with_reducible refine zm (HW.out _ (H.get pk)) ?_;rintro e9 wc ⟨rfl,hb⟩;replace H:=H.grew hb.below;clear hb)|(go_at_call 91;with_reducible refine zm (HT.out _ (H.sepK HK pk pk)) ?_;rintro e9 wc ⟨X2,y1,y2,y3,rfl,hb⟩;have HY:=zh (za y1 (za y2 y3));clear y1 y2 y3;replace H:=zn ((H.pick pk).call hb);clear hb));go_ret2;exact ⟨X2,HY.out.1,HY.out.2.1,HY.out.2.2,rfl,H.picks (.cons pk .nil)⟩
attribute [local go_sem] StStep stAt stUpon in
theorem pieceSize_c {X:Px} {p:Pi} {q:Pz} (hX:PxOk X) (hp:PiOk X.S p q) (hn:0<=q.n) (w:World) (h:(pA X).ho w) :
  Calls Tryz.prog 58 #[.pointer (some ⟨X.p,0,none⟩),.agg #[.bool p.c,.int .i64 p.f,.int .i64 p.n,.int .i64 p.id]] w fun e w'=>e=.returned (.tuple #[.int .i64 (szP q:Nat),.nilIface])∧St w [] [] w':=by
 have H:=St.nil w [];have HK:=Ks.one h;obtain ⟨pc,pf,pn,id⟩:=p;obtain ⟨qc,qf,qn,qt⟩:=q;obtain ⟨h1,h2,h3,h4⟩:=hp;simp only at h1 h2 h3 h4 hn ⊢;subst h1 h2 h3;cases pc with
 |true =>
  obtain ⟨n,rfl⟩:∃ n:Nat,pn=n:=⟨pn.toNat,by omega⟩
  have he:szP ⟨true,pf,(n:Int),qt⟩=n:=(by simp [szP]);rw [he];clear h hX h4 he hn;go_enter Tryz.func58,Tryz.ntmps58;go_wp2_with (first|refine sL ?_|(refine sS ?_;clear H;intros;rename_i H));go_ret2;exact ⟨rfl,H.nix⟩
 |false =>
  obtain ⟨a2,a3,a4,a5,a6,hw⟩:=weight_any hX h4;have he:szP ⟨false,pf,pn,qt⟩=(qt.map Tr.leaf).length:=(by simp [szP]);rw [he];have HW:Hid (∀ w,(pA X).ho w->Calls Tryz.prog 40 #[.pointer (some ⟨X.s,0,none⟩),.int .i64 id] w fun e w'=>e=.returned (.tuple #[.agg #[.int .i64 ((qt.map Tr.leaf).length:Nat),.int .i64 a2,.int .i64 a3,.int .i64 a4,.int .u64 a5,.int .u64 a6],.nilIface])∧St w [] [] w'):=zh fun w h=>hw X w (.refl _) rfl h
  have HS:Hid (∀ w,(pA X).ho w->Calls Tryz.prog 53 #[.pointer (some ⟨X.p,0,none⟩)] w fun e w'=>e=.returned (.pointer (some ⟨X.s,0,none⟩))∧w'=w):=zh fun w h=>store_p w h
  generalize (qt.map Tr.leaf).length=n at *;clear h hX h4 he hn hw;go_enter Tryz.func58,Tryz.ntmps58;go_wp2_with (first|refine sL ?_|(refine sS ?_;clear H;intros;rename_i H));rename_i b3 _ _ _;refine wp_region_sgx 11 [⟨[],fun v _=>v=.pointer (some ⟨X.p,0,none⟩)⟩,⟨[0],fun v _=>v=.pointer (some ⟨X.s,0,none⟩)⟩,⟨[],fun v _=>v=.pointer (some ⟨b3,3,none⟩)⟩,⟨[2],fun v _=>v=.int .i64 id⟩,⟨[1,3],fun v _=>v=.tuple #[.agg #[.int .i64 (n:Nat),.int .i64 a2,.int .i64 a3,.int .i64 a4,.int .u64 a5,.int .u64 a6],.nilIface]⟩,⟨[4],fun v _=>v=.tuple #[.agg #[.int .i64 (n:Nat),.int .i64 a2,.int .i64 a3,.int .i64 a4,.int .u64 a5,.int .u64 a6],.nilIface]⟩,⟨[5],fun v _=>v=.agg #[.int .i64 (n:Nat),.int .i64 a2,.int .i64 a3,.int .i64 a4,.int .u64 a5,.int .u64 a6]⟩,⟨[5],fun v _=>v=.nilIface⟩,⟨[],fun v _=>∃ b4:Nat,v=.pointer (some ⟨b4,0,none⟩)⟩,⟨[6,8],fun _ _=>True⟩,⟨[7],fun v _=>v=.nilIface⟩] [8,9] [[0,1],[0,1],[0,1],[0,1],[0,1],[0,1],[0,1],[0,1,2],[0],[1],[2]] [fun _ wx=>St w [] [blk b3 (.cells #[.bool false,.int .i64 pf,.int .i64 pn,.int .i64 id] 98)] wx,fun vals wx=>∃ b4:Nat,vals 8=.pointer (some ⟨b4,0,none⟩)∧St w [] [blk b4 (.cells #[.int .i64 0,.int .i64 0,.int .i64 0,.int .i64 0,.int .u64 0,.int .u64 0] 78),blk b3 (.cells #[.bool false,.int .i64 pf,.int .i64 pn,.int .i64 id] 98)] wx,fun vals wx=>∃ b4:Nat,vals 8=.pointer (some ⟨b4,0,none⟩)∧St w [] [blk b4 (.cells #[.int .i64 (n:Nat),.int .i64 a2,.int .i64 a3,.int .i64 a4,.int .u64 a5,.int .u64 a6] 78),blk b3 (.cells #[.bool false,.int .i64 pf,.int .i64 pn,.int .i64 id] 98)] wx]
   [[],[(0,13)],[],[(2,15)],[(1,14),(3,16)],[(4,17)],[(5,12)],[(5,12)],[],[(6,18),(8,6)],[(7,19)]] [(0,13),(1,14),(2,15),(3,16),(4,17),(5,12),(6,18),(7,19),(8,6),(10,7)] (by kernel_rfl) (by kernel_rfl) H.drew ⟨⟨qo,qo,trivial⟩,⟨?_,?_,trivial⟩,⟨qo,qo,trivial⟩,⟨ql,ql,trivial⟩,⟨?_,?_,trivial⟩,⟨qo,qo,trivial⟩,⟨qo,qo,trivial⟩,⟨qo,qo,qo,trivial⟩,⟨?_,trivial⟩,⟨?_,trivial⟩,⟨qo,trivial⟩,trivial⟩ ?_
  ·intro vals wx hd HC;simp only [GF] at hd;have h0:=hd;clear hd;have H:=HC;simp only [CA] at H;simp only [PS,h0];clear h0;go_simp;with_reducible refine zm (HS.out _ (H.known HK pk)) ?_
   rintro e wz ⟨rfl,rfl⟩;first|exact ⟨_,rfl,rfl,HC⟩|exact ⟨_,rfl,HC⟩
  ·intro vals wx hd HC;simp only [GF] at hd;have h0:=hd;clear hd;have H:=HC;simp only [CA] at H;obtain ⟨b4,hv,H⟩:=H;simp only [PS,h0];clear h0;go_simp;with_reducible refine zm (HS.out _ (H.known HK pk)) ?_
   rintro e wz ⟨rfl,rfl⟩;first|exact ⟨_,rfl,rfl,HC⟩|exact ⟨_,rfl,HC⟩
  ·intro vals wx hd HC;simp only [GF] at hd;obtain ⟨h1,h3⟩:=hd;have H:=HC;simp only [CA] at H;simp only [PS,h1,h3];clear h1 h3 HC;go_simp;with_reducible refine zm (HW.out _ (H.known HK pk)) ?_
   rintro e wz ⟨rfl,hb⟩;replace H:=H.grew hb.below;exact ⟨_,rfl,rfl,H⟩
  ·intro vals wx hd HC;simp only [GF] at hd;obtain ⟨h1,h3⟩:=hd;have H:=HC;simp only [CA] at H;obtain ⟨b4,hv,H⟩:=H;simp only [PS,h1,h3];clear h1 h3 HC;go_simp;with_reducible refine zm (HW.out _ (H.known HK pk)) ?_
   rintro e wz ⟨rfl,hb⟩;replace H:=H.grew hb.below;exact ⟨_,rfl,rfl,⟨b4,hv,H⟩⟩
  ·intro vals wx hd HC;clear hd;have H:=HC;simp only [CA] at H;simp only [PS];clear HC;refine StStep.allocT H rfl rfl rfl rfl ?_;intro b4 wz H;exact ⟨⟨b4,rfl⟩,b4,rfl,H⟩
  ·intro vals wx hd HC;simp only [GF] at hd;obtain ⟨h6,h8⟩:=hd;have H:=HC;simp only [CA] at H;obtain ⟨b4,hv,H⟩:=H;simp only [PS,h6,hv,h6];refine StStep.storeT rfl rfl rfl rfl rfl rfl H rfl ?_;intro wz H;exact ⟨trivial,b4,hv,H⟩
  intro vals wx hd HC;have h8:=hd.2.2.2.2.2.2.2.2.1;simp only [CA] at HC;obtain ⟨b4,hv,H⟩:=HC;simp only [GF] at hd;simp only [PS,hd];clear hd;simp only [hv];go_wp2_with (first|refine sL ?_|(refine sS ?_;clear H;intros;rename_i H));go_ret2;exact ⟨rfl,H.nix⟩
theorem checkPiece_c {X:Px} {p:Pi} {q:Pz} {size:Nat} (hX:PxOk X) (hp:PiOk X.S p q) (hsz:size<=1048576) (w:World) (h:PH X w) :
  Calls Tryz.prog 60 #[.pointer (some ⟨X.p,0,none⟩),.int .i64 (size:Nat),.agg #[.bool p.c,.int .i64 p.f,.int .i64 p.n,.int .i64 p.id]] w (PPost X (erN (chkP size q)) (pA X).fp w):=by
 have h:((pA X).sep deA).ho w:=h;rw [sep_ho] at h;obtain ⟨k1,k2,hdd⟩:=h;have H:=St.one k1;have HK:Ks w (pA X).fp [deA]:=⟨by simpa using k2,by simpa using fun b hb hm=>hdd b hm hb⟩
 generalize (pA X).fp=N at *;clear k1 k2 hdd;obtain ⟨pc,pf,pn,id⟩:=p;obtain ⟨qc,qf,qn,qt⟩:=q;obtain ⟨h1,h2,h3,h4⟩:=hp;simp only at h1 h2 h3 h4 ⊢;subst h1 h2 h3;have hz:=idIs_zero h4;obtain ⟨l,_,htop⟩:=top_any hX h4;have HT:Hid (∀ w,((pA X).sep deA).ho w->Calls Tryz.prog 91 #[.pointer (some ⟨X.p,0,none⟩),.int .i64 id] w (PPost X (.tuple #[.int .i64 (l:Nat),.nilIface]) (pA X).fp w)):=zh fun w h=>htop X w (.refl _) hX rfl h
 have HX:=zh hX;clear hX h4 htop;cases pc with
 |true =>
  by_cases h0:id=0
  ·have ht:=hz.1 h0;have d0:((id:Int) != 0)=false:=(by simp;omega);by_cases hn:pn<1
   ·have d1:decide (pn<1)=true:=(by simp;omega);have he:erN (chkP size ⟨true,pf,pn,qt⟩)=.iface 73 (.int .i64 (4:Nat)):=(by simp [chkP,hn,erN]);rw [he];clear he hz h0 ht hn;go_enter Tryz.func60,Tryz.ntmps60;go_wp2_with (first|refine sL ?_|(refine sS ?_;clear H;intros;rename_i H));go_ret;exact ⟨X,.refl _,HX.out,rfl,rfl,H.picks (.cons pk .nil)⟩
   ·have d1:decide (pn<1)=false:=(by simp;omega);by_cases hr:0<=pf∧pf+pn<=size
    ·obtain ⟨f,rfl⟩:∃ f:Nat,pf=f:=⟨pf.toNat,by omega⟩
     obtain ⟨n,rfl⟩:∃ n:Nat,pn=n:=⟨pn.toNat,by omega⟩
     have he:erN (chkP size ⟨true,(f:Int),(n:Int),qt⟩)=.nilIface:=by
      have:chkP size ⟨true,(f:Int),(n:Int),qt⟩=0:=by
       simp only [chkP,if_true];rw [if_neg (by simp only [ht];simp;omega),if_pos hr]
      rw [this];rfl
     rw [he];have HR:Hid (∀ w,Calls Tryz.prog 89 #[.int .i64 (f:Nat),.int .i64 (n:Nat),.int .i64 (size:Nat)] w fun e w'=>e=.returned .nilIface∧w'=w):=zh fun w=>range_ok f n size (by omega) (by omega) w
     clear he hz h0 ht hn hr;go_enter Tryz.func60,Tryz.ntmps60;go_wp2_with (first|refine sL ?_|(refine sS ?_;clear H;intros;rename_i H)|(go_at_call 89;with_reducible refine same (HR.out _) ?_));go_ret;exact ⟨X,.refl _,HX.out,rfl,rfl,H.picks (.cons pk .nil)⟩
    ·have he:erN (chkP size ⟨true,pf,pn,qt⟩)=.iface 73 (.int .i64 (1:Nat)):=by
      have:chkP size ⟨true,pf,pn,qt⟩=1:=by
       simp only [chkP,if_true];rw [if_neg (by simp only [ht];simp;omega),if_neg hr]
      rw [this];rfl
     rw [he];have hrn:=fun w=>range_no pf pn size (by omega) (by omega) w
     simp only [EV] at hrn;have HR:=zh hrn;clear he hz h0 ht hn hr hrn;go_enter Tryz.func60,Tryz.ntmps60;go_wp2_with (first|refine sL ?_|(refine sS ?_;clear H;intros;rename_i H)|(go_at_call 89;with_reducible refine same (HR.out _) ?_));go_ret;exact ⟨X,.refl _,HX.out,rfl,rfl,H.picks (.cons pk .nil)⟩
  ·have ht:qt≠[]:=fun h=>h0 (hz.2 h)
   have d0:((id:Int) != 0)=true:=(by simp;omega);have he:erN (chkP size ⟨true,pf,pn,qt⟩)=.iface 73 (.int .i64 (4:Nat)):=(by simp [chkP,ht,erN]);rw [he];clear he hz h0 ht;go_enter Tryz.func60,Tryz.ntmps60;go_wp2_with (first|refine sL ?_|(refine sS ?_;clear H;intros;rename_i H));go_ret;exact ⟨X,.refl _,HX.out,rfl,rfl,H.picks (.cons pk .nil)⟩
 |false =>
  by_cases hf:pf=0
  case' neg =>
   have d0:(pf != 0)=true:=(by simpa using hf);have he:erN (chkP size ⟨false,pf,pn,qt⟩)=.iface 73 (.int .i64 (4:Nat)):=by simp [chkP,hf,erN]
  case' pos =>
   have d0:(pf != 0)=false:=(by simpa using hf);by_cases hn:pn=0
   case' neg =>
    have d1:(pn != 0)=true:=(by simpa using hn);have he:erN (chkP size ⟨false,pf,pn,qt⟩)=.iface 73 (.int .i64 (4:Nat)):=by simp [chkP,hn,erN]
   case' pos =>
    have d1:(pn != 0)=false:=(by simpa using hn);by_cases h0:id=0
    case' pos =>
     have d2:((id:Int)==0)=true:=(by simp;omega);have he:erN (chkP size ⟨false,pf,pn,qt⟩)=.iface 73 (.int .i64 (4:Nat)):=by simp [chkP,hz.1 h0,erN]
    case' neg =>
     have d2:((id:Int)==0)=false:=(by simp;omega);have he:erN (chkP size ⟨false,pf,pn,qt⟩)=.nilIface:=by
      have:qt≠[]:=fun h=>h0 (hz.2 h)
      simp [chkP,hf,hn,this,erN]
  all_goals
   rw [he];clear he hz;try clear hn
   try clear h0
   clear hf;go_enter Tryz.func60,Tryz.ntmps60;go_wp2_with (first|refine sL ?_|(refine sS ?_;clear H;intros;rename_i H)|(go_at_call 91;with_reducible refine zm (HT.out _ (H.sepK HK pk pk)) ?_;rintro e9 wc ⟨X2,y1,y2,y3,rfl,hb⟩;have HY:=zh (za y1 (za y2 y3));clear y1 y2 y3;replace H:=zn ((H.pick pk).call hb);clear hb));go_ret;first|exact ⟨X,.refl _,HX.out,rfl,rfl,H.picks (.cons pk .nil)⟩|exact ⟨X2,HY.out.1,HY.out.2.1,HY.out.2.2,rfl,H.picks (.cons pk .nil)⟩
end
section
open Go.RowKit Go.Maps
attribute [local go_sem] InGr
theorem chk_pos {size:Nat} {q:Pz} (h:chkP size q=0):0<=q.n∧(q.c=true->1<=q.n∧0<=q.f∧q.f+q.n<=size):=by
 unfold chkP at h;split at h
 ·split at h
  ·omega
  ·split at h
   ·rename_i h1 h2 h3;exact ⟨by omega,fun _=>⟨by omega,by omega,by omega⟩⟩
   ·omega
 ·split at h
  ·omega
  ·rename_i h1 h2;exact ⟨by omega,fun h=>absurd h h1⟩
theorem szL_take_succ {l:List Pz} {i:Nat} {q:Pz} (h:l[i]?=some q):szL (l.take (i+1))=szL (l.take i)+szP q:=by
 unfold szL;rw [List.take_add_one,h];simp
theorem szL_take (l:List Pz) (i:Nat):szL (l.take i)<=szL l:=by
 unfold szL;have h:l.take i++l.drop i=l:=List.take_append_drop i l;have h2:=congrArg (fun l:List Pz=>(l.map szP).sum) h;simp only [List.map_append,List.sum_append] at h2;omega
def CkRel1 (X:Px) (N:List Nat) (w:World) (qs:List Pz) (size n m:Nat) (v:Value) (wr:World):Prop :=
 ∃ (i:Nat) (X1:Px),m=n-i∧i<=n∧v=.int .i64 i∧(X.Ext X1∧PxOk X1∧X1.S=X.S∧∀ j q,j<i->qs[j]?=some q->chkP size q=0)∧St w N [pA X1] wr
def CkRel2 (X:Px) (N:List Nat) (w:World) (qs:List Pz) (n m:Nat) (v1 v:Value) (wr:World):Prop :=
 ∃ (i sm:Nat),m=n-i∧i<=n∧v1=.int .i64 sm∧v=.int .i64 i∧sm=szL (qs.take i)∧St w N [pA X] wr
theorem check_d {X:Px} {b:Nat} {s:List Tr} {ps:List Pi} {qs:List Pz} {ad:Option Addr} {c:Nat} (hX:PxOk X) (hd:IdIs X.S b s) (hps:PiL X.S ps qs) (hn:ps.length<=65536) (hs:s.length<=1048576) (htot:chkL s.length qs=0->szL qs<=1048576) (w:World) (h:PH X w) (hr:((pA X).sep (rowsA encPi 98 4 (.slice ad ps.length c) ps)).ho w) :
  Calls Tryz.prog 21 #[.pointer (some ⟨X.p,0,none⟩),.int .i64 b,.slice ad ps.length c] w (PPost X (erN (chkL s.length qs)) (pA X).fp w):=by
 have h:((pA X).sep deA).ho w:=h;rw [sep_ho] at h hr;have H:=St.one h.1;have HK:Ks w (pA X).fp [deA,(rowsA encPi 98 4 (.slice ad ps.length c) ps)]:=⟨fun A hA=>by
   simp at hA;rcases hA with rfl|rfl
   ·exact h.2.1
   ·exact hr.2.1,fun A hA b hbA hm=>by
   simp at hA;rcases hA with rfl|rfl
   ·exact h.2.2 b hm hbA
   ·exact hr.2.2 b hm hbA⟩
 generalize (pA X).fp=N at *;clear h hr;obtain ⟨n,hnn⟩:∃ n,ps.length=n:=⟨_,rfl⟩
 have hsl:=hps.len;rw [hnn] at hsl hn HK ⊢;have HRW:Hid (∀ (i:Nat) (a:Pi),ps[i]?=some a->∃ g,ad=some ⟨g,0,none⟩∧∀ w,(rowsA encPi 98 4 (.slice ad n c) ps).ho w->w.rangeAt g (i*4) [.bool a.c,.int .i64 a.f,.int .i64 a.n,.int .i64 a.id]):=zh fun i a hi=>by
  obtain ⟨g,c8,e1,_⟩:=rowsA_cases (HK.ho (rowsA encPi 98 4 (.slice ad n c) ps) (by simp)) (by have:=gelt hi;omega);injection e1 with e1 _ _
  exact ⟨g,e1,fun w h=>by rw [e1] at h;exact rowsA_rng h encPi_len hi⟩
 obtain ⟨size,hsz⟩:∃ n,s.length=n:=⟨_,rfl⟩
 rw [hsz] at hs htot ⊢;have HBS:Hid (∀ w,((pA X).sep deA).ho w->Calls Tryz.prog 59 #[.pointer (some ⟨X.p,0,none⟩),.int .i64 b] w fun e w'=>∃ X':Px,e=.returned (.tuple #[.int .i64 (size:Nat),.nilIface])∧X.Ext X'∧PxOk X'∧X'.S=X.S∧St w (pA X).fp [pA X'] w'):=zh fun w h=>by
  refine (baseSize_c hX hd w h).mono ?_;rintro e w' ⟨X',y1,y2,y3,rfl,y5⟩;exact ⟨X',by rw [hsz],y1,y2,y3,y5⟩
 have HCP:Hid (∀ (X1:Px) (p:Pi) (q:Pz) (k:Nat),X.Ext X1->PxOk X1->X1.S=X.S->PiOk X.S p q->chkP size q=k->∀ w,((pA X1).sep deA).ho w->Calls Tryz.prog 60 #[.pointer (some ⟨X.p,0,none⟩),.int .i64 (size:Nat),.agg #[.bool p.c,.int .i64 p.f,.int .i64 p.n,.int .i64 p.id]] w fun e w'=>∃ X':Px,e=.returned (erN k)∧X1.Ext X'∧PxOk X'∧X'.S=X1.S∧St w (pA X1).fp [pA X'] w'):=zh fun X1 p q k q1 q2 q3 q4 q5 w h=>by
  have:=checkPiece_c (size:=size) q2 (by rw [q3];exact q4) hs w h;rw [q1.p,q5] at this;refine this.mono ?_;rintro e w' ⟨X',y1,y2,y3,rfl,y5⟩;exact ⟨X',rfl,y1,y2,y3,y5⟩
 have HPS:Hid (∀ (X1:Px) (p:Pi) (q:Pz) (k:Nat),X.Ext X1->PxOk X1->X1.S=X.S->PiOk X.S p q->0<=q.n->szP q=k->∀ w,(pA X1).ho w->Calls Tryz.prog 58 #[.pointer (some ⟨X.p,0,none⟩),.agg #[.bool p.c,.int .i64 p.f,.int .i64 p.n,.int .i64 p.id]] w fun e w'=>e=.returned (.tuple #[.int .i64 (k:Nat),.nilIface])∧St w [] [] w'):=zh fun X1 p q k q1 q2 q3 q4 q5 q6 w h=>by
  have:=pieceSize_c q2 (by rw [q3];exact q4) q5 w h;rwa [q1.p,q6] at this
 have HAD:Hid (∀ (a b s:Nat),a+b=s->s<=1048576->∀ w,Calls Tryz.prog 61 #[.int .i64 (a:Nat),.int .i64 (b:Nat)] w fun e w'=>e=.returned (.tuple #[.int .i64 (s:Nat),.nilIface])∧w'=w):=zh fun a b s e hs w=>by rw [← e];exact add_ok_e a b w (show a+b<=1152921504606846976 by omega)
 have HIN:Hid (PiL X.S ps qs∧ps.length=n∧qs.length=n∧(chkL size qs=0->szL qs<=1048576)∧PxOk X):=zh ⟨hps,hnn,by omega,htot,hX⟩;clear hX hd hps htot hnn hsl hsz;go_enter Tryz.func21,Tryz.ntmps21;go_wp2_with (first|refine sL ?_|(refine sS ?_;clear H;intros;rename_i H)|(go_at_call 59;with_reducible refine zm (HBS.out _ (H.sepK HK pk pk)) ?_;rintro e9 wc ⟨X0,rfl,y1,y2,y3,hb⟩;have HX0:=zh (za y1 (za y2 y3));clear y1 y2 y3;replace H:=zn ((H.pick pk).call hb);clear hb));go_loopg [28] n (fun m v1 wr=>CkRel1 X N w qs size n m v1 wr);case atStart=>exact ⟨0,X0,rfl,Nat.zero_le _,rfl,⟨HX0.out.1,HX0.out.2.1,HX0.out.2.2,fun j q hj=>absurd hj (Nat.not_lt_zero _)⟩,H.picks (.cons pk .nil)⟩
 case round =>
  clear H;obtain ⟨i,X1,rfl,hik,rfl,hrel,H⟩:=hrel;have HX1:=zh hrel;by_cases hlt:i<n
  ·obtain ⟨p,hp⟩:∃ a,ps[i]?=some a:=⟨_,zg (by rw [HIN.out.2.1];exact hlt)⟩
   obtain ⟨q,hq,hpq⟩:=HIN.out.1.get hp;obtain ⟨g,rfl,hcell⟩:=HRW.out i p hp;have d5:decide ((i:Int)<(n:Int))=true:=(by simp;omega);have d5n:decide (i<n)=true:=(by simp;omega);have HRX:=zh hcell;obtain ⟨k,hk⟩:∃ k,chkP size q=k:=⟨_,rfl⟩
   have HCX:=zh (HCP.out X1 p q k HX1.out.1 HX1.out.2.1 HX1.out.2.2.1 hpq hk);have HKQ:Hid (qs[i]?=some q∧chkP size q=k):=zh ⟨hq,hk⟩;obtain ⟨pc,pf,pn,id⟩:=p;simp only at HRX HCX;clear hrel hp hq hpq hcell hk;unfold erN at HCX;by_cases hk0:k=0
   ·rw [if_pos hk0] at HCX;subst hk0;go_wp2_with (first|refine sL ?_|(refine sS ?_;clear H;intros;rename_i H)|(go_at_call 60;with_reducible refine zm (HCX.out _ (H.sepK HK pk pk)) ?_;rintro e9 wc ⟨X2,rfl,y1,y2,y3,hb⟩;have HZ:=zh (za y1 (za y2 y3));clear y1 y2 y3;replace H:=zn ((H.pick pk).call hb);clear hb)|((with_reducible refine isLoad ?_);refine AtLoad.rngT rfl rfl rfl (HRX.out _ (H.known HK pk)) rfl ?_;simp only [Act.put,puA,puB,puC]));go_roundg (n-(i+1));case measure=>omega
    case rel =>
     refine ⟨i+1,X2,rfl,by omega,rfl,⟨HX1.out.1.trans HZ.out.1,HZ.out.2.1,HZ.out.2.2.trans HX1.out.2.2.1,fun j q' hj hq'=>?_⟩,H.picks (.cons pk .nil)⟩;rcases Nat.lt_or_ge j i with h9|h9
     ·exact HX1.out.2.2.2 j q' h9 hq'
     ·obtain rfl:j=i:=by omega
      rw [HKQ.out.1] at hq';injection hq' with hq'
      rw [← hq'];exact HKQ.out.2
   ·rw [if_neg hk0] at HCX;have HFI:Hid (chkL size qs=k):=zh (by
     rw [← HKQ.out.2];exact chkL_first HX1.out.2.2.2 HKQ.out.1 (by rw [HKQ.out.2];exact hk0))
    have HER:Hid (erN (chkL size qs)=.iface 73 (.int .i64 (k:Nat))):=zh (by rw [HFI.out];simp [erN,hk0]);rw [HER.out];clear hk0;go_wp2_with (first|refine sL ?_|(refine sS ?_;clear H;intros;rename_i H)|(go_at_call 60;with_reducible refine zm (HCX.out _ (H.sepK HK pk pk)) ?_;rintro e9 wc ⟨X2,rfl,y1,y2,y3,hb⟩;have HZ:=zh (za y1 (za y2 y3));clear y1 y2 y3;replace H:=zn ((H.pick pk).call hb);clear hb)|((with_reducible refine isLoad ?_);refine AtLoad.rngT rfl rfl rfl (HRX.out _ (H.known HK pk)) rfl ?_;simp only [Act.put,puA,puB,puC]));go_ret;exact ⟨X2,HX1.out.1.trans HZ.out.1,HZ.out.2.1,HZ.out.2.2.trans HX1.out.2.2.1,rfl,H.picks (.cons pk .nil)⟩
  ·have d5:decide ((i:Int)<(n:Int))=false:=(by simp;omega);have d5n:decide (i<n)=false:=(by simp;omega);have hall:∀ q∈qs,chkP size q=0:=fun q hq=>by
    obtain ⟨j,hj,e⟩:=List.getElem_of_mem hq;exact HX1.out.2.2.2 j q (by have:=HIN.out.2.2.1;omega) (by rw [zg hj,e])
   have hz:=chkL_zero.2 hall;have HALL:Hid ((∀ q∈qs,chkP size q=0)∧szL qs<=1048576):=zh ⟨hall,HIN.out.2.2.2.1 hz⟩;have HE0:Hid (erN (chkL size qs)=.nilIface):=zh (by rw [hz];rfl);clear hrel hall hz;go_wp2_with (first|refine sL ?_|(refine sS ?_;clear H;intros;rename_i H));go_loopg [12,42] n (fun m v1 v2 wr=>CkRel2 X1 N w qs n m v1 v2 wr);case atStart=>exact ⟨0,0,rfl,Nat.zero_le _,rfl,rfl,by simp [szL],H.picks (.cons pk .nil)⟩
   case round =>
    clear H d5 d5n hlt hik;obtain ⟨i,sm,rfl,hik,rfl,rfl,hsm,H⟩:=hrel;by_cases hlt:i<n
    ·obtain ⟨p,hp⟩:∃ a,ps[i]?=some a:=⟨_,zg (by rw [HIN.out.2.1];exact hlt)⟩
     obtain ⟨q,hq,hpq⟩:=HIN.out.1.get hp;obtain ⟨g,rfl,hcell⟩:=HRW.out i p hp;have d5:decide ((i:Int)<(n:Int))=true:=(by simp;omega);have d5n:decide (i<n)=true:=(by simp;omega);have HRX:=zh hcell;obtain ⟨k,hk⟩:∃ k,szP q=k:=⟨_,rfl⟩
     have HCX:=zh (HPS.out X1 p q k HX1.out.1 HX1.out.2.1 HX1.out.2.2.1 hpq (chk_pos (HALL.out.1 q (List.mem_of_getElem? hq))).1 hk);obtain ⟨sm2,hsm2⟩:∃ n,sm+k=n:=⟨_,rfl⟩
     have HS2:Hid (sm+k=sm2∧sm2<=1048576∧sm2=szL (qs.take (i+1))):=zh (by
      have h1:=szL_take_succ hq;have h2:=szL_take qs (i+1);have h3:=HALL.out.2;omega)
     obtain ⟨pc,pf,pn,id⟩:=p;simp only at HRX HCX;clear hp hq hpq hcell hk hsm2 hsm;go_wp2_with (first|refine sL ?_|(refine sS ?_;clear H;intros;rename_i H)|(go_at_call 58;with_reducible refine zm (HCX.out _ (H.get pk)) ?_;rintro e9 wc ⟨rfl,hb⟩;replace H:=H.grew hb.below;clear hb)|(go_at_call 61;with_reducible refine same (HAD.out sm k sm2 HS2.out.1 HS2.out.2.1 _) ?_)|((with_reducible refine isLoad ?_);refine AtLoad.rngT rfl rfl rfl (HRX.out _ (H.known HK pk)) rfl ?_;simp only [Act.put,puA,puB,puC]));go_roundg (n-(i+1));case measure=>omega
     case rel=>exact ⟨i+1,sm2,rfl,by omega,rfl,rfl,HS2.out.2.2,H.picks (.cons pk .nil)⟩
    ·have d5:decide ((i:Int)<(n:Int))=false:=(by simp;omega);have d5n:decide (i<n)=false:=(by simp;omega);clear hsm;go_wp2_with (first|refine sL ?_|(refine sS ?_;clear H;intros;rename_i H));go_ret;exact ⟨X1,HX1.out.1,HX1.out.2.1,HX1.out.2.2.1,by rw [HE0.out];rfl,H.picks (.cons pk .nil)⟩
def apP (base:List Nat) (q:Pz):List Nat:=if q.c then (base.drop q.f.toNat).take q.n.toNat else q.t
def apL (base:List Nat) (qs:List Pz):List Nat:=qs.flatMap (apP base)
theorem apP_len {base:List Nat} {q:Pz} (h:chkP base.length q=0):(apP base q).length=szP q:=by
 have:=chk_pos h;unfold apP szP;split
 ·rename_i hc;have:=this.2 hc;simp;omega
 ·rfl
theorem apL_len {base:List Nat}:∀ {qs:List Pz},(∀ q∈qs,chkP base.length q=0)->(apL base qs).length=szL qs
 |[],_=>rfl
 |q::r,h=>by
  have h1:=apL_len (base:=base) (qs:=r) fun x hx=>h x (by simp [hx])
  have h2:=apP_len (h q (by simp));unfold apL szL at h1 ⊢;simp [h1,h2]
def apS (base:List Nat) (qs:List Pz):List (List Tr):=qs.map fun q=>(apP base q).map Tr.leaf
theorem apS_flat (base:List Nat):∀ qs:List Pz,(apS base qs).flatten=(apL base qs).map Tr.leaf
 |[]=>rfl
 |q::r=>by
  have:=apS_flat base r;unfold apS apL at this ⊢;simp [this]
def ApRel (X:Px) (N:List Nat) (w:World) (base:List Nat) (qs:List Pz) (n m:Nat) (v1 v:Value) (wr:World):Prop :=
 ∃ (i:Nat) (X1:Px) (ids:List Nat),m=n-i∧i<=n∧v=.int .i64 i∧(ids.length=i∧IdL X1.S ids (apS base (qs.take i))∧X.Ext X1∧PxOk X1∧X1.S.list.length<=X.S.list.length+i*(2*base.length))∧St w N [pA X1,rowsA encI 26 1 v1 ids] wr
end
section
open Go.RowKit Go.Maps
attribute [local go_sem] InGr
theorem apply_c {X:Px} {b:Nat} {base:List Nat} {ps:List Pi} {qs:List Pz} {ad:Option Addr} {c:Nat} (hX:PxOk X) (hd:IdIs X.S b (base.map Tr.leaf)) (hps:PiL X.S ps qs) (hn:ps.length<=1024) (hs:base.length<=1048576) (hz:chkL base.length qs=0) (htot:szL qs<=1048576) (hroom:X.S.list.length+ps.length*(2*base.length)+ps.length*szL qs<=X.S.most) (w:World) (h:PH X w) (hr:((pA X).sep (rowsA encPi 98 4 (.slice ad ps.length c) ps)).ho w) :
  Calls Tryz.prog 18 #[.pointer (some ⟨X.p,0,none⟩),.int .i64 b,.slice ad ps.length c] w (IdPost X ((apL base qs).map Tr.leaf) (ps.length*(2*base.length)+ps.length*szL qs) (pA X).fp w):=by
 have h:((pA X).sep deA).ho w:=h;rw [sep_ho] at h hr;have H:=St.one h.1;have HK:Ks w (pA X).fp [deA,(rowsA encPi 98 4 (.slice ad ps.length c) ps)]:=⟨fun A hA=>by
   simp at hA;rcases hA with rfl|rfl
   ·exact h.2.1
   ·exact hr.2.1,fun A hA b hbA hm=>by
   simp at hA;rcases hA with rfl|rfl
   ·exact h.2.2 b hm hbA
   ·exact hr.2.2 b hm hbA⟩
 generalize (pA X).fp=N at *;clear h hr;obtain ⟨n,hnn⟩:∃ n,ps.length=n:=⟨_,rfl⟩
 have hsl:=hps.len;rw [hnn] at hsl hn HK ⊢;have HCK:Hid (∀ w,((pA X).sep deA).ho w->((pA X).sep (rowsA encPi 98 4 (.slice ad n c) ps)).ho w->Calls Tryz.prog 21 #[.pointer (some ⟨X.p,0,none⟩),.int .i64 b,.slice ad n c] w (PPost X .nilIface (pA X).fp w)):=zh fun w h h2=>by
  rw [← hnn] at h2 hn ⊢;have:=check_d hX hd hps (by omega) (by simp;exact hs) (fun _=>htot) w h h2;rw [List.length_map,hz] at this;simpa [erN] using this
 have HRW:Hid (∀ (i:Nat) (a:Pi),ps[i]?=some a->∃ g,ad=some ⟨g,0,none⟩∧∀ w,(rowsA encPi 98 4 (.slice ad n c) ps).ho w->w.rangeAt g (i*4) [.bool a.c,.int .i64 a.f,.int .i64 a.n,.int .i64 a.id]):=zh fun i a hi=>by
  obtain ⟨g,c8,e1,_⟩:=rowsA_cases (HK.ho (rowsA encPi 98 4 (.slice ad n c) ps) (by simp)) (by have:=gelt hi;omega);injection e1 with e1 _ _
  exact ⟨g,e1,fun w h=>by rw [e1] at h;exact rowsA_rng h encPi_len hi⟩
 have hall:=chkL_zero.1 hz;obtain ⟨bl,hbl⟩:∃ n,base.length=n:=⟨_,rfl⟩
 obtain ⟨tot,htt⟩:∃ n,szL qs=n:=⟨_,rfl⟩
 rw [hnn,hbl,htt] at hroom;rw [hbl,htt];rw [hbl] at hs;rw [htt] at htot;have HSE:Hid (∀ (X2:Px) (f m:Nat),X.Ext X2->PxOk X2->f+m<=bl->X2.S.list.length+2*bl<=X.S.most->∀ w,((pA X2).sep deA).ho w->Calls Tryz.prog 56 #[.pointer (some ⟨X.p,0,none⟩),.int .i64 b,.int .i64 (f:Nat),.int .i64 (m:Nat)] w (IdPost X2 (((base.drop f).take m).map Tr.leaf) (2*bl) (pA X2).fp w)):=zh fun X2 f m q1 q2 q3 q4 w h=>by
  have hm:X2.S.most=X.S.most:=q1.le.1;have:=Section_ok q2 (hd.le hX.ok q1.le) (from_:=f) (n:=m) (by simp;omega) (by simp;omega) (by rw [hm];simp;omega) w h;rw [q1.p,List.length_map,hbl,← List.map_drop,← List.map_take] at this;exact this
 have HCC:Hid (∀ (X2:Px) (ids:List Nat) (ad2:Option Addr) (c2:Nat),X.Ext X2->PxOk X2->ids.length=n->IdL X2.S ids (apS base qs)->X2.S.list.length+n*tot<=X.S.most->∀ w,((pA X2).sep deA).ho w->((pA X2).sep (rowsA encI 26 1 (.slice ad2 n c2) ids)).ho w->Calls Tryz.prog 57 #[.pointer (some ⟨X.p,0,none⟩),.slice ad2 n c2] w (IdPost X2 ((apL base qs).map Tr.leaf) (n*tot) (pA X2).fp w)):=zh fun X2 ids ad2 c2 q1 q2 q3 q4 q5 w h h2=>by
  have hm:X2.S.most=X.S.most:=q1.le.1;have htl:totL (apS base qs)=tot:=by
   unfold totL;rw [apS_flat,List.length_map,apL_len hall,htt]
  have:=concat_c (ad:=ad2) (c:=c2) q2 q4 (by omega) (by rw [htl];omega) (by rw [htl,q3,hm];exact q5) w h (by rw [q3];exact h2);rw [q1.p,q3,htl,apS_flat] at this;exact this
 have HIN:Hid (PiL X.S ps qs∧ps.length=n∧qs.length=n∧(∀ q∈qs,chkP base.length q=0)∧PxOk X∧base.length=bl∧X.S.list.length+n*(2*bl)+n*tot<=X.S.most):=zh ⟨hps,hnn,by omega,hall,hX,hbl,hroom⟩;clear hX hd hps hz htot hnn hsl hall hbl htt hroom;go_enter Tryz.func18,Tryz.ntmps18;go_wp2_with (first|refine sL ?_|(refine sS ?_;clear H;intros;rename_i H)|(go_at_call 21;with_reducible refine zm (HCK.out _ (H.sepK HK pk pk) (H.sepK HK pk pk)) ?_;rintro e9 wc ⟨X0,y1,y2,y3,rfl,hb⟩;have HX0:=zh (za y1 (za y2 y3));clear y1 y2 y3;replace H:=zn ((H.pick pk).call hb);clear hb));replace H:=H.empty (A:=rowsA encI 26 1 (.slice none 0 0) []) (rowsA_nil _) (by rw [rowsA_fp'];rfl);go_loopg [9,23] n (fun m v1 v2 wr=>ApRel X N w base qs n m v1 v2 wr);case atStart=>exact ⟨0,X0,[],rfl,Nat.zero_le _,rfl,⟨rfl,trivial,HX0.out.1,HX0.out.2.1,by rw [HX0.out.2.2];omega⟩,H.picks (.cons pk (.cons pk .nil))⟩
 case round =>
  clear H;obtain ⟨i,X1,ids,rfl,hik,rfl,hrel,H⟩:=hrel;have HX1:=zh hrel;obtain ⟨ad2,c2,rfl,_⟩:=rowsA_shape (H.get (A:=rowsA encI 26 1 _ ids) pk);by_cases hlt:i<n
  ·obtain ⟨p,hp⟩:∃ a,ps[i]?=some a:=⟨_,zg (by rw [HIN.out.2.1];exact hlt)⟩
   obtain ⟨q,hq,hpq⟩:=HIN.out.1.get hp;obtain ⟨g,rfl,hcell⟩:=HRW.out i p hp;have hck:=HIN.out.2.2.2.1 q (List.mem_of_getElem? hq);have d5:decide ((i:Int)<(n:Int))=true:=(by simp;omega);have d5n:decide (i<n)=true:=(by simp;omega);have HRX:=zh hcell;have hlim:X1.S.list.length+2*bl<=X.S.most∧i<=65536:=by
    have h1:=hrel.2.2.2.2;have h2:=HIN.out.2.2.2.2.2.2;have h3:(i+1)*(2*bl)<=n*(2*bl):=Nat.mul_le_mul_right _ (by omega);rw [HIN.out.2.2.2.2.2.1] at h1;rw [Nat.add_mul,Nat.one_mul] at h3;exact ⟨by omega,by omega⟩
   have HLI:=zh hlim;have hiL:=hlim.2;have htk:apS base (qs.take (i+1))=apS base (qs.take i)++[(apP base q).map Tr.leaf]:=by
    unfold apS;rw [List.take_add_one,hq];simp
   have HTK:=zh htk;obtain ⟨i1,hi1⟩:∃ n,i+1=n:=⟨_,rfl⟩
   have HI1:=zh hi1;obtain ⟨pc,pf,pn,id⟩:=p;obtain ⟨qc,qf,qn,qt⟩:=q;obtain ⟨g1,g2,g3,g4⟩:=hpq;simp only at g1 g2 g3 g4 HRX;subst g1 g2 g3;cases pc with
   |true =>
    obtain ⟨e1,e2⟩:=chk_pos hck;obtain ⟨e3,e4,e5⟩:=e2 rfl;simp only at e1 e3 e4 e5;rw [HIN.out.2.2.2.2.2.1] at e5;obtain ⟨f,rfl⟩:∃ f:Nat,pf=f:=⟨pf.toNat,by omega⟩
    obtain ⟨m,rfl⟩:∃ f:Nat,pn=f:=⟨pn.toNat,by omega⟩
    have HFM:Hid (f+m<=bl∧apP base ⟨true,(f:Int),(m:Int),qt⟩=(base.drop f).take m):=zh ⟨by omega,by simp [apP]⟩;clear hrel hp hq hcell hck hlim htk hi1 e1 e2 e3 e4 e5 g4;go_wp2_with (first|refine sL ?_|(refine sS ?_;clear H;intros;rename_i H)|(go_at_call 56;with_reducible refine zm (HSE.out X1 f m HX1.out.2.2.1 HX1.out.2.2.2.1 HFM.out.1 HLI.out.1 _ (H.sepK HK pk pk)) ?_;rintro e9 wc ⟨X2,id2,rfl,y1,y2,y3,y4,hb⟩;have HZ:=zh (za y1 (za y2 (za y3 y4)));clear y1 y2 y3 y4;replace H:=zn ((H.pick pk).call hb);clear hb)|((with_reducible refine isLoad ?_);refine AtLoad.rngT rfl rfl rfl (HRX.out _ (H.known HK pk)) rfl ?_;simp only [Act.put,puA,puB,puC])|((with_reducible refine isSlice ?_);refine AtSlice.one H rfl rfl rfl rfl rfl rfl rfl rfl rfl ?_;clear H;intro b _ H;simp only [Act.put,puA,puB,puC])|((with_reducible refine isAppend ?_);refine AtAppend.go (enc:=encI) H rfl rfl rfl rfl rfl (by decide) (by decide) rfl pk rfl (H.at pk) [id2] rfl (by simp [flatG,encI]) encI_len encI_one (by have h1:=HX1.out.1;simp;omega) ?_;clear H;intro ad9 cp9 _ H;simp only [Act.put,puA,puB,puC]));go_roundg (n-(i+1));case measure=>omega
    case rel =>
     have h1:=HX1.out;have h2:=HIN.out.2.2.2.2.2.1;have h3:=HI1.out;refine ⟨i1,X2,ids++[id2],by rw [h3],by omega,by rw [← h3];go_num,⟨by simp [h1.1,h3],?_,h1.2.2.1.trans HZ.out.1,HZ.out.2.1,?_⟩,H.picks (.cons pk (.cons pk .nil))⟩
     ·rw [← h3,HTK.out,HFM.out.2];exact (h1.2.1.le h1.2.2.2.1.ok HZ.out.1.le).snoc HZ.out.2.2.1
     ·have h4:=HZ.out.2.2.2;have h5:=h1.2.2.2.2;rw [← h3,Nat.add_mul,Nat.one_mul,h2];rw [h2] at h5;omega
   |false =>
    have HID:Hid (IdIs X1.S id ((apP base ⟨false,pf,pn,qt⟩).map Tr.leaf)):=zh (by
     simp only [apP];exact g4.le HIN.out.2.2.2.2.1.ok hrel.2.2.1.le)
    clear hrel hp hq hcell hck hlim htk hi1 g4;go_wp2_with (first|refine sL ?_|(refine sS ?_;clear H;intros;rename_i H)|((with_reducible refine isLoad ?_);refine AtLoad.rngT rfl rfl rfl (HRX.out _ (H.known HK pk)) rfl ?_;simp only [Act.put,puA,puB,puC])|((with_reducible refine isSlice ?_);refine AtSlice.one H rfl rfl rfl rfl rfl rfl rfl rfl rfl ?_;clear H;intro b _ H;simp only [Act.put,puA,puB,puC])|((with_reducible refine isAppend ?_);refine AtAppend.go (enc:=encI) H rfl rfl rfl rfl rfl (by decide) (by decide) rfl pk rfl (H.at pk) [id] rfl (by simp [flatG,encI]) encI_len encI_one (by have h1:=HX1.out.1;simp;omega) ?_;clear H;intro ad9 cp9 _ H;simp only [Act.put,puA,puB,puC]));go_roundg (n-(i+1));case measure=>omega
    case rel =>
     have h1:=HX1.out;have h3:=HI1.out;refine ⟨i1,X1,ids++[id],by rw [h3],by omega,by rw [← h3];go_num,⟨by simp [h1.1,h3],?_,h1.2.2.1,h1.2.2.2.1,?_⟩,H.picks (.cons pk (.cons pk .nil))⟩
     ·rw [← h3,HTK.out];exact h1.2.1.snoc HID.out
     ·have h5:=h1.2.2.2.2;rw [← h3,Nat.add_mul,Nat.one_mul];omega
  ·have d5:decide ((i:Int)<(n:Int))=false:=(by simp;omega);have d5n:decide (i<n)=false:=(by simp;omega);have hin:i=n:=(by omega);subst hin;have HCX:=zh (HCC.out X1 ids ad2 c2 hrel.2.2.1 hrel.2.2.2.1 hrel.1 (by
    have:=hrel.2.1;rwa [List.take_of_length_le (by rw [HIN.out.2.2.1];exact Nat.le_refl _)] at this) (by
    have h1:=hrel.2.2.2.2;have h2:=HIN.out.2.2.2.2.2.2;rw [HIN.out.2.2.2.2.2.1] at h1;omega))
   rw [hrel.1] at H ⊢;clear hrel hlt;go_wp2_with (first|refine sL ?_|(refine sS ?_;clear H;intros;rename_i H)|(go_at_call 57;with_reducible refine zm (HCX.out _ (H.sepK HK pk pk) (H.sepO pk pk)) ?_;rintro e9 wc ⟨X2,id2,rfl,y1,y2,y3,y4,hb⟩;have HZ:=zh (za y1 (za y2 (za y3 y4)));clear y1 y2 y3 y4;replace H:=zn ((H.pick pk).call hb);clear hb));go_ret2;refine ⟨X2,id2,rfl,HX1.out.2.2.1.trans HZ.out.1,HZ.out.2.1,HZ.out.2.2.1,?_,H.picks (.cons pk .nil)⟩;have h4:=HZ.out.2.2.2;have h5:=HX1.out.2.2.2.2;rw [HIN.out.2.2.2.2.2.1] at h5;omega
end
section
open Go.RowKit Go.Maps
attribute [local go_sem] InGr
def strB (l:List Nat):ByteArray:=⟨(l.map UInt8.ofNat).toArray⟩
theorem strB_size (l:List Nat):(strB l).size=l.length:=by simp [strB,ByteArray.size]
theorem strB_nil:strB []=⟨#[]⟩:=rfl
theorem strB_cells {l:List Nat} (hl:∀ x∈l,x<256) (cap:Nat):∀ (j:Nat) (u:Value),(flatG encT l)[j]?=some u->(bytesRow (strB l) cap)[j]?=some u:=by
 intro j u hj;have hf:flatG encT l=l.map fun x=>(.int .u8 (x:Nat):Value):=by
  unfold flatG encT;clear hj hl;induction l with
  |nil=>rfl
  |cons x l ih=>rw [List.flatMap_cons,List.map_cons,ih];rfl
 rw [hf,List.getElem?_map] at hj;cases hx:l[j]? with
 |none=>rw [hx] at hj;simp at hj
 |some x =>
  rw [hx] at hj;simp at hj;subst hj;have hjl:=gelt hx;have hx2:x<256:=hl x (List.mem_of_getElem? hx);unfold bytesRow;rw [Array.getElem?_append_left (by simp [strB];exact hjl)];simp only [strB,Array.getElem?_map,List.getElem?_toArray,List.getElem?_map,hx,Option.map_some];simp [UInt8.toNat_ofNat',Nat.mod_eq_of_lt hx2]
section
variable {ops:Array Oper} {Q:Exit->Act->World->Prop} {rest:List Oper} {a:Act} {w w0:World} {M:List Nat} {L R:List As} {o1:Oper} {dst:Option Tmp} {ty0:TypeId} {pos:String} {aft:Array Edge} {gd:Option (Nat×Bool)}
def AtBytes (P:Program) (ops:Array Oper) (Q:Exit->Act->World->Prop) (o:Oper) (_ _:TypeId) (_:Operand) (rest:List Oper) (a:Act) (w:World):Prop:=wpList P ops Q (o::rest) a w
theorem isBytes {P:Program} {x:Operand} (h:AtBytes P ops Q ⟨dst,.convert 9 42 x,ty0,pos,aft,gd⟩ 9 42 x rest a w):wpList P ops Q (⟨dst,.convert 9 42 x,ty0,pos,aft,gd⟩::rest) a w:=h
theorem St.ofBytes {w0 w:World} {M:List Nat} {L:List As} {l:List Nat} {cap:Nat} {fr:Nat×Nat} (H:St w0 M L w) (hl:∀ x∈l,x<256):St w0 M (poolA [(w.heap.size,0,flatG encT l)]::L) (w.drew.alloc (.cells (bytesRow (strB l) cap) 5 fr)):=by
 have h1:St w0 M L w.drew:=⟨H.os,H.tape,H.output,H.size,H.keep,fun A hA=>A.loc w _ (fun _ _=>rfl) (H.ho A hA),H.own,H.dis⟩
 have h2:=h1.alloc (.cells (bytesRow (strB l) cap) 5 fr);refine h2.conv (by rw [poolA_fp,blk_fp];rfl) fun hb=>?_
 rw [blk_ho] at hb;rw [poolA_ho];intro x hx;simp only [List.mem_cons,List.not_mem_nil,or_false] at hx;subst hx;refine ⟨lt_of_block hb,fun j u hj=>?_⟩;show (w.drew.alloc (.cells (bytesRow (strB l) cap) 5 fr)).cell? ⟨w.drew.heap.size,0+j,none⟩=some u
 rw [cell_of_row _ _ (0+j) _ _ fr hb,Nat.zero_add];exact strB_cells hl cap j u hj
theorem AtBytes.go {x:Operand} (H:St w0 M L w) (hw:Region.wanted o1 (yielded ops a.tmps)=true) (ho:o1.op=.convert 9 42 x) (l:List Nat) (hx:evalO a x=some (.string (strB l))) (hl:∀ x∈l,x<256) {n:Nat} (hn:l.length=n) (hm:n<=maxLen)
  (h:∀ g c w',RowIn [(g,0,flatG encT l)] encT 1 (.slice (some ⟨g,0,none⟩) n c) l->St w0 M (poolA [(g,0,flatG encT l)]::L) w'->wpList Tryz.prog ops Q rest (a.put o1.dst (.slice (some ⟨g,0,none⟩) n c)) w'):AtBytes Tryz.prog ops Q o1 9 42 x rest a w :=
 wpList_step fun _ hK=>by
  rw [if_pos hw];subst hn;have hr:=run_bytes_of_string (P:=Tryz.prog) w 9 42 5 (strB l) (by kernel_rfl) (by kernel_rfl) (by kernel_rfl);rw [strB_size] at hr;unfold Oper.wp execOp;simp only [ho,evalO_eq hx,Sem.run_bind,hr,Result.andThen_ok,Sem.run_pure];exact hK _ _ (h _ _ _ ⟨_,_,rfl,hm,fun _=>⟨w.heap.size,0,rfl,by simp⟩⟩ (H.ofBytes hl))
end
attribute [irreducible] strB
attribute [local go_sem] strB_size
abbrev ParsePost (text:List Nat) (w:World) (e:Ending) (w':World):Prop :=
 ∃ (X:Px) (id:Nat),e=.returned (.tuple #[.pointer (some ⟨X.p,0,none⟩),.int .i64 id,.bool true])∧PxOk X∧X.S.most=1048576∧IdIs X.S id (text.map Tr.leaf)∧X.S.list.length<=2*text.length∧St w [] [pA X] w'
theorem parse_c {text:List Nat} (hb:∀ x∈text,x<256) (hlen:text.length<=1000) (w:World) (hde:deA.ho w) :
    Calls Tryz.prog 15 #[.string (strB text)] w (ParsePost text w):=by
  have H:=St.nil w [];have HK:Ks w [] [deA]:=Ks.one hde;clear hde;have HNW:Hid (∀ w,Calls Tryz.prog 55 #[.int .i64 1048576] w fun e w'=>∃ p m,e=.returned (.pointer (some ⟨p,0,none⟩))∧St w [] [stoA p (.slice none 0 0) m ⟨1048576,[]⟩] w'):=zh fun w=>new_c 1048576 (Nat.le_refl _) 1048576 rfl w
  have HSN:Hid (∀ ps pm w,(stoA ps (.slice none 0 0) pm ⟨1048576,[]⟩).ho w->Calls Tryz.prog 54 #[.pointer (some ⟨ps,0,none⟩)] w fun e w'=>∃ X:Px,X.s=ps∧X.S=⟨1048576,[]⟩∧PxOk X∧e=.returned (.pointer (some ⟨X.p,0,none⟩))∧St w (stoA ps (.slice none 0 0) pm ⟨1048576,[]⟩).fp [pA X] w'):=zh fun ps pm w h=>snew_c sto_nil_ok w h
  obtain ⟨n,hn⟩:∃ n,text.length=n:=⟨_,rfl⟩
  have hsz:(strB text).size=n:=(by rw [strB_size];exact hn);have HOF:Hid (∀ (X:Px) (g c:Nat),PxOk X->X.S=⟨1048576,[]⟩->RowIn [(g,0,flatG encT text)] encT 1 (.slice (some ⟨g,0,none⟩) n c) text->∀ w,((pA X).sep deA).ho w->((pA X).sep (poolA [(g,0,flatG encT text)])).ho w->Calls Tryz.prog 22 #[.pointer (some ⟨X.p,0,none⟩),.slice (some ⟨g,0,none⟩) n c] w (IdPost X (text.map Tr.leaf) (2*n) (pA X).fp w)):=zh fun X g c q1 q2 q3 w h1 h2=>by
    have:=of_any q1 q3 hb (by omega) (by rw [q2];simp;omega) w h1 h2;rw [hn] at this;exact this
  have HB:Hid ((∀ x∈text,x<256)∧text.length=n∧n<=1000):=zh ⟨hb,hn,by omega⟩;have HZ0:Hid (∀ (S:Sto) (id:Nat),IdIs S id (text.map Tr.leaf)->(id=0↔n=0)):=zh fun S id h=>by
    rw [idIs_zero h,← hn];exact ⟨fun h=>by rw [h];rfl,List.eq_nil_of_length_eq_zero⟩
  unfold ParsePost;rw [hn];clear hb hlen hn;go_enter Tryz.func15,Tryz.ntmps15;go_wp2_with (first|refine sL ?_|(refine sS ?_;clear H;intros;rename_i H)|(go_at_call 55;with_reducible refine zm (HNW.out _) ?_;rintro e9 wc ⟨ps,pm,rfl,hb⟩;replace H:=zn (H.call0 hb);clear hb)|(go_at_call 54;with_reducible refine zm (HSN.out _ _ _ (H.get pk)) ?_;rintro e9 wc ⟨X,hxs,hxS,hxo,rfl,hb⟩;have HXN:=zh (za hxS hxo);clear hxs hxS hxo;replace H:=zn ((H.pick pk).call hb);clear hb)|((with_reducible refine isBytes ?_);refine AtBytes.go H rfl rfl text rfl HB.out.1 HB.out.2.1 (by have:=HB.out.2.2;unfold maxLen;omega) ?_;clear H;intro gb cb _ hrb H;have HRB:=zh hrb;clear hrb;simp only [Act.put,puA,puB,puC]));go_at_call 22
  with_reducible refine zm (HOF.out X gb cb HXN.out.2 HXN.out.1 HRB.out _ (H.sepK HK pk pk) (H.sepO pk pk)) ?_
  rintro e9 wc ⟨X2,id2,rfl,y1,y2,y3,y4,hb⟩;have hz:=HZ0.out _ _ y3;have HY:=zh (za y1 (za y2 (za y3 y4)));clear y1 y2 y3 y4;replace H:=zn ((H.pick pk).call hb);clear hb;rcases Nat.eq_zero_or_pos n with h0|h0
  case' inl =>
    have d1:decide ((0:Int)<(id2:Int))=false:=(by have:=hz.2 h0;simp;omega);have d1n:decide (0<id2)=false:=(by have:=hz.2 h0;simp;omega);have d2:decide ((0:Int)<(n:Int))=false:=(by simp;omega);have d2n:decide (0<n)=false:=by simp;omega
  case' inr =>
    have d1 : decide ((0 : Int) < (id2 : Int)) = true := by have : id2 ≠ 0 := fun h => by have := hz.1 h; omega
                                                            simp;omega
    have d1n : decide (0 < id2) = true := by have : id2 ≠ 0 := fun h => by have := hz.1 h; omega
                                             simp;omega
    have d2:decide ((0:Int)<(n:Int))=true:=(by simp;omega);have d2n:decide (0<n)=true:=by simp;omega
  all_goals
    clear hz h0;go_wp2_with (first|refine sL ?_|(refine sS ?_;clear H;intros;rename_i H))
    go_ret3
    exact ⟨X2,id2,by rw [HY.out.1.p];rfl,HY.out.2.1,by rw [HY.out.1.le.1,HXN.out.1],HY.out.2.2.1,by have:=HY.out.2.2.2;rw [HXN.out.1] at this;simpa using this,H.picks (.cons pk .nil)⟩
end
section
open Go.RowKit Go.Maps
attribute [local go_sem] InGr strB_size
theorem bytes_conv {v:Value} {l:List Nat} (hl:∀ x∈l,x<256) {w:World} (h:(rowsA encT 5 1 v l).ho w):(convert 42 9 v).run Tryz.prog w=.ok (.string (strB l)) w:=by
 have k1:Tryz.prog.underlying 42=some (.slice 5):=(by kernel_rfl);have k2:Tryz.prog.underlying 5=some (.int .u8):=(by kernel_rfl);have k3:Tryz.prog.underlying 9=some .string:=(by kernel_rfl);rcases Nat.eq_zero_or_pos l.length with h0|h0
 ·have:l=[]:=List.eq_nil_of_length_eq_zero h0;subst this;obtain ⟨ad,c,rfl,_⟩:=rowsA_shape h;rw [strB_nil];cases ad with
  |none=>exact Lib.run_convert_nil_bytes w _ _ _ c k1 k2 k3
  |some a =>
   have:=run_convert_bytes_back (P:=Tryz.prog) w 42 9 5 a c [] k1 k2 k3 (fun j hj=>absurd hj (by simp));simpa using this
 ·obtain ⟨g,c,rfl,_,_⟩:=rowsA_cases h h0;have:=run_convert_bytes_back (P:=Tryz.prog) w 42 9 5 ⟨g,0,none⟩ c (l.map UInt8.ofNat) k1 k2 k3 (fun j hj=>by
   have hj':j<l.length:=(by simpa using hj);have hx:=zg hj';have hc:=rowsA_cell h encT_len hx (j:=0) rfl;have hb:l[j]<256:=hl _ (List.getElem_mem hj');rw [Addr.add_mid,Nat.zero_add];simp only [Nat.mul_one,Nat.add_zero] at hc;rw [hc];simp [UInt8.toNat_ofNat',Nat.mod_eq_of_lt hb])
  rw [List.length_map] at this;rw [this];unfold strB;rfl
section
variable {a:Act} {ops:Array Oper} {K:Act->Prop} {rest:List Oper} {dst:Option Tmp} {ty0:TypeId} {pos:String} {aft:Array Edge} {gd:Option (Nat×Bool)} {w1:World}
def QtConv (P:Program) (ops:Array Oper) (C:World->Prop) (K:Act->Prop) (o:Oper) (_ _:TypeId) (_:Operand) (rest:List Oper) (a:Act):Prop:=wpQuiet P ops C K (o::rest) a
theorem isQConv {C:World->Prop} {t u:TypeId} {x:Operand} (h:QtConv Tryz.prog ops C K ⟨dst,.convert t u x,ty0,pos,aft,gd⟩ t u x rest a):wpQuiet Tryz.prog ops C K (⟨dst,.convert t u x,ty0,pos,aft,gd⟩::rest) a:=h
theorem QtConv.go {o1:Oper} {t u:TypeId} {x:Operand} (hw:Region.wanted o1 (yielded ops a.tmps)=true) (ho:o1.op=.convert t u x) {v z:Value} (hx:a.eval x=v) (hc:∀ y:Gr w1,(convert t u v).run Tryz.prog y.1=.ok z y.1)
  (h:wpQuiet Tryz.prog ops (InGr w1) K rest (a.put o1.dst z)):QtConv Tryz.prog ops (InGr w1) K o1 t u x rest a :=
 wpQuiet_step fun _ hK=>by
  rw [if_pos hw];refine ⟨z,fun w2 ⟨y,hy⟩=>?_,hK _ h⟩;subst hy;unfold Oper.quietAt execOp;simp only [ho,hx,Sem.run_bind,hc y,Result.andThen_ok];exact ⟨rfl,rfl⟩
end
theorem txt_lay:∀ {t:Tr},Leaves (t.lay 0)->t.lay 0=t.txt.map Tr.leaf
 |.leaf b,_=>rfl
 |.pair l r,h=>by
  by_cases h0:(Tr.pair l r).lv<=0
  ·simp only [Tr.lay,h0,if_true] at h;obtain ⟨b,hb⟩:=h _ (List.mem_singleton.2 rfl);cases hb
  ·simp only [Tr.lay,h0,if_false] at h ⊢;rw [txt_lay (t:=l) fun x hx=>h x (by simp [hx]),txt_lay (t:=r) fun x hx=>h x (by simp [hx])];simp [Tr.txt]
 |.pow s k,h=>by
  by_cases h0:(Tr.pow s k).lv<=0
  ·simp only [Tr.lay,h0,if_true] at h;obtain ⟨b,hb⟩:=h _ (List.mem_singleton.2 rfl);cases hb
  ·simp only [Tr.lay,h0,if_false] at h ⊢;rcases Nat.eq_zero_or_pos k with rfl|hk
   ·rfl
   ·rw [txt_lay (t:=s) fun x hx=>h x (List.mem_flatten.2 ⟨s.lay 0,List.mem_replicate.2 ⟨by omega,rfl⟩,hx⟩)];simp [Tr.txt]
attribute [local go_sem] StStep stAt stUpon in
theorem text_c {X:Px} {id:Nat} {t:List Nat} (hX:PxOk X) (hd:IdIs X.S id (t.map Tr.leaf)) (ht:t.length<=5000) (hb:∀ x∈t,x<256) (w:World) (h:(pA X).ho w) :
  Calls Tryz.prog 49 #[.pointer (some ⟨X.p,0,none⟩),.int .i64 id] w fun e w'=>e=.returned (.tuple #[.string (strB t),.bool true])∧St w [] [] w':=by
 have H:=St.nil w [];have HK:=Ks.one h;obtain ⟨a2,a3,a4,a5,a6,hw⟩:=weight_any hX hd;obtain ⟨n,hn⟩:∃ n,t.length=n:=⟨_,rfl⟩
 have HW:Hid (∀ w,(pA X).ho w->Calls Tryz.prog 40 #[.pointer (some ⟨X.s,0,none⟩),.int .i64 id] w fun e w'=>e=.returned (.tuple #[.agg #[.int .i64 (n:Nat),.int .i64 a2,.int .i64 a3,.int .i64 a4,.int .u64 a5,.int .u64 a6],.nilIface])∧St w [] [] w'):=zh fun w h=>by
  have:=hw X w (.refl _) rfl h;rw [List.length_map,hn] at this;exact this
 have HS:Hid (∀ w,(pA X).ho w->Calls Tryz.prog 53 #[.pointer (some ⟨X.p,0,none⟩)] w fun e w'=>e=.returned (.pointer (some ⟨X.s,0,none⟩))∧w'=w):=zh fun w h=>store_p w h
 have HE:Hid (∀ w,(pA X).ho w->Calls Tryz.prog 78 #[.pointer (some ⟨X.s,0,none⟩),.int .i64 (id:Nat),.int .i64 0,.int .i64 (n:Nat)] w fun e w'=>∃ v':Value,e=.returned (.tuple #[v',.nilIface])∧St w [] [rowsA encT 5 1 v' t] w'):=zh fun w h=>extract_c hX.ok (by
  rcases hd with ⟨h1,h2⟩|⟨T,h1,h2,h3⟩
  ·left
   have:t=[]:=by simpa using h1
   subst this;exact ⟨h2,by simpa using hn.symm,rfl⟩
  ·right
   have h4:T.txt=t:=by
    have:=h3.symm.trans (txt_lay (by rw [h3];exact leaves_map t));exact ((List.map_inj_right (fun a b h=>by injection h)).1 this).symm
   refine ⟨h1.1,h1.2.1,?_,?_⟩
   ·rw [h1.2.2,← Tr.txt_len,h4,hn]
   ·rw [h1.2.2,h4]) (by omega) w (pA_sto h)
 have HC:Hid (∀ (v:Value) w,(rowsA encT 5 1 v t).ho w->(convert 42 9 v).run Tryz.prog w=.ok (.string (strB t)) w):=zh fun v w h=>bytes_conv hb h
 have hnb:n<=5000:=(by omega);have d1:decide ((5000:Int)<(n:Int))=false:=(by simp;omega);have d1n:decide (5000<n)=false:=(by simp;omega);clear hX hd ht hb h hw hn;go_enter Tryz.func49,Tryz.ntmps49;go_wp2_with (first|refine sL ?_|(refine sS ?_;clear H;intros;rename_i H)|(go_at_call 40;with_reducible refine zm (HW.out _ (H.known HK pk)) ?_;rintro e9 wc ⟨rfl,hb⟩;replace H:=H.grew hb.below;clear hb)|(go_at_call 53;with_reducible refine same (HS.out _ (H.known HK pk)) ?_));rename_i bw _ _ _ _;refine wp_region_sgx 11 [⟨[],fun v _=>v=.pointer (some ⟨X.p,0,none⟩)⟩,⟨[0],fun v _=>v=.pointer (some ⟨X.s,0,none⟩)⟩,⟨[],fun v _=>v=.int .i64 id⟩,⟨[],fun v _=>v=.pointer (some ⟨bw,0,none⟩)⟩,⟨[3],fun v _=>v=.int .i64 (n:Nat)⟩,⟨[1,2,4],fun v _=>∃ v2:Value,v=.tuple #[v2,.nilIface]⟩,⟨[5],fun v ds=>ds=[v]⟩,⟨[6],fun v ds=>∃ v2:Value,ds=[.tuple #[v2,.nilIface]]∧v=v2⟩,⟨[6],fun v ds=>∃ v2:Value,ds=[.tuple #[v2,.nilIface]]∧v=.nilIface⟩,⟨[7],fun v ds=>ds=[v]⟩,⟨[8],fun v ds=>ds=[v]⟩] [5] [[0],[0],[0],[0],[0],[0],[1],[1],[1],[1],[1]] [fun _ wx=>St w [] [blk bw (.cells #[.int .i64 (n:Nat),.int .i64 a2,.int .i64 a3,.int .i64 a4,.int .u64 a5,.int .u64 a6] 78)] wx,fun vals wx=>∃ v2:Value,vals 5=.tuple #[v2,.nilIface]∧St w [] [rowsA encT 5 1 v2 t,blk bw (.cells #[.int .i64 (n:Nat),.int .i64 a2,.int .i64 a3,.int .i64 a4,.int .u64 a5,.int .u64 a6] 78)] wx]
  [[],[(0,24)],[],[],[(3,27)],[(1,25),(2,26),(4,28)],[(5,29)],[(6,23)],[(6,23)],[(7,30)],[(8,31)]] [(0,24),(1,25),(2,26),(3,27),(4,28),(5,29),(6,23),(7,30),(8,31),(9,8),(10,7)] (by kernel_rfl) (by kernel_rfl) H.drew ⟨⟨qo,trivial⟩,⟨?_,trivial⟩,⟨qo,trivial⟩,⟨qo,trivial⟩,⟨ql,trivial⟩,⟨?_,trivial⟩,⟨?_,trivial⟩,⟨?_,trivial⟩,⟨?_,trivial⟩,⟨?_,trivial⟩,⟨?_,trivial⟩,trivial⟩ ?_
 ·intro vals wx hd HC;simp only [GF] at hd;have h0:=hd;clear hd;have H:=HC;simp only [CA] at H;simp only [PS,h0];clear h0;go_simp;with_reducible refine zm (HS.out _ (H.known HK pk)) ?_
  rintro e wz ⟨rfl,rfl⟩;exact ⟨_,rfl,rfl,HC⟩
 ·intro vals wx hd HC;simp only [GF] at hd;obtain ⟨h1,h2,h4⟩:=hd;have H:=HC;simp only [CA] at H;simp only [PS,h1,h2,h4];clear h1 h2 h4 HC;go_simp;with_reducible refine zm (HE.out _ (H.known HK pk)) ?_
  rintro e wz ⟨v2,rfl,hb⟩;have H2:=H.call0 hb;exact ⟨_,rfl,⟨_,rfl⟩,v2,rfl,H2⟩
 ·intro vals wx hd HC;simp only [GF] at hd;have h5:=hd;clear hd;have H:=HC;simp only [CA] at H;obtain ⟨v2,hv,H⟩:=H;simp only [PS];clear h5;go_simp;first|exact HC|exact ⟨rfl,HC⟩
 ·intro vals wx hd HC;simp only [GF] at hd;have h6:=hd;clear hd;have H:=HC;simp only [CA] at H;obtain ⟨v2,hv,H⟩:=H;simp only [PS];have e6:vals 6=.tuple #[v2,.nilIface]:=(by rw [← hv];exact X8 (show [vals 5]=[vals 6] from h6));simp only [e6];clear h6;go_simp;first|exact ⟨⟨v2,by simp [e6],rfl⟩,HC⟩|exact ⟨⟨v2,rfl⟩,HC⟩|exact ⟨rfl,HC⟩|exact HC|exact ⟨⟨⟨v2,rfl⟩,rfl⟩,HC⟩|exact ⟨⟨v2,rfl,rfl⟩,HC⟩|fail "Z9"
 ·intro vals wx hd HC;simp only [GF] at hd;have h6:=hd;clear hd;have H:=HC;simp only [CA] at H;obtain ⟨v2,hv,H⟩:=H;simp only [PS];have e6:vals 6=.tuple #[v2,.nilIface]:=(by rw [← hv];exact X8 (show [vals 5]=[vals 6] from h6));simp only [e6];clear h6;go_simp;first|exact ⟨⟨v2,by simp [e6],rfl⟩,HC⟩|exact ⟨⟨v2,rfl⟩,HC⟩|exact ⟨rfl,HC⟩|exact HC|exact ⟨⟨⟨v2,rfl⟩,rfl⟩,HC⟩|exact ⟨⟨v2,rfl,rfl⟩,HC⟩|fail "Z9"
 ·intro vals wx hd HC;simp only [GF] at hd;have h7:=hd;clear hd;have H:=HC;simp only [CA] at H;obtain ⟨v2,hv,H⟩:=H;simp only [PS];clear h7;go_simp;first|exact HC|exact ⟨rfl,HC⟩
 ·intro vals wx hd HC;simp only [GF] at hd;have h8:=hd;clear hd;have H:=HC;simp only [CA] at H;obtain ⟨v2,hv,H⟩:=H;simp only [PS];clear h8;go_simp;first|exact HC|exact ⟨rfl,HC⟩
 intro vals wx hd HC;have h5:=hd.2.2.2.2.2.1;have h6:=hd.2.2.2.2.2.2.1;have h7:=hd.2.2.2.2.2.2.2.1;have h8:=hd.2.2.2.2.2.2.2.2.1;have h9:=hd.2.2.2.2.2.2.2.2.2.1;have h10:=hd.2.2.2.2.2.2.2.2.2.2.1;simp only [CA] at HC;obtain ⟨v2,hv,H⟩:=HC;simp only [GF] at hd;simp only [PS,hd];clear hd;have e6:vals 6=.tuple #[v2,.nilIface]:=(by rw [← hv];exact X8 (show [vals 5]=[vals 6] from h6));have e9:vals 9=v2:=by
  obtain ⟨q,q1,q2⟩:=(h7:∃ v2:Value,[vals 6]=[.tuple #[v2,.nilIface]]∧vals 7=v2)
  replace q1:[vals 6]=[Value.tuple #[q,.nilIface]]:=q1;rw [e6] at q1;simp only [List.cons.injEq,and_true,Value.tuple.injEq,Array.mk.injEq,true_and] at q1;rw [X8 (show [vals 7]=[vals 9] from h9),q2,q1]
 have e10:vals 10=.nilIface:=by
  obtain ⟨q,q1,q2⟩:=(h8:∃ v2:Value,[vals 6]=[.tuple #[v2,.nilIface]]∧vals 8=.nilIface)
  rw [X8 (show [vals 8]=[vals 10] from h10),q2]
 simp only [e9,e10];clear e6 e9 e10 h5 h6 h7 h8 h9 h10 hv;go_wp2_with (first|refine sL ?_|(refine sS ?_;clear H;intros;rename_i H));refine wp_region_h H 6 [] [] (by kernel_rfl) (by kernel_rfl) ?_;apply Exists.intro;refine ⟨fun w1 hw1 HX=>?_,fun bs wr Hr=>?_⟩
 ·refine sG ?_;repeat (first|go_big_quiet_skip|refine sQ ?_|((with_reducible refine isQConv ?_);refine QtConv.go rfl rfl rfl (fun y=>HC.out _ _ ((HX y).get (A:=rowsA encT 5 1 v2 t) pk)) ?_;simp only [Act.put,puA,puB,puC])|go_big_quiet_step (fail))
  exact wpQuiet_nil rfl
 clear H;have H:=Hr;clear Hr;replace H:=sH H;refine sT ?_;go_wp2_with (first|refine sL ?_|(refine sS ?_;clear H;intros;rename_i H));go_ret2;exact ⟨rfl,H.nix⟩
end
section
open Go.RowKit Go.Maps
attribute [local go_sem] InGr strB_size
def encR (q:Pz):List Value:=[.bool q.c,.int .i64 q.f,.int .i64 q.n,.string (strB q.t)]
theorem encR_len (q:Pz):(encR q).length=4:=rfl
def txL (l:List Pz):Nat:=(l.map fun q=>q.t.length).sum
theorem txL_take_succ {l:List Pz} {i:Nat} {q:Pz} (h:l[i]?=some q):txL (l.take (i+1))=txL (l.take i)+q.t.length:=by
 unfold txL;rw [List.take_add_one,h];simp
theorem txL_take (l:List Pz) (i:Nat):txL (l.take i)<=txL l:=by
 unfold txL;have h:l.take i++l.drop i=l:=List.take_append_drop i l;have h2:=congrArg (fun l:List Pz=>(l.map fun q=>q.t.length).sum) h;simp only [List.map_append,List.sum_append] at h2;omega
theorem row_cells {P:PoolT} {qs:List Pz} {g o n c i:Nat} {q:Pz} (hr:RowIn P encR 4 (.slice (some ⟨g,o,none⟩) n c) qs) (hq:qs[i]?=some q):∀ w,(poolA P).ho w->w.cell? ⟨g,o+i*4,none⟩=some (.bool q.c)∧w.cell? ⟨g,o+i*4+1,none⟩=some (.int .i64 q.f)∧w.cell? ⟨g,o+i*4+2,none⟩=some (.int .i64 q.n)∧w.cell? ⟨g,o+i*4+3,none⟩=some (.string (strB q.t)):=fun w h=>by
 have h1:=hr.rng h encR_len hq;exact ⟨h1 0 _ rfl,h1 1 _ rfl,h1 2 _ rfl,h1 3 _ rfl⟩
abbrev PcsPost (X:Px) (qs:List Pz) (M:List Nat) (w:World) (e:Ending) (w':World):Prop :=
 ∃ (X':Px) (v':Value) (ps:List Pi),e=.returned (.tuple #[v',.bool true])∧X.Ext X'∧PxOk X'∧PiL X'.S ps qs∧X'.S.list.length<=X.S.list.length+2*txL qs∧St w M [pA X',rowsA encPi 98 4 v' ps] w'
def PcRel (X:Px) (N:List Nat) (w:World) (qs:List Pz) (n m:Nat) (v1 v:Value) (wr:World):Prop :=
 ∃ (i:Nat) (X1:Px) (ps:List Pi),m=n-i∧i<=n∧v=.int .i64 i∧(ps.length=i∧PiL X1.S ps (qs.take i)∧X.Ext X1∧PxOk X1∧X1.S.list.length<=X.S.list.length+2*txL (qs.take i))∧St w N [pA X1,rowsA encPi 98 4 v1 ps] wr
theorem pieces_c {X:Px} {P:PoolT} {qs:List Pz} {v:Value} (hX:PxOk X) (hr:RowIn P encR 4 v qs) (hb:∀ q∈qs,∀ x∈q.t,x<256) (hn:qs.length<=1024) (htx:txL qs<=65536) (hroom:X.S.list.length+2*txL qs<X.S.most) (w:World) (h:PH X w) (hp:((pA X).sep (poolA P)).ho w) :
  Calls Tryz.prog 16 #[.pointer (some ⟨X.p,0,none⟩),v] w (PcsPost X qs (pA X).fp w):=by
 have h:((pA X).sep deA).ho w:=h;rw [sep_ho] at h hp;have H:=St.one h.1;have HK:Ks w (pA X).fp [deA,poolA P]:=⟨fun A hA=>by
   simp at hA;rcases hA with rfl|rfl
   ·exact h.2.1
   ·exact hp.2.1,fun A hA b hbA hm=>by
   simp at hA;rcases hA with rfl|rfl
   ·exact h.2.2 b hm hbA
   ·exact hp.2.2 b hm hbA⟩
 generalize (pA X).fp=N at *;clear h hp;obtain ⟨n,hnn⟩:∃ n,qs.length=n:=⟨_,rfl⟩
 obtain ⟨ad,c,rfl,_⟩:=hr.shape;have HCL:Hid (∀ (i:Nat) (q:Pz),qs[i]?=some q->∃ g o,ad=some ⟨g,o,none⟩∧∀ w,(poolA P).ho w->w.cell? ⟨g,o+i*4,none⟩=some (.bool q.c)∧w.cell? ⟨g,o+i*4+1,none⟩=some (.int .i64 q.f)∧w.cell? ⟨g,o+i*4+2,none⟩=some (.int .i64 q.n)∧w.cell? ⟨g,o+i*4+3,none⟩=some (.string (strB q.t))):=zh fun i q hq=>by
  obtain ⟨ad',c',e1,_,h3⟩:=id hr;obtain ⟨g,o,rfl,_⟩:=h3 (by have:=gelt hq;omega);injection e1 with e1 _ _
  subst e1;exact ⟨g,o,rfl,row_cells hr hq⟩
 have HOF:Hid (∀ (X1:Px) (t:List Nat) (k g c:Nat),X.Ext X1->PxOk X1->(∀ x∈t,x<256)->t.length=k->k<=65536->X1.S.list.length+2*k<X.S.most->RowIn [(g,0,flatG encT t)] encT 1 (.slice (some ⟨g,0,none⟩) k c) t->∀ w,((pA X1).sep deA).ho w->((pA X1).sep (poolA [(g,0,flatG encT t)])).ho w->Calls Tryz.prog 22 #[.pointer (some ⟨X.p,0,none⟩),.slice (some ⟨g,0,none⟩) k c] w (IdPost X1 (t.map Tr.leaf) (2*k) (pA X1).fp w)):=zh fun X1 t k g c q1 q2 q3 q4 q5 q6 q7 w h1 h2=>by
  have:=of_any q2 q7 q3 (by omega) (by rw [q1.le.1];omega) w h1 h2;rw [q1.p,q4] at this;exact this
 rw [hnn] at hn ⊢;have HIN:Hid ((∀ q∈qs,∀ x∈q.t,x<256)∧qs.length=n∧txL qs<=65536∧X.S.list.length+2*txL qs<X.S.most∧PxOk X):=zh ⟨hb,hnn,htx,hroom,hX⟩;clear hX hr hb htx hroom hnn;go_enter Tryz.func16,Tryz.ntmps16;go_wp2_with (first|refine sL ?_|(refine sS ?_;clear H;intros;rename_i H));replace H:=H.empty (A:=rowsA encPi 98 4 (.slice none 0 0) []) (rowsA_nil _) (by rw [rowsA_fp'];rfl);go_loopg [6,7] n (fun m v1 v2 wr=>PcRel X N w qs n m v1 v2 wr);case atStart=>exact ⟨0,X,[],rfl,Nat.zero_le _,rfl,⟨rfl,trivial,.refl _,HIN.out.2.2.2.2,by omega⟩,H.picks (.cons pk (.cons pk .nil))⟩
 case round =>
  clear H;obtain ⟨i,X1,ps,rfl,hik,rfl,hrel,H⟩:=hrel;have HX1:=zh hrel;obtain ⟨ad2,c2,rfl,_⟩:=rowsA_shape (H.get (A:=rowsA encPi 98 4 _ ps) pk);by_cases hlt:i<n
  ·obtain ⟨q,hq⟩:∃ a,qs[i]?=some a:=⟨_,zg (by rw [HIN.out.2.1];exact hlt)⟩
   obtain ⟨g,o,rfl,hcell⟩:=HCL.out i q hq;have d5:decide ((i:Int)<(n:Int))=true:=(by simp;omega);have d5n:decide (i<n)=true:=(by simp;omega);obtain ⟨k,hk⟩:∃ k,q.t.length=k:=⟨_,rfl⟩
   have htk:=txL_take_succ hq;have htk2:=txL_take qs (i+1);have htq:qs.take (i+1)=qs.take i++[q]:=(by rw [List.take_add_one,hq];rfl);have HLI:Hid (k<=65536∧X1.S.list.length+2*k<X.S.most∧q.t.length=k∧(∀ x∈q.t,x<256)∧txL (qs.take (i+1))=txL (qs.take i)+k∧qs.take (i+1)=qs.take i++[q]∧i<=1024):=zh (by
    have h1:=hrel.2.2.2.2;have h2:=HIN.out;exact ⟨by omega,by omega,hk,h2.1 q (List.mem_of_getElem? hq),by omega,htq,by omega⟩)
   have hkb:=HLI.out.1;have hib:=HLI.out.2.2.2.2.2.2;obtain ⟨qc,qf,qn,qt⟩:=q;simp only at hcell hk HLI;have HC0:Hid (∀ w,(poolA P).ho w->w.cell? ⟨g,o+i*4,none⟩=some (.bool qc)):=zh fun w h=>(hcell w h).1
   have HC1:Hid (∀ w,(poolA P).ho w->w.cell? ⟨g,o+i*4+1,none⟩=some (.int .i64 qf)):=zh fun w h=>(hcell w h).2.1
   have HC2:Hid (∀ w,(poolA P).ho w->w.cell? ⟨g,o+i*4+2,none⟩=some (.int .i64 qn)):=zh fun w h=>(hcell w h).2.2.1
   have HC3:Hid (∀ w,(poolA P).ho w->w.cell? ⟨g,o+i*4+3,none⟩=some (.string (strB qt))):=zh fun w h=>(hcell w h).2.2.2
   have hil:i<n:=hlt;clear hrel hq hcell hk htk htk2 htq;go_wp2_with (first|refine sL ?_|(refine sS ?_;clear H;intros;rename_i H)|((with_reducible refine isBytes ?_);refine AtBytes.go H rfl rfl qt rfl HLI.out.2.2.2.1 HLI.out.2.2.1 (by have:=HLI.out.1;unfold maxLen;omega) ?_;clear H;intro gb cb _ hrb H;have HRB:=zh hrb;clear hrb;simp only [Act.put,puA,puB,puC]));go_at_call 22
   with_reducible refine zm (HOF.out X1 qt k gb cb HX1.out.2.2.1 HX1.out.2.2.2.1 HLI.out.2.2.2.1 HLI.out.2.2.1 HLI.out.1 HLI.out.2.1 HRB.out _ (H.sepK HK pk pk) (H.sepO pk pk)) ?_
   rintro e9 wc ⟨X2,id2,rfl,y1,y2,y3,y4,hb⟩;have HY:=zh (za y1 (za y2 (za y3 y4)));clear y1 y2 y3 y4;replace H:=zn ((H.pick pk).call hb);clear hb;go_wp2_with (first|refine sL ?_|(refine sS ?_;clear H;intros;rename_i H));refine wp_region_h H 19 [(18,98,#[.bool qc,.int .i64 qf,.int .i64 qn,.int .i64 id2],some 1)] [(18,47)] (by kernel_rfl) (by kernel_rfl) ?_;apply Exists.intro;refine ⟨fun w1 hw1 HX=>?_,fun bs wr Hr=>?_⟩
   ·refine sG ?_;repeat (first|refine sQ ?_|go_big_quiet_step (fail))
    apply wpQuiet_nil;first|refine ⟨fstep_allocT rfl rfl hw1 rfl rfl,?_⟩|refine ⟨fstep_slice1 rfl rfl rfl rfl rfl rfl rfl rfl rfl hw1,?_⟩
    simp only [Act.put,puA,puB,puC];repeat (first|refine sQ ?_|go_big_quiet_step (fail))
    exact wpQuiet_nil rfl
   clear H;have H:=Hr;clear Hr;replace H:=sH H;refine sT ?_;go_wp2_with (first|refine sL ?_|(refine sS ?_;clear H;intros;rename_i H)|((with_reducible refine isAppend ?_);refine AtAppend.go (enc:=encPi) H rfl rfl rfl rfl rfl (by decide) (by decide) rfl pk rfl (H.at pk) [⟨qc,qf,qn,id2⟩] rfl (by simp [flatG,encPi]) encPi_len encPi_one (by have h1:=HX1.out.1;have h2:=HLI.out.2.2.2.2.2.2;simp;omega) ?_;clear H;intro ad9 cp9 _ H;simp only [Act.put,puA,puB,puC]));go_roundg (n-(i+1));case measure=>omega
   case rel =>
    have h1:=HX1.out;have h2:=HLI.out;refine ⟨i+1,X2,ps++[⟨qc,qf,qn,id2⟩],rfl,by omega,rfl,⟨by simp [h1.1],?_,h1.2.2.1.trans HY.out.1,HY.out.2.1,?_⟩,H.picks (.cons pk (.cons pk .nil))⟩
    ·rw [h2.2.2.2.2.2.1];exact (h1.2.1.le h1.2.2.2.1.ok HY.out.1.le).append ⟨⟨rfl,rfl,rfl,HY.out.2.2.1⟩,trivial⟩
    ·have h3:=h1.2.2.2.2;have h4:=HY.out.2.2.2;rw [h2.2.2.2.2.1];omega
  ·have d5:decide ((i:Int)<(n:Int))=false:=(by simp;omega);have d5n:decide (i<n)=false:=(by simp;omega);have hin:i=n:=(by omega);subst hin;have HE:Hid (qs.take i=qs):=zh (List.take_of_length_le (by rw [HIN.out.2.1];exact Nat.le_refl _));clear hrel hlt;go_wp2_with (first|refine sL ?_|(refine sS ?_;clear H;intros;rename_i H));go_ret2;exact ⟨X1,_,ps,rfl,HX1.out.2.2.1,HX1.out.2.2.2.1,by have:=HX1.out.2.1;rwa [HE.out] at this,by have:=HX1.out.2.2.2.2;rwa [HE.out] at this,H.picks (.cons pk (.cons pk .nil))⟩
end
end Go.Proofs.YtgnppnokkdghcaaGreatDoor
