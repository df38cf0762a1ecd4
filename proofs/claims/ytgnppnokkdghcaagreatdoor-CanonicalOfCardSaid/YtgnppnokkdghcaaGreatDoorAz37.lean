/-
  Part 37 of the texts behind CanonicalOf: walks and laws. Conditions: as each states.
-/
import Derived.Test.YtgnppnokkdghcaaGreatDoorAz35
import Derived.Test.YtgnppnokkdghcaaGreatDoorAz36
import Derived.LaidEqlPtr
import Derived.Laws.Concat
import Derived.Laws.IdiomStrings
import Derived.Lib.BufferRead
set_option linter.unusedSimpArgs false
set_option linter.unusedVariables false
set_option maxRecDepth 100000
set_option maxHeartbeats 80000000
open Bool renaming eq_false_or_eq_true→zW,false_eq_true→xA
open Go.Proofs.Tryz renaming func71→Qd,ntmps71→Zu,prog→zb
open Int renaming natCast_mul→Yl
open List renaming append_nil→qO,cons→Zq,cons_append→zo,drop_succ_cons→wQ,drop_zero→yw,flatMap_cons→zt,flatMap_nil→wW,flatten_append→Xy,getElem?_append_left→qv,getElem?_append_right→yd,length_append→zi,length_cons→zw,length_map→qd,length_nil→zC,map_cons→zX,map_nil→ye,map_replicate→Qa,mem_append→zl,mem_cons→zL,mem_cons_of_mem→qT,mem_cons_self→zN,mem_flatten→vc,mem_map→qY,mem_of_getElem?→zy,mem_replicate→wq,nil_append→zv,pairwise_cons→qu,replicate→zd,replicate_succ→zS,replicate_succ'→xG,reverse_cons→ke,sum_replicate_nat→Xz,take_length→jx,take_zero→jA
open Nat renaming add_sub_cancel→xC,eq_zero_or_pos→qk,le_mul_of_pos_left→wY,le_mul_of_pos_right→jg,le_refl→zr,le_trans→qs,log2→ju,log2_eq_iff→J8,lt_or_ge→yI,mod_eq_of_lt→xI,mul_assoc→Zo,mul_comm→xO,mul_le_mul→ZB,mul_le_mul_right→y9,sub_self→QL,succ_mul→XX,zero_add→qQ,zero_le→qy
namespace Go.Proofs.YtgnppnokkdghcaaGreatDoor
section
open Go.RowKit Go.Maps
attribute [local go_sem] qt
abbrev kP (X:Px) (s:List Tr) (k:Nat) (M:List Nat) (w:World) (e:Ending) (w':World):Prop :=
 ∃ (X':Px) (id:Nat),e=.returned (.tuple #[.int .i64 id,.nilIface])∧X.Ext X'∧zK X'∧IdIs X'.S id s∧X'.S.list.length<=X.S.list.length+k∧St w M [pA X'] w'
theorem join_c {X:Px} {a b:Nat} {sa sb:List Tr} (hX:zK X) (ha:IdIs X.S a sa) (hb:IdIs X.S b sb) (hl:sa.length+sb.length<=1048576) (hroom:X.S.list.length+(sa.length+sb.length)<=X.S.most) (w:World) (h:PH X w) :
  Calls zb 94 #[.pointer (some ⟨X.p,0,none⟩),.int .i64 a,.int .i64 b] w (kP X (sa++sb) (sa.length+sb.length) (pA X).fp w):=by
 have h:((pA X).sep deA).ho w:=h;rw [qz] at h;obtain ⟨k1,k2,hdd⟩:=h;have H:=St.one k1;have HK:Ks w (pA X).fp [deA]:=⟨by simpa using k2,by simpa using fun b hb hm=>hdd b hm hb⟩
 generalize (pA X).fp=N at *;clear k1 k2 hdd;have HSZ:Hid (∀ w,(pA X).ho w->Calls zb 92 #[.pointer (some ⟨X.p,0,none⟩),.int .i64 a] w fun e w'=>e=.returned (.int .i64 (sa.length:Nat))∧St w [] [] w'):=zh fun w h=>kY hX ha w h
 have HSP:Hid (∀ w,((pA X).sep deA).ho w->Calls zb 123 #[.pointer (some ⟨X.p,0,none⟩),.int .i64 a,.int .i64 (sa.length:Nat),.int .i64 b,.int .i64 0] w (kP X (sa++sb) (sa.length+sb.length) (pA X).fp w)):=zh fun w h=>by
  have:=splice_c (X:=X) (a:=a) (i:=sa.length) (sa:=sa) (b:=b) (j:=0) (sb:=sb) hX ha hb (zr _) (qy _) (by simp;omega) (by simp;omega) w h;simp only [jx,yw,zi] at this;exact this
 clear hX ha hb hl hroom;go_enter Tryz.func94,Tryz.ntmps94;go_wp2_with (first|refine sL ?_|(refine sS ?_;clear H;intros;rename_i H)|(go_at_call 92;with_reducible refine zm (HSZ.out _ (H.get pk)) ?_;rintro e9 wc ⟨rfl,hb⟩;replace H:=H.grew hb.below;clear hb)|(go_at_call 123;with_reducible refine zm (HSP.out _ (H.sepK HK pk pk)) ?_;rintro e9 wc ⟨X2,id2,rfl,y1,y2,y3,y4,hb⟩;have HY:=zh (za y1 (za y2 (za y3 y4)));clear y1 y2 y3 y4;replace H:=zn ((H.pick pk).call hb);clear hb));go_ret2;exact ⟨X2,id2,rfl,HY.out.1,HY.out.2.1,HY.out.2.2.1,HY.out.2.2.2,H.picks (.cons pk .nil)⟩
end
section
open Go.RowKit Go.Maps
attribute [local go_sem] qt
def len8:ByteArray:=⟨#[0,1,2,2,3,3,3,3,4,4,4,4,4,4,4,4,5,5,5,5,5,5,5,5,5,5,5,5,5,5,5,5,6,6,6,6,6,6,6,6,6,6,6,6,6,6,6,6,6,6,6,6,6,6,6,6,6,6,6,6,6,6,6,6,7,7,7,7,7,7,7,7,7,7,7,7,7,7,7,7,7,7,7,7,7,7,7,7,7,7,7,7,7,7,7,7,7,7,7,7,7,7,7,7,7,7,7,7,7,7,7,7,7,7,7,7,7,7,7,7,7,7,7,7,7,7,7,7,8,8,8,8,8,8,8,8,8,8,8,8,8,8,8,8,8,8,8,8,8,8,8,8,8,8,8,8,8,8,8,8,8,8,8,8,8,8,8,8,8,8,8,8,8,8,8,8,8,8,8,8,8,8,8,8,8,8,8,8,8,8,8,8,8,8,8,8,8,8,8,8,8,8,8,8,8,8,8,8,8,8,8,8,8,8,8,8,8,8,8,8,8,8,8,8,8,8,8,8,8,8,8,8,8,8,8,8,8,8,8,8,8,8,8,8,8,8,8,8,8,8,8,8,8,8,8,8]⟩
theorem ZZ:len8.size=256:=by decide +kernel
theorem len8_all:∀ j:Fin 256,(len8[j.1]'(by rw [ZZ];exact j.2)).toNat=(if j.1=0 then 0 else ju j.1+1):=by decide +kernel
theorem len8_eq {k:Nat} (h:k<len8.size) (h1:1<=k):(len8[k]'h).toNat=ju k+1:=by
 have:=len8_all ⟨k,by rw [ZZ] at h;exact h⟩;simp only [show ¬ k=0 by omega,if_false] at this;exact this
theorem wrap_two {n m:Nat} (e:n=m) (h:m<100):(.int .i64 (RowKit.wrap64 (RowKit.wrap64 (n:Nat))):Value)=.int .i64 (m:Nat):=by
 subst e;congr 1
 simp only [RowKit.wrap64];omega
theorem wrap_eight {n m:Nat} (e:n+8=m) (h:m<100):(.int .i64 (RowKit.wrap64 (8+RowKit.wrap64 (n:Nat))):Value)=.int .i64 (m:Nat):=by
 subst e;congr 1
 simp only [RowKit.wrap64];omega
theorem log2_lt {k b:Nat} (h1:1<=k) (h:k<2 ^ b):ju k<b:=(Nat.log2_lt (by omega)).2 h
theorem log2_high {k:Nat} (h:256<=k):ju k=ju (k/256)+8:=by
 have h0:k/256≠0:=(by omega);obtain ⟨h1,h2⟩:=(J8 h0).1 rfl;refine (J8 (by omega)).2 ⟨?_,?_⟩
 ·rw [Nat.pow_add];omega
 ·rw [show ju (k/256)+8+1=(ju (k/256)+1)+8 by omega,Nat.pow_add];omega
theorem len64_c (k:Nat) (h1:1<=k) (hk:k<65536) (w:World):Calls zb 175 #[.int .u64 k] w fun e w'=>e=.returned (.int .i64 (ju k+1:Nat))∧w'=w:=by
 have d1:decide ((4294967296:Int)<=(k:Int))=false:=(by simp;omega);have d1n:decide (4294967296<=k)=false:=(by simp;omega);have d2:decide ((65536:Int)<=(k:Int))=false:=(by simp;omega);have d2n:decide (65536<=k)=false:=(by simp;omega);by_cases h8:256<=k
 ·have d3:decide ((256:Int)<=(k:Int))=true:=(by simp;omega);have d3n:decide (256<=k)=true:=(by simp;omega);go_enter Tryz.func175,Tryz.ntmps175;go_wp2_with (first|refine sL ?_|(refine sS ?_;clear H;intros;rename_i H));go_ret;have hk2:k/256<len8.size:=(by rw [ZZ];omega);have hlg:=log2_lt (k:=k) (b:=16) h1 (by omega);have he:=len8_eq hk2 (by omega);have hhi:=log2_high h8;exact ⟨congrArg Ending.returned (wrap_eight (n:=(len8[k/256]'hk2).toNat) (by omega) (by omega)),rfl⟩
 ·have d3:decide ((256:Int)<=(k:Int))=false:=(by simp;omega);have d3n:decide (256<=k)=false:=(by simp;omega);go_enter Tryz.func175,Tryz.ntmps175;go_wp2_with (first|refine sL ?_|(refine sS ?_;clear H;intros;rename_i H));go_ret;have hk2:k<len8.size:=(by rw [ZZ];omega);have hlg:=log2_lt (k:=k) (b:=16) h1 (by omega);exact ⟨congrArg Ending.returned (wrap_two (n:=(len8[k]'hk2).toNat) (len8_eq hk2 h1) (by omega)),rfl⟩
theorem log_c (k:Nat) (h1:1<=k) (hk:k<65536) (w:World):Calls zb 153 #[.int .i64 k] w fun e w'=>e=.returned (.int .i64 (ju k:Nat))∧w'=w:=by
 have d1:decide ((k:Int)<1)=false:=(by simp;omega);have d1n:decide (k<1)=false:=(by simp;omega);have hlg:=log2_lt (k:=k) (b:=16) h1 (by omega);obtain ⟨L,hL⟩:∃ L,ju k+1=L:=⟨_,rfl⟩
 have HL:=zh hL;have HC:Hid (∀ w,Calls zb 175 #[.int .u64 k] w fun e w'=>e=.returned (.int .i64 (L:Nat))∧w'=w):=zh fun w=>by rw [← hL];exact len64_c k h1 hk w
 have hL2:L<=17∧1<=L:=(by omega);clear hL;go_enter Tryz.func153,Tryz.ntmps153;go_wp2_with (first|refine sL ?_|(refine sS ?_;clear H;intros;rename_i H)|(go_at_call 175;with_reducible refine same (HC.out _) ?_));go_ret;have h2:=HL.out;refine ⟨congrArg (fun z:Int=>Ending.returned (.int .i64 z)) (?_:(L:Int)-1=((ju k:Nat):Int)),rfl⟩;omega
theorem and_one_w (a:Nat) (ha:a<9223372036854775808):bits .and .i64 (a:Int) 1=((a%2:Nat):Int):=by
 have h1:(BitVec.ofInt 64 (a:Int)).toNat=a:=by
  rw [BitVec.ofInt_natCast,BitVec.toNat_ofNat];exact xI (by omega)
 have h2:(BitVec.ofInt 64 (1:Int)).toNat=1:=rfl;show IntKind.i64.wrap ((BitVec.ofInt 64 (a:Int) &&& BitVec.ofInt 64 (1:Int)).toNat:Int)=_
 rw [BitVec.toNat_and,h1,h2,Nat.and_one_is_mod,IntKind.wrap_i64];omega
def jJ (k:Nat) (s:List Tr):List Tr:=(zd k s).flatten
theorem VO (s:List Tr):jJ 1 s=s:=by simp [jJ]
theorem vW (k:Nat) (s:List Tr):(jJ k s).length=k*s.length:=by simp [jJ,List.length_flatten,Qa,Xz]
theorem WK (j k:Nat) (s:List Tr):jJ j s++jJ k s=jJ (j+k) s:=by
 simp only [jJ,← Xy,List.replicate_append_replicate]
theorem JQ (k:Nat) (s:List Tr):jJ k s++s=jJ (k+1) s:=by rw [← WK,VO]
def DbRel (X:Px) (N:List Nat) (w:World) (s:List Tr) (k B:Nat) (mm:Nat) (v8 v9:Value) (wr:World):Prop :=
 ∃ (X1:Px) (id c:Nat),v8=.int .i64 (id:Nat)∧v9=.int .i64 ((mm:Int)-1)∧(mm<=B∧c=k/2 ^ mm∧X.Ext X1∧zK X1∧IdIs X1.S id (jJ c s)∧X1.S.list.length+4*s.length<=X.S.list.length+4*(c*s.length))∧St w N [pA X1] wr
theorem double_c {X:Px} {a k:Nat} {s:List Tr} (hX:zK X) (ha:IdIs X.S a s) (h1:1<=k) (hk:k<65536) (hl:k*s.length<=262144) (hroom:X.S.list.length+4*(k*s.length)<=X.S.most) (w:World) (h:PH X w) :
  Calls zb 131 #[.pointer (some ⟨X.p,0,none⟩),.int .i64 a,.int .i64 (k:Nat)] w (kP X (jJ k s) (4*(k*s.length)) (pA X).fp w):=by
 have h:((pA X).sep deA).ho w:=h;rw [qz] at h;obtain ⟨k1,k2,hdd⟩:=h;have H:=St.one k1;have HK:Ks w (pA X).fp [deA]:=⟨by simpa using k2,by simpa using fun b hb hm=>hdd b hm hb⟩
 generalize (pA X).fp=N at *;clear k1 k2 hdd;obtain ⟨B,hB⟩:∃ B,ju k=B:=⟨_,rfl⟩
 have hB1:=(J8 (show k≠0 by omega)).1 hB;have hB2:B<16:=(by rw [← hB];exact log2_lt h1 (by omega));have HLG:Hid (∀ w,Calls zb 153 #[.int .i64 k] w fun e w'=>e=.returned (.int .i64 (B:Nat))∧w'=w):=zh fun w=>by rw [← hB];exact log_c k h1 hk w
 have HIN:Hid (zK X∧IdIs X.S a s∧1<=k∧k<65536∧k*s.length<=262144∧X.S.list.length+4*(k*s.length)<=X.S.most∧2 ^ B<=k∧k<2 ^ (B+1)):=zh ⟨hX,ha,h1,hk,hl,hroom,hB1.1,hB1.2⟩;clear hX ha h1 hl hroom hB hB1;go_enter Tryz.func131,Tryz.ntmps131;go_wp2_with (first|refine sL ?_|(refine sS ?_;clear H;intros;rename_i H)|(go_at_call 153;with_reducible refine same (HLG.out _) ?_));go_loopg [8,9] B (fun mm v8 v9 wr=>DbRel X N w s k B mm v8 v9 wr);case atStart =>
  refine ⟨X,a,1,rfl,rfl,⟨zr _,?_,.refl _,HIN.out.1,by rw [VO];exact HIN.out.2.1,by omega⟩,H.picks (.cons pk .nil)⟩;have h3:=HIN.out.2.2.2.2.2.2;rw [Nat.pow_succ] at h3;exact (Nat.div_eq_of_lt_le (by omega) (by omega)).symm
 case round =>
  clear H;obtain ⟨X1,id,c,rfl,rfl,hrel,H⟩:=hrel;have HRL:=zh hrel;rcases qk gk with hm0|hm0
  ·subst hm0;have hid:=hrel.2.2.2.2.1;rw [hrel.2.1,Nat.pow_zero,Nat.div_one] at hid;have hln:=hrel.2.2.2.2.2;rw [hrel.2.1,Nat.pow_zero,Nat.div_one] at hln;have HF:=zh (za hid hln);clear hrel hid hln;rw [show ((0:Nat):Int)-1 = -1 by rfl];go_wp2_with (first|refine sL ?_|(refine sS ?_;clear H;intros;rename_i H));go_ret2;exact ⟨X1,id,rfl,HRL.out.2.2.1,HRL.out.2.2.2.1,HF.out.1,by have:=HF.out.2;omega,H.picks (.cons pk .nil)⟩
  ·obtain ⟨b,rfl⟩:∃ b,gk=b+1:=⟨gk-1,by omega⟩
   rw [show ((b+1:Nat):Int)-1=(b:Nat) by omega];have hb16:b<16:=(by have:=hrel.1;omega);obtain ⟨q,hq⟩:∃ q,k/2 ^ b=q:=⟨_,rfl⟩
   have hc:c=q/2:=(by rw [hrel.2.1,Nat.pow_succ,← Nat.div_div_eq_div_mul,hq]);have hqk:q<=k:=(by rw [← hq];exact Nat.div_le_self _ _);have hqs:q*s.length<=k*s.length:=y9 _ hqk;have hcs:(2*c)*s.length<=q*s.length:=y9 _ (by omega);have HJ1:Hid (∀ w,((pA X1).sep deA).ho w->Calls zb 94 #[.pointer (some ⟨X.p,0,none⟩),.int .i64 id,.int .i64 id] w (kP X1 (jJ (2*c) s) (2*(c*s.length)) (pA X1).fp w)):=zh fun w h=>by
    have h5:=HIN.out;have h6:=HRL.out.2.2.2.2.2;have h7:=HRL.out.2.2.1.le.1;have h8:2*(c*s.length)=(2*c)*s.length:=(by rw [Zo]);have:=join_c HRL.out.2.2.2.1 HRL.out.2.2.2.2.1 HRL.out.2.2.2.2.1 (by rw [vW];omega) (by rw [vW];omega) w h;rw [HRL.out.2.2.1.p,WK,vW] at this;rw [show 2*c=c+c by omega,show 2*(c*s.length)=c*s.length+c*s.length by omega];exact this
   have hqi:(k:Int)/2 ^ b=(q:Nat):=(by rw [← hq];simp);have hand:=and_one_w q (by omega);have HJ2:Hid (∀ (X2:Px) (id2:Nat),X1.Ext X2->zK X2->IdIs X2.S id2 (jJ (2*c) s)->X2.S.list.length<=X1.S.list.length+2*(c*s.length)->q%2=1->∀ w,((pA X2).sep deA).ho w->Calls zb 94 #[.pointer (some ⟨X.p,0,none⟩),.int .i64 id2,.int .i64 a] w (kP X2 (jJ q s) ((2*c)*s.length+s.length) (pA X2).fp w)):=zh fun X2 id2 q1 q2 q3 q4 q5 w h=>by
    have h5:=HIN.out;have h6:=HRL.out.2.2.2.2.2;have h7:=(HRL.out.2.2.1.trans q1).le.1;have h8:2*(c*s.length)=(2*c)*s.length:=(by rw [Zo]);have h9:(2*c)*s.length+s.length=q*s.length:=(by rw [← XX];congr 1;omega);have:=join_c q2 q3 (HIN.out.2.1.le HIN.out.1.ok (HRL.out.2.2.1.trans q1).le) (by rw [vW];omega) (by rw [vW];omega) w h;rw [(HRL.out.2.2.1.trans q1).p,JQ,vW,show 2*c+1=q by omega] at this;exact this
   have HQ:=zh (za hq (za hc (za hqs (za hcs hqk))));clear hrel hc hqs hcs hqk;rcases Nat.mod_two_eq_zero_or_one q with hr|hr
   ·rw [hr] at hand;have hand0:bits .and .i64 (q:Int) 1=0:=hand;have HR:=zh hr;clear hand hr HJ2 hq;go_wp2_with (first|refine sL ?_|(refine sS ?_;clear H;intros;rename_i H)|(go_at_call 94;with_reducible refine zm (HJ1.out _ (H.sepK HK pk pk)) ?_;rintro e9 wc ⟨X2,id2,rfl,y1,y2,y3,y4,hb⟩;have HY:=zh (za y1 (za y2 (za y3 y4)));clear y1 y2 y3 y4;replace H:=zn ((H.pick pk).call hb);clear hb));go_roundg b;case measure=>omega
    case rel =>
     have h5:=HRL.out;have h6:=HQ.out;have h7:=HY.out;have h8:=HR.out;have h9:2*c=q:=(by omega);have hA:(2*c)*s.length=q*s.length:=(by rw [h9]);have hB:2*(c*s.length)=(2*c)*s.length:=(by rw [Zo]);exact ⟨X2,id2,q,rfl,rfl,⟨by omega,h6.1.symm,h5.2.2.1.trans h7.1,h7.2.1,by rw [← h9];exact h7.2.2.1,by omega⟩,H.picks (.cons pk .nil)⟩
   ·rw [hr] at hand;have hand0:bits .and .i64 (q:Int) 1=1:=hand;have HR:=zh hr;clear hand hr hq;go_wp2_with (first|refine sL ?_|(refine sS ?_;clear H;intros;rename_i H)|first|(go_at_call 94;with_reducible refine zm (HJ1.out _ (H.sepK HK pk pk)) ?_;rintro e9 wc ⟨X2,id2,rfl,y1,y2,y3,y4,hb⟩;have HY:=zh (za y1 (za y2 (za y3 y4)));clear y1 y2 y3 y4;replace H:=zn ((H.pick pk).call hb);clear hb)|(go_at_call 94;with_reducible refine zm (HJ2.out X2 id2 HY.out.1 HY.out.2.1 HY.out.2.2.1 HY.out.2.2.2 HR.out _ (H.sepK HK pk pk)) ?_;rintro e9 wc ⟨X3,id3,rfl,y1,y2,y3,y4,hb⟩;have HZ:=zh (za y1 (za y2 (za y3 y4)));clear y1 y2 y3 y4;replace H:=zn ((H.pick pk).call hb);clear hb));go_roundg b;case measure=>omega
    case rel =>
     have h5:=HRL.out;have h6:=HQ.out;have h7:=HY.out;have h8:=HR.out;have h10:=HZ.out;have hA:(2*c)*s.length+s.length=q*s.length:=(by rw [← XX];congr 1;omega);have hB:2*(c*s.length)=(2*c)*s.length:=(by rw [Zo]);exact ⟨X3,id3,q,rfl,rfl,⟨by omega,h6.1.symm,h5.2.2.1.trans (h7.1.trans h10.1),h10.2.1,h10.2.2.1,by omega⟩,H.picks (.cons pk .nil)⟩
end
section
open Go.RowKit Go.Maps
attribute [local go_sem] qt
attribute [local go_sem] StStep jw yM in
theorem repeat_c {X:Px} {a k:Nat} {s:List Tr} (hX:zK X) (ha:IdIs X.S a s) (hne:s≠[]) (h2:2<=k) (hk:k<65536) (hl:k*s.length<=262144) (hroom:X.S.list.length+4*(k*s.length)<=X.S.most) (w:World) (h:PH X w) :
  Calls zb 104 #[.pointer (some ⟨X.p,0,none⟩),.int .i64 a,.int .i64 (k:Nat)] w (kP X (jJ k s) (4*(k*s.length)) (pA X).fp w):=by
 have h:((pA X).sep deA).ho w:=h;rw [qz] at h;obtain ⟨k1,k2,hdd⟩:=h;have H:=St.one k1;have HK:Ks w (pA X).fp [deA]:=⟨by simpa using k2,by simpa using fun b hb hm=>hdd b hm hb⟩
 generalize (pA X).fp=N at *;clear k1 k2 hdd;obtain ⟨T,hd,hc,hT⟩:∃ T,Den X.S a T∧Canon T∧T.lay 0=s:=by
  rcases ha with ⟨h,_⟩|h
  ·exact absurd h hne
  ·exact h
 obtain ⟨n,hn⟩:∃ n,s.length=n:=⟨_,rfl⟩
 have hn1:1<=n:=(by rw [← hn,← hT];exact kG hc);have hkn:k<=k*n:=jg _ hn1;have hnk:n*2<=n*k:=Nat.mul_le_mul_left _ h2;have hcomm:n*k=k*n:=xO _ _;rw [hn] at hl hroom ⊢;have hTl:T.len=n:=(by rw [← xP hc.gd,hT];exact hn);obtain ⟨i,en,hi,hx,hte⟩:=xZ hd;obtain ⟨kd,lt,lf,rg,tm,hen,hcase⟩:∃ kd lt lf rg tm:Nat,en.r=⟨kd,lt,lf,rg,tm⟩∧((kd=3∧∃ t,T=.pow t tm∧Den X.S lf t)∨kd≠3):=by
  cases xh hX.ok hx with
  |letter b hb hr hw ht'=>exact ⟨_,_,_,_,_,hr,.inr (by omega)⟩
  |pair l r y z _ _ _ _ he _ _ ht'=>exact ⟨_,_,_,_,_,he,.inr (by omega)⟩
  |pow l j y hl' hy hj he hw hs ht'=>exact ⟨_,_,_,_,_,he,.inl ⟨rfl,_,by rw [← hte,ht'],Kh hy⟩⟩
 obtain ⟨L,hL⟩:∃ n,X.S.list.length=n:=⟨_,rfl⟩
 obtain ⟨tp,htp,htop⟩:=Ye hX ha;have HT:=zh htop;have HXX:=zh hX;have HST:Hid (∀ X2:Px,X.Ext X2->∀ w,(pA X2).ho w->Calls zb 53 #[.pointer (some ⟨X.p,0,none⟩)] w fun e w'=>e=.returned (.pointer (some ⟨X.s,0,none⟩))∧w'=w):=zh fun X2 q w h=>by have:=jH w h;rwa [q.p,q.s] at this
 have HLE:Hid (∀ w,(pA X).ho w->Calls zb 38 #[.pointer (some ⟨X.s,0,none⟩)] w fun e w'=>e=.returned (.int .i64 (L:Nat))∧w'=w):=zh fun w h=>by have:=Wp w (jh h);rwa [hL] at this
 have HSZ:Hid (∀ X2:Px,X.Ext X2->zK X2->X2.S=X.S->∀ w,(pA X2).ho w->Calls zb 92 #[.pointer (some ⟨X.p,0,none⟩),.int .i64 a] w fun e w'=>e=.returned (.int .i64 (n:Nat))∧St w [] [] w'):=zh fun X2 q1 q2 q3 w h=>by have:=kY q2 (by rw [q3];exact ha) w h;rwa [q1.p,hn] at this
 have HMU:Hid (∀ w,Calls zb 101 #[.int .i64 (n:Nat),.int .i64 (k:Nat)] w fun e w'=>e=.returned (.tuple #[.int .i64 (n*k:Nat),.nilIface])∧w'=w):=zh fun w=>Y1 n k w (by first|omega|(simp only [yG];omega)) (by first|omega|(simp only [yG];omega)) (by first|omega|(simp only [yG];omega))
 have HRU:Hid (∀ X2:Px,X.Ext X2->X2.S=X.S->∀ w,(pA X2).ho w->Calls zb 68 #[.pointer (some ⟨X.s,0,none⟩),.int .i64 a] w fun e w'=>e=.returned (.tuple #[.agg #[.int .i64 kd,.int .u8 lt,.int .i64 lf,.int .i64 rg,.int .i64 tm],.nilIface])∧St w [] [] w'):=zh fun X2 q1 q3 w h=>by
  have:=YK (S:=X2.S) (i:=i) (x:=en) (by rw [q3];exact hx) (a:Int) (by omega) w (jh h);rw [hen,q1.s] at this;exact this
 have HAP:Hid (∀ X2:Px,X.Ext X2->zK X2->X2.S=X.S->∀ w,((pA X2).sep deA).ho w->Calls zb 130 #[.pointer (some ⟨X.p,0,none⟩),.int .i64 a] w fun e w'=>∃ (b:Bool) (X':Px),e=.returned (.bool b)∧(b=true->∀ k,2<=k->Canon (.pow T k)∧(Tr.pow T k).lay 0=(zd k (T.lay 0)).flatten)∧X2.Ext X'∧zK X'∧X'.S=X2.S∧St w (pA X2).fp [pA X'] w'):=zh fun X2 q1 q2 q3 w h=>by
  have:=apart_c q2 (by rw [q3];exact hd:Den X2.S a T) hc (by rw [hT,hn];omega) w h;rwa [q1.p] at this
 have HPW:Hid (∀ X2:Px,X.Ext X2->zK X2->X2.S=X.S->Canon (.pow T k)∧(Tr.pow T k).lay 0=(zd k (T.lay 0)).flatten->∀ w,(pA X2).ho w->Calls zb 70 #[.pointer (some ⟨X.s,0,none⟩),.int .i64 a,.int .i64 (k:Nat)] w fun e w'=>∃ (X':Px) (id:Nat),e=.returned (.tuple #[.int .i64 id,.nilIface])∧X2.Ext X'∧zK X'∧IdIs X'.S id (jJ k s)∧X'.S.list.length<=X2.S.list.length+1∧St w (pA X2).fp [pA X'] w'):=zh fun X2 q1 q2 q3 qc w h=>by
  have:=XM (k:=k) (by rw [q3];exact hd:Den X2.S a T) h2 (by omega) (by rw [hTl];simp only [yG];omega) q2 w h;rw [q1.s] at this;refine this.mono ?_;rintro e w' ⟨X',id,c,rfl,m1,m2,m3,m4,m5⟩;rcases m4 with ⟨rfl,m4⟩|⟨_,_,_,m4⟩
  ·exact ⟨X',id,rfl,m1,m2,.inr ⟨_,m4,qc.1,by rw [qc.2,hT];rfl⟩,m3,m5⟩
  ·have:=q1.le.1;rw [q3] at m4;omega
 have HDB:Hid (∀ X2:Px,X.Ext X2->zK X2->X2.S=X.S->∀ w,((pA X2).sep deA).ho w->Calls zb 131 #[.pointer (some ⟨X.p,0,none⟩),.int .i64 a,.int .i64 (k:Nat)] w (kP X2 (jJ k s) (4*(k*n)) (pA X2).fp w)):=zh fun X2 q1 q2 q3 w h=>by
  have h7:=q1.le.1;have:=double_c (X:=X2) (a:=a) (k:=k) (s:=s) q2 (by rw [q3];exact ha) (by omega) hk (by rw [hn];exact hl) (by rw [hn,q3];exact hroom) w h;rwa [q1.p,hn] at this
 have d1:decide ((a:Int)<0)=false:=(by simp);have d2:decide ((L:Int)<(a:Int))=false:=(by have:=hd.2.1;simp;omega);have d2n:decide (L<a)=false:=(by have:=hd.2.1;simp;omega);have d3:decide ((k:Int)<0)=false:=(by simp);have d4:((a:Int)==0)=false:=(by have:=hd.1;simp;omega);have d5:((k:Int)==0)=false:=(by simp;omega);have d6:((k:Int)==1)=false:=(by simp;omega);have d7:decide ((32768:Int)<(tp:Int))=false:=(by simp;omega);have d7n:decide (32768<tp)=false:=(by simp;omega);have HTN:Hid (Den X.S a T∧Canon T∧T.lay 0=s∧T.len=n∧1<=n∧2<=k∧k*n<=262144∧X.S.list.length+4*(k*n)<=X.S.most∧k<=k*n):=zh ⟨hd,hc,hT,hTl,hn1,h2,hl,hroom,hkn⟩;rcases hcase with ⟨rfl,t,hTt,hlf⟩|hkd
 ·have hnt:t.len*tm=n:=(by rw [← hTl,hTt];rfl);have htm2:2<=tm:=(by have:=hc.gd.2;rw [hTt] at this;exact this.2);have hctk:Canon (.pow t (tm*k)):=by
   rw [hTt] at hc;exact Ja hc (qs htm2 (jg _ (by omega)))
  have hpos:1<=t.len:=by
   rcases qk t.len with h0|h0
   ·rw [h0] at hnt;omega
   ·exact h0
  have htmn:tm<=n:=(by rw [← hnt];exact wY _ hpos);have htk:tm*k<=n*k:=y9 _ htmn;have htmk:tm<=tm*k:=jg _ (by omega);have hlay:(Tr.pow t (tm*k)).lay 0=jJ k s:=by
   rw [VL hctk.gd];have hp:=VL (s:=t) (k:=tm) (by rw [← hTt];exact hc.gd);rw [← hT,hTt,hp];clear htk hctk;show jJ (tm*k) (t.lay 0)=jJ k (jJ tm (t.lay 0))
   clear HT HST HLE HSZ HMU HRU HAP HPW HDB HTN hroom hl hkn hnk hcomm hk h2 d3 d5 d6 htmk;induction k with
   |zero=>simp [jJ]
   |succ k ih=>rw [← JQ,← ih,WK,Nat.mul_succ]
  obtain ⟨tk,htkk⟩:∃ x,tm*k=x:=⟨_,rfl⟩
  have HPM:Hid (∀ X2:Px,X.Ext X2->zK X2->X2.S=X.S->∀ w,(pA X2).ho w->Calls zb 70 #[.pointer (some ⟨X.s,0,none⟩),.int .i64 lf,.int .i64 (tk:Nat)] w fun e w'=>∃ (X':Px) (id:Nat),e=.returned (.tuple #[.int .i64 id,.nilIface])∧X2.Ext X'∧zK X'∧IdIs X'.S id (jJ k s)∧X'.S.list.length<=X2.S.list.length+1∧St w (pA X2).fp [pA X'] w'):=zh fun X2 q1 q2 q3 w h=>by
   have hlen:t.len*tk<=yG:=(by rw [← htkk,← Zo,hnt];simp only [yG];omega);have:=XM (k:=tk) (by rw [q3];exact hlf:Den X2.S lf t) (by omega) (by omega) hlen q2 w h;rw [q1.s] at this;refine this.mono ?_;rintro e w' ⟨X',id,c,rfl,m1,m2,m3,m4,m5⟩;rcases m4 with ⟨rfl,m4⟩|⟨_,_,_,m4⟩
   ·exact ⟨X',id,rfl,m1,m2,.inr ⟨_,m4,by rw [← htkk];exact hctk,by rw [← htkk];exact hlay⟩,m3,m5⟩
   ·have:=q1.le.1;rw [q3] at m4;omega
  have HTK2:Hid (IntKind.i64.wrap ((tm:Int)*(k:Int))=(tk:Nat)):=zh (by
   rw [← Yl,htkk,IntKind.wrap_i64];omega)
  have HTK3:Hid (tk<=262144):=zh (by omega);clear hX ha hd hc hT hTl hx hte hen hL hroom hl hkn hnk hcomm hn hTt hlf hnt htm2 hctk hpos htmn htk htmk hlay htkk hi htop;go_enter Tryz.func104,Tryz.ntmps104;go_wp2_with (first|refine sL ?_|(refine sS ?_;clear H;intros;rename_i H)|(go_at_call 53;first|(with_reducible refine same (HST.out X (.refl _) _ (H.get pk)) ?_)|(with_reducible refine same (HST.out X2 HY.out.1 _ (H.get pk)) ?_)|(with_reducible refine same (HST.out X3 (HY.out.1.trans HZ.out.1) _ (H.get pk)) ?_))|(go_at_call 38;with_reducible refine same (HLE.out _ (H.get pk)) ?_)|(go_at_call 91;with_reducible refine zm (HT.out X _ (.refl _) HXX.out rfl (H.sepK HK pk pk)) ?_;rintro e9 wc ⟨X2,y1,y2,y3,rfl,hb⟩;have HY:=zh (za y1 (za y2 y3));clear y1 y2 y3;replace H:=zn ((H.pick pk).call hb);clear hb)|(go_at_call 92;with_reducible refine zm (HSZ.out X2 HY.out.1 HY.out.2.1 HY.out.2.2 _ (H.get pk)) ?_;rintro e9 wc ⟨rfl,hb⟩;replace H:=H.grew hb.below;clear hb)|(go_at_call 101;with_reducible refine same (HMU.out _) ?_)|(go_at_call 68;with_reducible refine zm (HRU.out X2 HY.out.1 HY.out.2.2 _ (H.get pk)) ?_;rintro e9 wc ⟨rfl,hb⟩;replace H:=H.grew hb.below;clear hb));have HSTx:=zh (HST.out X2 HY.out.1);rename_i br w1 wr K9 a9;replace H:St w N [pA X2,blk br (.cells #[.int .i64 3,.int .u8 lt,.int .i64 lf,.int .i64 rg,.int .i64 tm] 131)] wr:=H.picks (.cons (A:=pA X2) pk (.cons (A:=blk br (.cells #[.int .i64 3,.int .u8 lt,.int .i64 lf,.int .i64 rg,.int .i64 tm] 131)) pk .nil));refine zM 13 [⟨[],fun v _=>v=.pointer (some ⟨X.p,0,none⟩)⟩,⟨[0],fun v _=>v=.pointer (some ⟨X.s,0,none⟩)⟩,⟨[],fun v _=>v=.pointer (some ⟨br,2,none⟩)⟩,⟨[2],fun v _=>v=.int .i64 lf⟩,⟨[],fun v _=>v=.pointer (some ⟨br,4,none⟩)⟩,⟨[4],fun v _=>v=.int .i64 tm⟩,⟨[],fun v _=>v=.int .i64 k⟩,⟨[5,6],fun v _=>v=.int .i64 (tk:Nat)⟩,⟨[1,3,7],fun v _=>∃ id:Nat,v=.tuple #[.int .i64 id,.nilIface]⟩,⟨[8],fun v ds=>∃ id:Nat,ds=[.tuple #[.int .i64 id,.nilIface]]∧v=.int .i64 id⟩,⟨[8],fun v ds=>∃ id:Nat,ds=[.tuple #[.int .i64 id,.nilIface]]∧v=.nilIface⟩,⟨[9],fun v ds=>ds=[v]⟩,⟨[10],fun v ds=>ds=[v]⟩] [8] [[0],[0],[0],[0],[0],[0],[0],[0],[0],[1],[1],[1],[1]] [fun _ wx=>St w N [pA X2,blk br (.cells #[.int .i64 3,.int .u8 lt,.int .i64 lf,.int .i64 rg,.int .i64 tm] 131)] wx,fun vals wx=>∃ (X5:Px) (id:Nat),vals 8=.tuple #[.int .i64 id,.nilIface]∧(X2.Ext X5∧zK X5∧IdIs X5.S id (jJ k s)∧X5.S.list.length<=X2.S.list.length+1)∧St w N [pA X5,blk br (.cells #[.int .i64 3,.int .u8 lt,.int .i64 lf,.int .i64 rg,.int .i64 tm] 131)] wx]
   [[],[(0,78)],[],[(2,80)],[],[(4,82)],[],[(5,83),(6,84)],[(1,79),(3,81),(7,85)],[(8,86)],[(8,86)],[(9,87)],[(10,88)]] [(0,78),(1,79),(2,80),(3,81),(4,82),(5,83),(6,84),(7,85),(8,86),(9,87),(10,88),(11,6),(12,7)] (by kernel_rfl) (by kernel_rfl) H.drew ⟨⟨qo,trivial⟩,⟨?_,trivial⟩,⟨qo,trivial⟩,⟨?_,trivial⟩,⟨qo,trivial⟩,⟨?_,trivial⟩,⟨qo,trivial⟩,⟨?_,trivial⟩,⟨?_,trivial⟩,⟨?_,trivial⟩,⟨?_,trivial⟩,⟨?_,trivial⟩,⟨?_,trivial⟩,trivial⟩ ?_
  ·intro vals wx hd HC;simp only [GF] at hd;have H:=HC;simp only [CA] at H;simp only [PS,hd];go_simp;with_reducible refine zm (HSTx.out _ (H.get pk)) ?_
   rintro e wz ⟨rfl,rfl⟩;exact ⟨_,rfl,rfl,HC⟩
  ·intro vals wx hd HC;simp only [GF] at hd;have H:=HC;simp only [CA] at H;simp only [PS,hd];refine StStep.celC rfl rfl rfl rfl (zV (H.get (A:=blk br (.cells #[.int .i64 3,.int .u8 lt,.int .i64 lf,.int .i64 rg,.int .i64 tm] 131)) pk) rfl) ⟨rfl,HC⟩
  ·intro vals wx hd HC;simp only [GF] at hd;have H:=HC;simp only [CA] at H;simp only [PS,hd];refine StStep.celC rfl rfl rfl rfl (zV (H.get (A:=blk br (.cells #[.int .i64 3,.int .u8 lt,.int .i64 lf,.int .i64 rg,.int .i64 tm] 131)) pk) rfl) ⟨rfl,HC⟩
  ·intro vals wx hd HC;simp only [GF] at hd;have H:=HC;simp only [CA] at H;simp only [PS,hd];go_simp;first|exact HC|exact ⟨rfl,HC⟩|exact ⟨HTK2.out,HC⟩|(rw [HTK2.out];exact ⟨rfl,HC⟩)
  ·intro vals wx hd HC;simp only [GF] at hd;obtain ⟨h1,h3,h7⟩:=hd;have H:=HC;simp only [CA] at H;simp only [PS,h1,h3,h7];clear h1 h3 h7 HC;go_simp;with_reducible refine zm (HPM.out X2 HY.out.1 HY.out.2.1 HY.out.2.2 _ (H.get pk)) ?_
   rintro e wz ⟨X5,id5,rfl,y1,y2,y3,y4,hb⟩;have H2:=(H.pick pk).call hb;exact ⟨_,rfl,⟨_,rfl⟩,X5,id5,rfl,⟨y1,y2,y3,y4⟩,by simpa using H2⟩
  ·intro vals wx hd HC;simp only [GF] at hd;have h8:=hd;clear hd;have H:=HC;simp only [CA] at H;obtain ⟨X5,id5,hv8,hj5,H⟩:=H;simp only [PS];have e8:vals 8=.tuple #[.int .i64 id5,.nilIface]:=hv8;simp only [e8];clear h8;go_simp;first|exact ⟨⟨id5,by simp [e8],rfl⟩,HC⟩|exact ⟨⟨id5,rfl⟩,HC⟩|exact ⟨rfl,HC⟩|exact HC|exact ⟨⟨⟨id5,rfl⟩,rfl⟩,HC⟩|exact ⟨⟨id5,rfl,rfl⟩,HC⟩|fail "Z9"
  ·intro vals wx hd HC;simp only [GF] at hd;have h8:=hd;clear hd;have H:=HC;simp only [CA] at H;obtain ⟨X5,id5,hv8,hj5,H⟩:=H;simp only [PS];have e8:vals 8=.tuple #[.int .i64 id5,.nilIface]:=hv8;simp only [e8];clear h8;go_simp;first|exact ⟨⟨id5,by simp [e8],rfl⟩,HC⟩|exact ⟨⟨id5,rfl⟩,HC⟩|exact ⟨rfl,HC⟩|exact HC|exact ⟨⟨⟨id5,rfl⟩,rfl⟩,HC⟩|exact ⟨⟨id5,rfl,rfl⟩,HC⟩|fail "Z9"
  ·intro vals wx hd HC;simp only [GF] at hd;have h9:=hd;clear hd;have H:=HC;simp only [CA] at H;obtain ⟨X5,id5,hv8,hj5,H⟩:=H;simp only [PS];clear h9;go_simp;first|exact HC|exact ⟨rfl,HC⟩
  ·intro vals wx hd HC;simp only [GF] at hd;have h10:=hd;clear hd;have H:=HC;simp only [CA] at H;obtain ⟨X5,id5,hv8,hj5,H⟩:=H;simp only [PS];clear h10;go_simp;first|exact HC|exact ⟨rfl,HC⟩
  intro vals wx hd HC;have h8:=hd.2.2.2.2.2.2.2.2.1;have h9:=hd.2.2.2.2.2.2.2.2.2.1;have h10:=hd.2.2.2.2.2.2.2.2.2.2.1;have h11:=hd.2.2.2.2.2.2.2.2.2.2.2.1;have h12:=hd.2.2.2.2.2.2.2.2.2.2.2.2.1;simp only [CA] at HC;obtain ⟨X5,id5,hv8,hj5,H⟩:=HC;simp only [GF] at hd;simp only [PS,hd];clear hd;have e11:vals 11=.int .i64 id5:=by
   obtain ⟨q,q1,q2⟩:=(h9:∃ id:Nat,[vals 8]=[.tuple #[.int .i64 id,.nilIface]]∧vals 9=.int .i64 id)
   replace q1:[vals 8]=[Value.tuple #[.int .i64 q,.nilIface]]:=q1;rw [hv8] at q1;simp only [Zq.injEq,and_true,Value.tuple.injEq,Array.mk.injEq,Value.int.injEq,true_and] at q1;rw [X8 (show [vals 9]=[vals 11] from h11),q2,q1]
  have e12:vals 12=.nilIface:=by
   obtain ⟨q,q1,q2⟩:=(h10:∃ id:Nat,[vals 8]=[.tuple #[.int .i64 id,.nilIface]]∧vals 10=.nilIface)
   rw [X8 (show [vals 10]=[vals 12] from h12),q2]
  simp only [hv8,e11,e12];go_wp2_with (first|refine sL ?_|(refine sS ?_;clear H;intros;rename_i H));go_ret2;exact ⟨X5,id5,rfl,HY.out.1.trans hj5.1,hj5.2.1,hj5.2.2.1,by have h1:=hj5.2.2.2;rw [HY.out.2.2] at h1;have:=HTN.out;omega,H.picks (.cons pk .nil)⟩
 ·have d8:((kd:Int)==3)=false:=(by simp;omega);clear hX ha hd hc hT hTl hx hte hen hL hroom hl hkn hnk hcomm hn hi htop hkd;go_enter Tryz.func104,Tryz.ntmps104;go_wp2_with (first|refine sL ?_|(refine sS ?_;clear H;intros;rename_i H)|(go_at_call 53;first|(with_reducible refine same (HST.out X (.refl _) _ (H.get pk)) ?_)|(with_reducible refine same (HST.out X2 HY.out.1 _ (H.get pk)) ?_)|(with_reducible refine same (HST.out X3 (HY.out.1.trans HZ.out.1) _ (H.get pk)) ?_))|(go_at_call 38;with_reducible refine same (HLE.out _ (H.get pk)) ?_)|(go_at_call 91;with_reducible refine zm (HT.out X _ (.refl _) HXX.out rfl (H.sepK HK pk pk)) ?_;rintro e9 wc ⟨X2,y1,y2,y3,rfl,hb⟩;have HY:=zh (za y1 (za y2 y3));clear y1 y2 y3;replace H:=zn ((H.pick pk).call hb);clear hb)|(go_at_call 92;with_reducible refine zm (HSZ.out X2 HY.out.1 HY.out.2.1 HY.out.2.2 _ (H.get pk)) ?_;rintro e9 wc ⟨rfl,hb⟩;replace H:=H.grew hb.below;clear hb)|(go_at_call 101;with_reducible refine same (HMU.out _) ?_)|(go_at_call 68;with_reducible refine zm (HRU.out X2 HY.out.1 HY.out.2.2 _ (H.get pk)) ?_;rintro e9 wc ⟨rfl,hb⟩;replace H:=H.grew hb.below;clear hb)|(go_at_call 130;with_reducible refine zm (HAP.out X2 HY.out.1 HY.out.2.1 HY.out.2.2 _ (H.sepK HK pk pk)) ?_;rintro e9 wc ⟨ap,X3,rfl,y0,y1,y2,y3,hb⟩;have HZ:=zh (za y1 (za y2 (za y3 y0)));clear y1 y2 y3 y0;replace H:=zn ((H.pick pk).call hb);clear hb))
  ·have hap:ap=true:=(by assumption);have HQC:=zh (HZ.out.2.2.2 hap k HTN.out.2.2.2.2.2.1);go_at_call 70;with_reducible refine zm (HPW.out X3 (HY.out.1.trans HZ.out.1) HZ.out.2.1 (HZ.out.2.2.1.trans HY.out.2.2) HQC.out _ (H.get pk)) ?_;rintro e9 wc ⟨X4,id4,rfl,y1,y2,y3,y4,hb⟩;have HW:=zh (za y1 (za y2 (za y3 y4)));clear y1 y2 y3 y4;replace H:=zn ((H.pick pk).call hb);clear hb
   go_wp2_with (first|refine sL ?_|(refine sS ?_;clear H;intros;rename_i H));go_ret2;exact ⟨X4,id4,rfl,HY.out.1.trans (HZ.out.1.trans HW.out.1),HW.out.2.1,HW.out.2.2.1,by have h1:=HW.out.2.2.2;rw [HZ.out.2.2.1,HY.out.2.2] at h1;have:=HTN.out;omega,H.picks (.cons pk .nil)⟩
  ·go_at_call 131;with_reducible refine zm (HDB.out X3 (HY.out.1.trans HZ.out.1) HZ.out.2.1 (HZ.out.2.2.1.trans HY.out.2.2) _ (H.sepK HK pk pk)) ?_;rintro e9 wc ⟨X4,id4,rfl,y1,y2,y3,y4,hb⟩;have HW:=zh (za y1 (za y2 (za y3 y4)));clear y1 y2 y3 y4;replace H:=zn ((H.pick pk).call hb);clear hb
   go_wp2_with (first|refine sL ?_|(refine sS ?_;clear H;intros;rename_i H));go_ret2;exact ⟨X4,id4,rfl,HY.out.1.trans (HZ.out.1.trans HW.out.1),HW.out.2.1,HW.out.2.2.1,by have h1:=HW.out.2.2.2;rw [HZ.out.2.2.1,HY.out.2.2] at h1;exact h1,H.picks (.cons pk .nil)⟩
end
section
open Go.RowKit Go.Maps
attribute [local go_sem] qt
def JnRel (N:List Nat) (X:Px) (w:World) (mm:Nat) (v:Value) (wr:World):Prop :=
 ∃ (X1:Px),((v=.int .i64 0∧mm=2)∨(v=.int .i64 1∧mm=1)∨(v=.int .i64 2∧mm=0))∧(X.Ext X1∧zK X1∧X1.S=X.S)∧St w N [pA X1] wr
theorem joinE_c {X:Px} {a b:Nat} {sa sb:List Tr} (hX:zK X) (ha:IdIs X.S a sa) (hb:IdIs X.S b sb) (hl:sa.length+sb.length<=1048576) (hroom:X.S.list.length+(sa.length+sb.length)<=X.S.most) (w:World) (h:PH X w) :
  Calls zb 105 #[.pointer (some ⟨X.p,0,none⟩),.int .i64 a,.int .i64 b] w (kP X (sa++sb) (sa.length+sb.length) (pA X).fp w):=by
 have h:((pA X).sep deA).ho w:=h;rw [qz] at h;obtain ⟨k1,k2,hdd⟩:=h;have H:=St.one k1;have HK:Ks w (pA X).fp [deA]:=⟨by simpa using k2,by simpa using fun b hb hm=>hdd b hm hb⟩
 generalize (pA X).fp=N at *;clear k1 k2 hdd;have hLa:=idIs_le ha;have hLb:=idIs_le hb;obtain ⟨L,hL⟩:∃ n,X.S.list.length=n:=⟨_,rfl⟩
 rw [hL] at hLa hLb;obtain ⟨la,hla,htpa⟩:=Ye hX ha;obtain ⟨lb,hlb,htpb⟩:=Ye hX hb;have HTA:=zh htpa;have HTB:=zh htpb;have HST:Hid (∀ X2:Px,X.Ext X2->∀ w,(pA X2).ho w->Calls zb 53 #[.pointer (some ⟨X.p,0,none⟩)] w fun e w'=>e=.returned (.pointer (some ⟨X.s,0,none⟩))∧w'=w):=zh fun X2 q w h=>by have:=jH w h;rwa [q.p,q.s] at this
 have HLE:Hid (∀ X2:Px,X.Ext X2->X2.S=X.S->∀ w,(pA X2).ho w->Calls zb 38 #[.pointer (some ⟨X.s,0,none⟩)] w fun e w'=>e=.returned (.int .i64 (L:Nat))∧w'=w):=zh fun X2 q e w h=>by have:=Wp w (jh h);rwa [e,hL,q.s] at this
 obtain ⟨na,hna⟩:∃ n,sa.length=n:=⟨_,rfl⟩
 obtain ⟨nb,hnb⟩:∃ n,sb.length=n:=⟨_,rfl⟩
 obtain ⟨sm,hsm⟩:∃ n,na+nb=n:=⟨_,rfl⟩
 rw [hna,hnb,hsm] at hl hroom ⊢;have HSA:Hid (∀ X1:Px,X.Ext X1->zK X1->X1.S=X.S->∀ w,(pA X1).ho w->Calls zb 92 #[.pointer (some ⟨X.p,0,none⟩),.int .i64 a] w fun e w'=>e=.returned (.int .i64 (na:Nat))∧St w [] [] w'):=zh fun X1 q1 q2 q3 w h=>by have:=kY q2 (by rw [q3];exact ha) w h;rwa [q1.p,hna] at this
 have HSB:Hid (∀ X1:Px,X.Ext X1->zK X1->X1.S=X.S->∀ w,(pA X1).ho w->Calls zb 92 #[.pointer (some ⟨X.p,0,none⟩),.int .i64 b] w fun e w'=>e=.returned (.int .i64 (nb:Nat))∧St w [] [] w'):=zh fun X1 q1 q2 q3 w h=>by have:=kY q2 (by rw [q3];exact hb) w h;rwa [q1.p,hnb] at this
 have HAD:Hid (∀ w,Calls zb 61 #[.int .i64 (na:Nat),.int .i64 (nb:Nat)] w fun e w'=>e=.returned (.tuple #[.int .i64 (sm:Nat),.nilIface])∧w'=w):=zh fun w=>by rw [← hsm];exact QT na nb w (show na+nb<=1152921504606846976 by omega)
 have HJO:Hid (∀ X1:Px,X.Ext X1->zK X1->X1.S=X.S->∀ w,((pA X1).sep deA).ho w->Calls zb 94 #[.pointer (some ⟨X.p,0,none⟩),.int .i64 a,.int .i64 b] w (kP X1 (sa++sb) sm (pA X1).fp w)):=zh fun X1 q1 q2 q3 w h=>by
  have:=join_c (X:=X1) (a:=a) (b:=b) (sa:=sa) (sb:=sb) q2 (by rw [q3];exact ha) (by rw [q3];exact hb) (by rw [hna,hnb,hsm];exact hl) (by rw [hna,hnb,hsm,q3];exact hroom) w h;rwa [q1.p,hna,hnb,hsm] at this
 have d1:decide ((a:Int)<0)=false:=(by simp);have d2:decide ((b:Int)<0)=false:=(by simp);have d3:decide ((L:Int)<(a:Int))=false:=(by simp;omega);have d3n:decide (L<a)=false:=(by simp;omega);have d4:decide ((L:Int)<(b:Int))=false:=(by simp;omega);have d4n:decide (L<b)=false:=(by simp;omega);have hix0:∀ wr:World,(Instr.index 226 (.agg #[.int .i64 a,.int .i64 b]) (.int .i64 0)).run zb wr=.ok (.int .i64 a) wr:=fun wr=>by kernel_rfl
 have hix1:∀ wr:World,(Instr.index 226 (.agg #[.int .i64 a,.int .i64 b]) (.int .i64 1)).run zb wr=.ok (.int .i64 b) wr:=fun wr=>by kernel_rfl
 have HXX:=zh hX;clear hX ha hb hl hroom htpa htpb hla hlb hLa hLb hL hna hnb hsm;go_enter Tryz.func105,Tryz.ntmps105;go_wp2_with (first|refine sL ?_|(refine sS ?_;clear H;intros;rename_i H)|(go_at_call 53;with_reducible refine same (HST.out X (.refl _) _ (H.get pk)) ?_));go_loopg [23] 2 (fun mm v wr=>JnRel N X w mm v wr);case atStart=>exact ⟨X,.inl ⟨rfl,rfl⟩,⟨.refl _,HXX.out,rfl⟩,H.picks (.cons pk .nil)⟩
 case round =>
  clear H;obtain ⟨X1,hk,hx1,H⟩:=hrel;have HX1:=zh hx1;clear hx1;rcases hk with ⟨rfl,rfl⟩|⟨rfl,rfl⟩|⟨rfl,rfl⟩
  ·go_wp2_with (first|refine sL ?_|(refine sS ?_;clear H;intros;rename_i H)|(go_at_call 53;with_reducible refine same (HST.out X1 HX1.out.1 _ (H.get pk)) ?_)|(go_at_call 38;with_reducible refine same (HLE.out X1 HX1.out.1 HX1.out.2.2 _ (H.get pk)) ?_));go_roundg 1;case measure=>omega
   case rel=>exact ⟨X1,.inr (.inl ⟨rfl,rfl⟩),HX1.out,H⟩
  ·go_wp2_with (first|refine sL ?_|(refine sS ?_;clear H;intros;rename_i H)|(go_at_call 53;with_reducible refine same (HST.out X1 HX1.out.1 _ (H.get pk)) ?_)|(go_at_call 38;with_reducible refine same (HLE.out X1 HX1.out.1 HX1.out.2.2 _ (H.get pk)) ?_));go_roundg 0;case measure=>omega
   case rel=>exact ⟨X1,.inr (.inr ⟨rfl,rfl⟩),HX1.out,H⟩
  ·go_wp2_with (first|refine sL ?_|(refine sS ?_;clear H;intros;rename_i H));go_loopg [40] 2 (fun mm v wr=>JnRel N X w mm v wr);case atStart=>exact ⟨X1,.inl ⟨rfl,rfl⟩,HX1.out,H⟩
   case round =>
    clear H HX1;obtain ⟨X1,hk,hx1,H⟩:=hrel;have HX1:=zh hx1;clear hx1;rcases hk with ⟨rfl,rfl⟩|⟨rfl,rfl⟩|⟨rfl,rfl⟩
    ·go_wp2_with (first|refine sL ?_|(refine sS ?_;clear H;intros;rename_i H)|(go_at_call 91;with_reducible refine zm (HTA.out X1 _ HX1.out.1 HX1.out.2.1 HX1.out.2.2 (H.sepK HK pk pk)) ?_;rintro e9 wc ⟨X2,y1,y2,y3,rfl,hb⟩;have HY:=zh (za y1 (za y2 y3));clear y1 y2 y3;replace H:=zn ((H.pick pk).call hb);clear hb));go_roundg 1;case measure=>omega
     case rel=>exact ⟨X2,.inr (.inl ⟨rfl,rfl⟩),⟨HX1.out.1.trans HY.out.1,HY.out.2.1,HY.out.2.2.trans HX1.out.2.2⟩,H.picks (.cons pk .nil)⟩
    ·go_wp2_with (first|refine sL ?_|(refine sS ?_;clear H;intros;rename_i H)|(go_at_call 91;with_reducible refine zm (HTB.out X1 _ HX1.out.1 HX1.out.2.1 HX1.out.2.2 (H.sepK HK pk pk)) ?_;rintro e9 wc ⟨X2,y1,y2,y3,rfl,hb⟩;have HY:=zh (za y1 (za y2 y3));clear y1 y2 y3;replace H:=zn ((H.pick pk).call hb);clear hb));go_roundg 0;case measure=>omega
     case rel=>exact ⟨X2,.inr (.inr ⟨rfl,rfl⟩),⟨HX1.out.1.trans HY.out.1,HY.out.2.1,HY.out.2.2.trans HX1.out.2.2⟩,H.picks (.cons pk .nil)⟩
    ·go_wp2_with (first|refine sL ?_|(refine sS ?_;clear H;intros;rename_i H)|(go_at_call 92;(first|(with_reducible refine zm (HSA.out X1 HX1.out.1 HX1.out.2.1 HX1.out.2.2 _ (H.get pk)) ?_)|(with_reducible refine zm (HSB.out X1 HX1.out.1 HX1.out.2.1 HX1.out.2.2 _ (H.get pk)) ?_));rintro e9 wc ⟨rfl,hb⟩;replace H:=H.grew hb.below;clear hb)|(go_at_call 61;with_reducible refine same (HAD.out _) ?_)|(go_at_call 94;with_reducible refine zm (HJO.out X1 HX1.out.1 HX1.out.2.1 HX1.out.2.2 _ (H.sepK HK pk pk)) ?_;rintro e9 wc ⟨X2,id2,rfl,y1,y2,y3,y4,hb⟩;have HY:=zh (za y1 (za y2 (za y3 y4)));clear y1 y2 y3 y4;replace H:=zn ((H.pick pk).call hb);clear hb));go_ret2;exact ⟨X2,id2,rfl,HX1.out.1.trans HY.out.1,HY.out.2.1,HY.out.2.2.1,by have:=HY.out.2.2.2;rwa [HX1.out.2.2] at this,H.picks (.cons pk .nil)⟩
end
section
open Go.RowKit Go.Maps
attribute [local go_sem] qt yq
section
variable {P:Program} {ops:Array Oper} {a:Act} {w:World} {o:Oper} {Rr:Value->World->Prop}
theorem StStep.lookC {ty:TypeId} {x y:Operand} {ok:Bool} {vm vk v:Value} (hw:Region.wanted o (yielded ops a.tmps)=true) (ho:o.op=.lookup ty x y ok) (hx:a.eval x=vm) (hy:a.eval y=vk) (hl:(Instr.lookup ty vm vk ok).run P w=.ok v w) (h:Rr v w):StStep P ops o a w Rr :=
 StStep.val hw (by
  unfold execOp;simp only [ho,hx,hy,Sem.run_bind,hl,Result.andThen_ok];rfl) h
end
theorem kn_in {S:Sto} {mp x y:Nat} {K:List (Nat×Nat)} (hS:S.Ok) (hx:x<=1152921504606846976) (hK:KnOk S K) (hy:(x,y)∈K) (ok:Bool) (w:World) (h:(zP zb 26 mp (K.map zY)).ho w):(Instr.lookup 136 (.map (some mp)) (.int .i64 (x:Nat)) ok).run zb w=.ok (if ok then .tuple #[.int .i64 (y:Nat),.bool true] else .int .i64 (y:Nat)) w:=by
 rcases XI ok hx h with ⟨z,hz,hr⟩|⟨hno,_⟩
 ·have:=(hK _ hy).2.2.uniq hS (hK _ hz).2.2;simp only at this;rw [this];exact hr
 ·exact absurd rfl (hno _ hy)
theorem kn_out {mp x:Nat} {K:List (Nat×Nat)} (hx:x<=1152921504606846976) (hno:∀ q∈K,q.1≠x) (ok:Bool) (w:World) (h:(zP zb 26 mp (K.map zY)).ho w):(Instr.lookup 136 (.map (some mp)) (.int .i64 (x:Nat)) ok).run zb w=.ok (if ok then .tuple #[.int .i64 0,.bool false] else .int .i64 0) w:=by
 rcases XI ok hx h with ⟨z,hz,hr⟩|⟨_,hr⟩
 ·exact absurd rfl (hno _ hz)
 ·exact hr
theorem kn_dec (x:Nat) (K:List (Nat×Nat)):(∃ y,(x,y)∈K)∨∀ q∈K,q.1≠x:=by
 by_cases h:∃ y,(x,y)∈K
 ·exact .inl h
 ·refine .inr fun q hq e=>h ⟨q.2,?_⟩
  subst e;exact hq
theorem rep_txt (k:Nat) (l:List Nat):((zd k l).flatten).map Tr.leaf=jJ k (l.map Tr.leaf):=by
 simp [jJ,List.map_flatten,Qa]
attribute [local go_sem] StStep jw yM in
theorem learn_g {X:Px} {bm mp x:Nat} {K:List (Nat×Nat)} (hX:zK X) (h1:1<=x) (h2:x<=X.S.list.length) (hK:KnOk X.S K) (hn:∀ q∈K,q.1≠x) (ht:(X.S.tr x).len<=300) (hroom:X.S.list.length+1300<X.S.most) (hmost:X.S.most<=1048576) (w:World) (h:((pA X).sep ((blk bm (.cells #[.pointer (some ⟨X.p,0,none⟩),.map (some mp)] 138)).sep (zP zb 26 mp (K.map zY)))).ho w) (hd:(((pA X).sep ((blk bm (.cells #[.pointer (some ⟨X.p,0,none⟩),.map (some mp)] 138)).sep (zP zb 26 mp (K.map zY)))).sep deA).ho w) :
  Calls zb 71 #[.pointer (some ⟨bm,0,none⟩),.int .i64 (x:Nat)] w fun e w'=>∃ (X':Px) (K':List (Nat×Nat)) (c:Nat),e=.returned (.tuple #[.int .i64 c,.nilIface])∧((c=0∧∃ y,K'=K++[(x,y)]∧IdIs X'.S y ((X.S.tr x).txt.map Tr.leaf))∨(X'=X∧K'=K∧Qc X.S x c∧¬ (X.S.tr x).len<=256∧∀ q∈K,q.1≠c))∧X.Ext X'∧zK X'∧X'.S.list.length<=X.S.list.length+vl (X.S.tr x)∧St w ((pA X).sep ((blk bm (.cells #[.pointer (some ⟨X.p,0,none⟩),.map (some mp)] 138)).sep (zP zb 26 mp (K.map zY)))).fp [pA X',blk bm (.cells #[.pointer (some ⟨X.p,0,none⟩),.map (some mp)] 138),zP zb 26 mp (K'.map zY)] w':=by
 by_cases hlow:(X.S.tr x).len<=256
 ·refine (learn_c (L9:=(X.S.tr x).len) hX h1 h2 hn hlow (zr _) (by omega) hmost w h hd).mono ?_;rintro e w' ⟨X',y,rfl,q1,q2,q3,q4,q5⟩;exact ⟨X',_,0,rfl,.inl ⟨rfl,y,rfl,q3⟩,q1,q2,by unfold vl;rw [if_pos hlow];exact q4,q5⟩
 have H:=((St.one h).sep.pick (A:=(((blk bm (.cells #[.pointer (some ⟨X.p,0,none⟩),.map (some mp)] 138)).sep (zP zb 26 mp (K.map zY))))) pk).sep;rw [qz] at hd;have HK:Ks w ((pA X).sep ((blk bm (.cells #[.pointer (some ⟨X.p,0,none⟩),.map (some mp)] 138)).sep (zP zb 26 mp (K.map zY)))).fp [deA]:=⟨by simpa using hd.2.1,by simpa using fun b hb hm=>hd.2.2 b hm hb⟩
 generalize ((pA X).sep ((blk bm (.cells #[.pointer (some ⟨X.p,0,none⟩),.map (some mp)] 138)).sep (zP zb 26 mp (K.map zY)))).fp=N at H HK ⊢;obtain ⟨n,hnn⟩:∃ n,(X.S.tr x).len=n:=⟨_,rfl⟩
 obtain ⟨j,hj⟩:∃ j,x=j+1:=⟨x-1,by omega⟩
 obtain ⟨en,hen⟩:∃ a,X.S.list[j]?=some a:=⟨_,zg (by omega)⟩
 have hlw:en.w.len=n:=(by rw [← hnn,hj];exact (j1 hX.ok j en hen).1.symm);have HS:Hid (∀ w,(pA X).ho w->Calls zb 53 #[.pointer (some ⟨X.p,0,none⟩)] w fun e w'=>e=.returned (.pointer (some ⟨X.s,0,none⟩))∧w'=w):=zh fun w h=>jH w h
 have hW:Hid (∀ w,(pA X).ho w->Calls zb 40 #[.pointer (some ⟨X.s,0,none⟩),.int .i64 (x:Nat)] w fun e w'=>e=.returned (.tuple #[.agg #[.int .i64 (n:Nat),.int .i64 en.w.lines,.int .i64 en.w.head,.int .i64 en.w.tail,.int .u64 en.w.val,.int .u64 en.w.scale],.nilIface])∧St w [] [] w'):=zh fun w h=>by
  have:=km (i:=x) (x:=en) (by rw [hj];exact hen) w (jh h);rw [← hlw];exact this
 have HR:Hid (∀ (y:Nat) w,(((blk bm (.cells #[.pointer (some ⟨X.p,0,none⟩),.map (some mp)] 138)).sep (zP zb 26 mp (K.map zY)))).ho w->Calls zb 103 #[.pointer (some ⟨bm,0,none⟩),.int .i64 (x:Nat),.int .i64 (y:Nat),.nilIface] w fun e w'=>e=.returned .nilIface∧St w (((blk bm (.cells #[.pointer (some ⟨X.p,0,none⟩),.map (some mp)] 138)).sep (zP zb 26 mp (K.map zY)))).fp [blk bm (.cells #[.pointer (some ⟨X.p,0,none⟩),.map (some mp)] 138),zP zb 26 mp ((K++[(x,y)]).map zY)] w'):=zh fun y w h=>WJ (by omega) hn w h
 have d1:decide ((n:Int)<=256)=false:=(by simp;omega);have d1n:decide (n<=256)=false:=(by simp;omega);have HLOW:=zh hlow;have hx1:X.S.list[x-1]?=some en:=(by rw [hj];exact hen);have hxb:X.S.list.length<=1048576:=(by omega);have HRUL:∀ (kd lt lf rg tm:Nat),en.r=⟨kd,lt,lf,rg,tm⟩->∀ w,(pA X).ho w->Calls zb 68 #[.pointer (some ⟨X.s,0,none⟩),.int .i64 x] w fun e w'=>e=.returned (.tuple #[.agg #[.int .i64 kd,.int .u8 lt,.int .i64 lf,.int .i64 rg,.int .i64 tm],.nilIface])∧St w [] [] w':=fun kd lt lf rg tm he w h=>by
  have:=YK (S:=X.S) (i:=j) (x:=en) hen (x:Int) (by omega) w (jh h);rw [he] at this;exact this
 have HRO:Hid (X.S.list.length+1300<X.S.most):=zh hroom;have HXX:=zh hX;have HTN:=zh (za ht hnn);clear hnn;obtain ⟨kd,lt,lf,rg,tm,her,hlf,hcase⟩:∃ kd lt lf rg tm:Nat,en.r=⟨kd,lt,lf,rg,tm⟩∧(1<=lf∧lf<x)∧((kd=3∧2<=tm∧X.S.tr x=.pow (X.S.tr lf) tm)∨(kd=2∧1<=rg∧rg<x∧X.S.tr x=.pair (X.S.tr lf) (X.S.tr rg))):=by
  cases xh hX.ok hen with
  |letter b hb hr hw ht'=>exfalso;rw [hj,ht'] at hlow;simp [Tr.len] at hlow
  |pair l r y z hl hr _ _ he _ _ ht'=>exact ⟨_,_,_,_,_,he,by omega,.inr ⟨rfl,by omega,by omega,by rw [hj];exact ht'⟩⟩
  |pow l k y hl hy hk he hw hs ht'=>exact ⟨_,_,_,_,_,he,by omega,.inl ⟨rfl,hk,by rw [hj];exact ht'⟩⟩
 have HRU:=zh (HRUL kd lt lf rg tm her);have HLF:=zh hlf;have hlb:lf<=1152921504606846976:=(by omega);rcases kn_dec lf K with ⟨y1,hy1⟩|hno
 case inr =>
  have HL1:Hid (∀ w,(zP zb 26 mp (K.map zY)).ho w->(Instr.lookup 136 (.map (some mp)) (.int .i64 (lf:Nat)) true).run zb w=.ok (.tuple #[.int .i64 0,.bool false]) w):=zh fun w h=>kn_out hlb hno true w h
  have HRF:Hid (Qc X.S x lf∧∀ q∈K,q.1≠lf):=zh ⟨⟨hlf.1,en,hx1,by rw [her];exact .inl rfl⟩,hno⟩;clear hX h1 h2 hK hn ht hroom hmost h hd hj hen hlw hx1 hxb HRUL her hlf hcase hno hlb hlow;go_enter Qd,Zu;go_wp2_with (first|refine sL ?_|(refine sS ?_;clear H;intros;rename_i H)|(go_at_call 53;with_reducible refine same (HS.out _ (H.get pk)) ?_)|(go_at_call 40;with_reducible refine zm (hW.out _ (H.get (A:=pA X) pk)) ?_;rintro e9 wc ⟨rfl,hb⟩;replace H:=H.grew hb.below;clear hb)|(go_at_call 68;with_reducible refine zm (HRU.out _ (H.get pk)) ?_;rintro e9 wc ⟨rfl,hb⟩;replace H:=H.grew hb.below;clear hb));rename_i br _ _ _ _;replace H:St w N [pA X,blk bm (.cells #[.pointer (some ⟨X.p,0,none⟩),.map (some mp)] 138),zP zb 26 mp (K.map zY),blk br (.cells #[.int .i64 kd,.int .u8 lt,.int .i64 lf,.int .i64 rg,.int .i64 tm] 131)] _:=H.picks (.cons (A:=pA X) pk (.cons (A:=blk bm (.cells #[.pointer (some ⟨X.p,0,none⟩),.map (some mp)] 138)) pk (.cons (A:=zP zb 26 mp (K.map zY)) pk (.cons (A:=blk br (.cells #[.int .i64 kd,.int .u8 lt,.int .i64 lf,.int .i64 rg,.int .i64 tm] 131)) pk .nil))));refine zM 12 [⟨[],fun v _=>v=.pointer (some ⟨bm,0,none⟩)⟩,⟨[0],fun v _=>v=.pointer (some ⟨bm,0,none⟩)⟩,⟨[1],fun v _=>v=.pointer (some ⟨bm,1,none⟩)⟩,⟨[2],fun v _=>v=.map (some mp)⟩,⟨[],fun v _=>v=.pointer (some ⟨br,2,none⟩)⟩,⟨[4],fun v _=>v=.int .i64 lf⟩,⟨[3,5],fun v _=>v=.tuple #[.int .i64 0,.bool false]⟩,⟨[6],fun v _=>v=.tuple #[.int .i64 0,.bool false]⟩,⟨[7],fun v _=>v=.int .i64 0⟩,⟨[7],fun v _=>v=.bool false⟩,⟨[8],fun v _=>v=.int .i64 0⟩,⟨[9],fun v _=>v=.bool false⟩] [] [[0],[0],[0],[0],[0],[0],[0],[0],[0],[0],[0],[0]] [fun _ wx=>St w N [pA X,blk bm (.cells #[.pointer (some ⟨X.p,0,none⟩),.map (some mp)] 138),zP zb 26 mp (K.map zY),blk br (.cells #[.int .i64 kd,.int .u8 lt,.int .i64 lf,.int .i64 rg,.int .i64 tm] 131)] wx]
   [[],[(0,71)],[(1,72)],[(2,73)],[],[(4,75)],[(3,74),(5,76)],[(6,77)],[(7,70)],[(7,70)],[(8,78)],[(9,79)]] [(0,71),(1,72),(2,73),(3,74),(4,75),(5,76),(6,77),(7,70),(8,78),(9,79),(10,13),(11,14)] (by kernel_rfl) (by kernel_rfl) H.drew ⟨⟨qo,trivial⟩,⟨qo,trivial⟩,⟨qo,trivial⟩,⟨?_,trivial⟩,⟨qo,trivial⟩,⟨?_,trivial⟩,⟨?_,trivial⟩,⟨qo,trivial⟩,⟨qo,trivial⟩,⟨qo,trivial⟩,⟨qo,trivial⟩,⟨qo,trivial⟩,trivial⟩ ?_
  ·intro vals wx hd HC;simp only [GF] at hd;have H:=HC;simp only [CA] at H;simp only [PS,hd];refine StStep.celC rfl rfl rfl rfl (zV (H.get (A:=blk bm (.cells #[.pointer (some ⟨X.p,0,none⟩),.map (some mp)] 138)) pk) rfl) ⟨rfl,HC⟩
  ·intro vals wx hd HC;simp only [GF] at hd;have H:=HC;simp only [CA] at H;simp only [PS,hd];refine StStep.celC rfl rfl rfl rfl (zV (H.get (A:=blk br (.cells #[.int .i64 kd,.int .u8 lt,.int .i64 lf,.int .i64 rg,.int .i64 tm] 131)) pk) rfl) ⟨rfl,HC⟩
  ·intro vals wx hd HC;simp only [GF] at hd;have H:=HC;simp only [CA] at H;simp only [PS,hd];refine StStep.lookC rfl rfl rfl rfl (HL1.out _ (H.get pk)) ⟨rfl,HC⟩
  intro vals wx hd HC;simp only [CA] at HC;have H:=HC;clear HC;simp only [GF] at hd;simp only [PS,hd];clear hd;go_wp2_with (first|refine sL ?_|(refine sS ?_;clear H;intros;rename_i H));go_ret2;exact ⟨X,K,lf,rfl,.inr ⟨rfl,rfl,HRF.out.1,HLOW.out,HRF.out.2⟩,.refl _,HXX.out,Nat.le_add_right _ _,H.picks (.cons pk (.cons pk (.cons pk .nil)))⟩
 have HL1:Hid (∀ w,(zP zb 26 mp (K.map zY)).ho w->(Instr.lookup 136 (.map (some mp)) (.int .i64 (lf:Nat)) true).run zb w=.ok (.tuple #[.int .i64 (y1:Nat),.bool true]) w):=zh fun w h=>kn_in hX.ok hlb hK hy1 true w h
 have hid1:=(hK _ hy1).2.2;simp only at hid1;rcases hcase with ⟨rfl,htm,htr⟩|⟨rfl,hr1,hr2,htr⟩
 ·have hlen:(X.S.tr lf).len*tm=n:=(by rw [← HTN.out.2,htr];rfl);have hHN:=HTN.out;have hpos:1<=(X.S.tr lf).len:=by
   rcases qk (X.S.tr lf).len with h0|h0
   ·rw [h0] at hlen;omega
   ·exact h0
  have htmn:tm<=n:=(by rw [← hlen];exact wY _ hpos);have hsl:((X.S.tr lf).txt.map Tr.leaf).length=(X.S.tr lf).len:=(by rw [qd,Tr.txt_len]);have htx:(X.S.tr x).txt.map Tr.leaf=jJ tm ((X.S.tr lf).txt.map Tr.leaf):=(by rw [htr];exact rep_txt _ _);have hcm:tm*(X.S.tr lf).len=n:=(by rw [xO];exact hlen);have hown:vl (X.S.tr x)=4*n:=by
   unfold vl;rw [if_neg hlow,hHN.2,htr]
  have HRP:Hid (∀ w,((pA X).sep deA).ho w->Calls zb 104 #[.pointer (some ⟨X.p,0,none⟩),.int .i64 (y1:Nat),.int .i64 (tm:Nat)] w (kP X ((X.S.tr x).txt.map Tr.leaf) (vl (X.S.tr x)) (pA X).fp w)):=zh fun w h=>by
   have:=repeat_c (a:=y1) (k:=tm) hX hid1 (fun e=>by rw [e] at hsl;simp at hsl;omega) htm (by omega) (by rw [hsl,hcm];omega) (by rw [hsl,hcm];omega) w h;rw [hsl,hcm,← htx] at this;rw [hown];exact this
  clear hX h1 h2 hK hn ht hroom hmost h hd hj hen hlw hx1 hxb HRUL her hlf hlb hlow hid1 hy1 htm htr hlen hHN hpos htmn hsl htx hcm hown;go_enter Qd,Zu;go_wp2_with (first|refine sL ?_|(refine sS ?_;clear H;intros;rename_i H)|(go_at_call 53;with_reducible refine same (HS.out _ (H.get pk)) ?_)|(go_at_call 40;with_reducible refine zm (hW.out _ (H.get (A:=pA X) pk)) ?_;rintro e9 wc ⟨rfl,hb⟩;replace H:=H.grew hb.below;clear hb)|(go_at_call 68;with_reducible refine zm (HRU.out _ (H.get pk)) ?_;rintro e9 wc ⟨rfl,hb⟩;replace H:=H.grew hb.below;clear hb));rename_i br _ _ _ _;replace H:St w N [pA X,blk bm (.cells #[.pointer (some ⟨X.p,0,none⟩),.map (some mp)] 138),zP zb 26 mp (K.map zY),blk br (.cells #[.int .i64 3,.int .u8 lt,.int .i64 lf,.int .i64 rg,.int .i64 tm] 131)] _:=H.picks (.cons (A:=pA X) pk (.cons (A:=blk bm (.cells #[.pointer (some ⟨X.p,0,none⟩),.map (some mp)] 138)) pk (.cons (A:=zP zb 26 mp (K.map zY)) pk (.cons (A:=blk br (.cells #[.int .i64 3,.int .u8 lt,.int .i64 lf,.int .i64 rg,.int .i64 tm] 131)) pk .nil))));refine zM 12 [⟨[],fun v _=>v=.pointer (some ⟨bm,0,none⟩)⟩,⟨[0],fun v _=>v=.pointer (some ⟨bm,0,none⟩)⟩,⟨[1],fun v _=>v=.pointer (some ⟨bm,1,none⟩)⟩,⟨[2],fun v _=>v=.map (some mp)⟩,⟨[],fun v _=>v=.pointer (some ⟨br,2,none⟩)⟩,⟨[4],fun v _=>v=.int .i64 lf⟩,⟨[3,5],fun v _=>v=.tuple #[.int .i64 (y1:Nat),.bool true]⟩,⟨[6],fun v _=>v=.tuple #[.int .i64 (y1:Nat),.bool true]⟩,⟨[7],fun v _=>v=.int .i64 (y1:Nat)⟩,⟨[7],fun v _=>v=.bool true⟩,⟨[8],fun v _=>v=.int .i64 (y1:Nat)⟩,⟨[9],fun v _=>v=.bool true⟩] [] [[0],[0],[0],[0],[0],[0],[0],[0],[0],[0],[0],[0]] [fun _ wx=>St w N [pA X,blk bm (.cells #[.pointer (some ⟨X.p,0,none⟩),.map (some mp)] 138),zP zb 26 mp (K.map zY),blk br (.cells #[.int .i64 3,.int .u8 lt,.int .i64 lf,.int .i64 rg,.int .i64 tm] 131)] wx]
   [[],[(0,71)],[(1,72)],[(2,73)],[],[(4,75)],[(3,74),(5,76)],[(6,77)],[(7,70)],[(7,70)],[(8,78)],[(9,79)]] [(0,71),(1,72),(2,73),(3,74),(4,75),(5,76),(6,77),(7,70),(8,78),(9,79),(10,13),(11,14)] (by kernel_rfl) (by kernel_rfl) H.drew ⟨⟨qo,trivial⟩,⟨qo,trivial⟩,⟨qo,trivial⟩,⟨?_,trivial⟩,⟨qo,trivial⟩,⟨?_,trivial⟩,⟨?_,trivial⟩,⟨qo,trivial⟩,⟨qo,trivial⟩,⟨qo,trivial⟩,⟨qo,trivial⟩,⟨qo,trivial⟩,trivial⟩ ?_
  ·intro vals wx hd HC;simp only [GF] at hd;have H:=HC;simp only [CA] at H;simp only [PS,hd];refine StStep.celC rfl rfl rfl rfl (zV (H.get (A:=blk bm (.cells #[.pointer (some ⟨X.p,0,none⟩),.map (some mp)] 138)) pk) rfl) ⟨rfl,HC⟩
  ·intro vals wx hd HC;simp only [GF] at hd;have H:=HC;simp only [CA] at H;simp only [PS,hd];refine StStep.celC rfl rfl rfl rfl (zV (H.get (A:=blk br (.cells #[.int .i64 3,.int .u8 lt,.int .i64 lf,.int .i64 rg,.int .i64 tm] 131)) pk) rfl) ⟨rfl,HC⟩
  ·intro vals wx hd HC;simp only [GF] at hd;have H:=HC;simp only [CA] at H;simp only [PS,hd];refine StStep.lookC rfl rfl rfl rfl (HL1.out _ (H.get pk)) ⟨rfl,HC⟩
  intro vals wx hd HC;simp only [CA] at HC;have H:=HC;clear HC;simp only [GF] at hd;simp only [PS,hd];clear hd;go_wp2_with (first|refine sL ?_|(refine sS ?_;clear H;intros;rename_i H));replace H:St w N [pA X,blk bm (.cells #[.pointer (some ⟨X.p,0,none⟩),.map (some mp)] 138),zP zb 26 mp (K.map zY),blk br (.cells #[.int .i64 3,.int .u8 lt,.int .i64 lf,.int .i64 rg,.int .i64 tm] 131)] _:=H.picks (.cons (A:=pA X) pk (.cons (A:=blk bm (.cells #[.pointer (some ⟨X.p,0,none⟩),.map (some mp)] 138)) pk (.cons (A:=zP zb 26 mp (K.map zY)) pk (.cons (A:=blk br (.cells #[.int .i64 3,.int .u8 lt,.int .i64 lf,.int .i64 rg,.int .i64 tm] 131)) pk .nil))));refine zM 13 [⟨[],fun v _=>v=.pointer (some ⟨bm,0,none⟩)⟩,⟨[0],fun v _=>v=.pointer (some ⟨bm,0,none⟩)⟩,⟨[1],fun v _=>v=.pointer (some ⟨bm,0,none⟩)⟩,⟨[2],fun v _=>v=.pointer (some ⟨X.p,0,none⟩)⟩,⟨[],fun v _=>v=.int .i64 (y1:Nat)⟩,⟨[],fun v _=>v=.pointer (some ⟨br,4,none⟩)⟩,⟨[5],fun v _=>v=.int .i64 tm⟩,⟨[3,4,6],fun v _=>∃ id:Nat,v=.tuple #[.int .i64 id,.nilIface]⟩,⟨[7],fun v ds=>ds=[v]⟩,⟨[8],fun v ds=>∃ id:Nat,ds=[.tuple #[.int .i64 id,.nilIface]]∧v=.int .i64 id⟩,⟨[8],fun v ds=>∃ id:Nat,ds=[.tuple #[.int .i64 id,.nilIface]]∧v=.nilIface⟩,⟨[9],fun v ds=>ds=[v]⟩,⟨[10],fun v ds=>ds=[v]⟩] [7] [[0],[0],[0],[0],[0],[0],[0],[0],[1],[1],[1],[1],[1]] [fun _ wx=>St w N [pA X,blk bm (.cells #[.pointer (some ⟨X.p,0,none⟩),.map (some mp)] 138),zP zb 26 mp (K.map zY),blk br (.cells #[.int .i64 3,.int .u8 lt,.int .i64 lf,.int .i64 rg,.int .i64 tm] 131)] wx,fun vals wx=>∃ (X5:Px) (id:Nat),vals 7=.tuple #[.int .i64 id,.nilIface]∧(X.Ext X5∧zK X5∧IdIs X5.S id ((X.S.tr x).txt.map Tr.leaf)∧X5.S.list.length<=X.S.list.length+vl (X.S.tr x))∧St w N [pA X5,blk bm (.cells #[.pointer (some ⟨X.p,0,none⟩),.map (some mp)] 138),zP zb 26 mp (K.map zY),blk br (.cells #[.int .i64 3,.int .u8 lt,.int .i64 lf,.int .i64 rg,.int .i64 tm] 131)] wx]
   [[],[(0,88)],[(1,89)],[(2,90)],[],[],[(5,93)],[(3,91),(4,92),(6,94)],[(7,95)],[(8,87)],[(8,87)],[(9,96)],[(10,97)]] [(0,88),(1,89),(2,90),(3,91),(4,92),(5,93),(6,94),(7,95),(8,87),(9,96),(10,97),(11,15),(12,16)] (by kernel_rfl) (by kernel_rfl) H.drew ⟨⟨qo,trivial⟩,⟨qo,trivial⟩,⟨qo,trivial⟩,⟨?_,trivial⟩,⟨qo,trivial⟩,⟨qo,trivial⟩,⟨?_,trivial⟩,⟨?_,trivial⟩,⟨?_,trivial⟩,⟨?_,trivial⟩,⟨?_,trivial⟩,⟨?_,trivial⟩,⟨?_,trivial⟩,trivial⟩ ?_
  ·intro vals wx hd HC;simp only [GF] at hd;have H:=HC;simp only [CA] at H;simp only [PS,hd];refine StStep.celC rfl rfl rfl rfl (zV (H.get (A:=blk bm (.cells #[.pointer (some ⟨X.p,0,none⟩),.map (some mp)] 138)) pk) rfl) ⟨rfl,HC⟩
  ·intro vals wx hd HC;simp only [GF] at hd;have H:=HC;simp only [CA] at H;simp only [PS,hd];refine StStep.celC rfl rfl rfl rfl (zV (H.get (A:=blk br (.cells #[.int .i64 3,.int .u8 lt,.int .i64 lf,.int .i64 rg,.int .i64 tm] 131)) pk) rfl) ⟨rfl,HC⟩
  ·intro vals wx hd HC;simp only [GF] at hd;obtain ⟨h3,h4,h6⟩:=hd;have H:=HC;simp only [CA] at H;simp only [PS,h3,h4,h6];clear h3 h4 h6 HC;go_simp;with_reducible refine zm (HRP.out _ (H.sepK HK pk pk)) ?_
   rintro e wz ⟨X5,id5,rfl,y1,y2,y3,y4,hb⟩;have H2:=(H.pick pk).call hb;exact ⟨_,rfl,⟨_,rfl⟩,X5,id5,rfl,⟨y1,y2,y3,y4⟩,by simpa using H2⟩
  ·intro vals wx hd HC;simp only [GF] at hd;have h7:=hd;clear hd;have H:=HC;simp only [CA] at H;obtain ⟨X5,id5,hv7,hj5,H⟩:=H;simp only [PS];clear h7;go_simp;first|exact HC|exact ⟨rfl,HC⟩
  ·intro vals wx hd HC;simp only [GF] at hd;have h8:=hd;clear hd;have H:=HC;simp only [CA] at H;obtain ⟨X5,id5,hv7,hj5,H⟩:=H;simp only [PS];have e8:vals 8=.tuple #[.int .i64 id5,.nilIface]:=(by rw [← hv7];exact X8 (show [vals 7]=[vals 8] from h8));simp only [e8];clear h8;go_simp;first|exact ⟨⟨id5,by simp [e8],rfl⟩,HC⟩|exact ⟨⟨id5,rfl⟩,HC⟩|exact ⟨rfl,HC⟩|exact HC|exact ⟨⟨⟨id5,rfl⟩,rfl⟩,HC⟩|exact ⟨⟨id5,rfl,rfl⟩,HC⟩|fail "Z9"
  ·intro vals wx hd HC;simp only [GF] at hd;have h8:=hd;clear hd;have H:=HC;simp only [CA] at H;obtain ⟨X5,id5,hv7,hj5,H⟩:=H;simp only [PS];have e8:vals 8=.tuple #[.int .i64 id5,.nilIface]:=(by rw [← hv7];exact X8 (show [vals 7]=[vals 8] from h8));simp only [e8];clear h8;go_simp;first|exact ⟨⟨id5,by simp [e8],rfl⟩,HC⟩|exact ⟨⟨id5,rfl⟩,HC⟩|exact ⟨rfl,HC⟩|exact HC|exact ⟨⟨⟨id5,rfl⟩,rfl⟩,HC⟩|exact ⟨⟨id5,rfl,rfl⟩,HC⟩|fail "Z9"
  ·intro vals wx hd HC;simp only [GF] at hd;have h9:=hd;clear hd;have H:=HC;simp only [CA] at H;obtain ⟨X5,id5,hv7,hj5,H⟩:=H;simp only [PS];clear h9;go_simp;first|exact HC|exact ⟨rfl,HC⟩
  ·intro vals wx hd HC;simp only [GF] at hd;have h10:=hd;clear hd;have H:=HC;simp only [CA] at H;obtain ⟨X5,id5,hv7,hj5,H⟩:=H;simp only [PS];clear h10;go_simp;first|exact HC|exact ⟨rfl,HC⟩
  intro vals wx hd HC;have h7:=hd.2.2.2.2.2.2.2.1;have h8:=hd.2.2.2.2.2.2.2.2.1;have h9:=hd.2.2.2.2.2.2.2.2.2.1;have h10:=hd.2.2.2.2.2.2.2.2.2.2.1;have h11:=hd.2.2.2.2.2.2.2.2.2.2.2.1;have h12:=hd.2.2.2.2.2.2.2.2.2.2.2.2.1;simp only [CA] at HC;obtain ⟨X5,id5,hv7,hj5,H⟩:=HC;simp only [GF] at hd;simp only [PS,hd];clear hd;have e8:vals 8=.tuple #[.int .i64 id5,.nilIface]:=(by rw [← hv7];exact X8 (show [vals 7]=[vals 8] from h8));have e11:vals 11=.int .i64 id5:=by
   obtain ⟨q,q1,q2⟩:=(h9:∃ id:Nat,[vals 8]=[.tuple #[.int .i64 id,.nilIface]]∧vals 9=.int .i64 id)
   replace q1:[vals 8]=[Value.tuple #[.int .i64 q,.nilIface]]:=q1;rw [e8] at q1;simp only [Zq.injEq,and_true,Value.tuple.injEq,Array.mk.injEq,Value.int.injEq,true_and] at q1;rw [X8 (show [vals 9]=[vals 11] from h11),q2,q1]
  have e12:vals 12=.nilIface:=by
   obtain ⟨q,q1,q2⟩:=(h10:∃ id:Nat,[vals 8]=[.tuple #[.int .i64 id,.nilIface]]∧vals 10=.nilIface)
   rw [X8 (show [vals 10]=[vals 12] from h12),q2]
  simp only [hv7,e8,e11,e12];have HY:=zh hj5;clear hv7 e8 e11 e12 h7 h8 h9 h10 h11 h12 hj5;go_wp2_with (first|refine sL ?_|(refine sS ?_;clear H;intros;rename_i H)|(go_at_call 103;with_reducible refine zm (HR.out id5 _ (St.ho (H.pick2 (A:=blk bm (.cells #[.pointer (some ⟨X.p,0,none⟩),.map (some mp)] 138)) (B:=zP zb 26 mp (K.map zY)) pk pk).join _ zN)) ?_;rintro e9 wc ⟨rfl,hb⟩;replace H:=zn ((H.pick2 (A:=blk bm (.cells #[.pointer (some ⟨X.p,0,none⟩),.map (some mp)] 138)) (B:=zP zb 26 mp (K.map zY)) pk pk).join.call hb);clear hb));go_ret2;exact ⟨X5,K++[(x,id5)],0,rfl,.inl ⟨rfl,id5,rfl,HY.out.2.2.1⟩,HY.out.1,HY.out.2.1,HY.out.2.2.2,H.picks (.cons pk (.cons pk (.cons pk .nil)))⟩
 ·have hrb:rg<=1152921504606846976:=(by omega);have HRG:=zh (za hr1 hr2);rcases kn_dec rg K with ⟨y2,hy2⟩|hno
  case inr =>
   have HL2:Hid (∀ w,(zP zb 26 mp (K.map zY)).ho w->(Instr.lookup 136 (.map (some mp)) (.int .i64 (rg:Nat)) true).run zb w=.ok (.tuple #[.int .i64 0,.bool false]) w):=zh fun w h=>kn_out hrb hno true w h
   have HRF:Hid (Qc X.S x rg∧∀ q∈K,q.1≠rg):=zh ⟨⟨hr1,en,hx1,by rw [her];exact .inr rfl⟩,hno⟩;clear hX h1 h2 hK hn ht hroom hmost h hd hj hen hlw hx1 hxb HRUL her hlf hno hlb hlow hid1 hy1 htr hr1 hr2 hrb;go_enter Qd,Zu;go_wp2_with (first|refine sL ?_|(refine sS ?_;clear H;intros;rename_i H)|(go_at_call 53;with_reducible refine same (HS.out _ (H.get pk)) ?_)|(go_at_call 40;with_reducible refine zm (hW.out _ (H.get (A:=pA X) pk)) ?_;rintro e9 wc ⟨rfl,hb⟩;replace H:=H.grew hb.below;clear hb)|(go_at_call 68;with_reducible refine zm (HRU.out _ (H.get pk)) ?_;rintro e9 wc ⟨rfl,hb⟩;replace H:=H.grew hb.below;clear hb));rename_i br _ _ _ _;replace H:St w N [pA X,blk bm (.cells #[.pointer (some ⟨X.p,0,none⟩),.map (some mp)] 138),zP zb 26 mp (K.map zY),blk br (.cells #[.int .i64 2,.int .u8 lt,.int .i64 lf,.int .i64 rg,.int .i64 tm] 131)] _:=H.picks (.cons (A:=pA X) pk (.cons (A:=blk bm (.cells #[.pointer (some ⟨X.p,0,none⟩),.map (some mp)] 138)) pk (.cons (A:=zP zb 26 mp (K.map zY)) pk (.cons (A:=blk br (.cells #[.int .i64 2,.int .u8 lt,.int .i64 lf,.int .i64 rg,.int .i64 tm] 131)) pk .nil))));refine zM 12 [⟨[],fun v _=>v=.pointer (some ⟨bm,0,none⟩)⟩,⟨[0],fun v _=>v=.pointer (some ⟨bm,0,none⟩)⟩,⟨[1],fun v _=>v=.pointer (some ⟨bm,1,none⟩)⟩,⟨[2],fun v _=>v=.map (some mp)⟩,⟨[],fun v _=>v=.pointer (some ⟨br,2,none⟩)⟩,⟨[4],fun v _=>v=.int .i64 lf⟩,⟨[3,5],fun v _=>v=.tuple #[.int .i64 (y1:Nat),.bool true]⟩,⟨[6],fun v _=>v=.tuple #[.int .i64 (y1:Nat),.bool true]⟩,⟨[7],fun v _=>v=.int .i64 (y1:Nat)⟩,⟨[7],fun v _=>v=.bool true⟩,⟨[8],fun v _=>v=.int .i64 (y1:Nat)⟩,⟨[9],fun v _=>v=.bool true⟩] [] [[0],[0],[0],[0],[0],[0],[0],[0],[0],[0],[0],[0]] [fun _ wx=>St w N [pA X,blk bm (.cells #[.pointer (some ⟨X.p,0,none⟩),.map (some mp)] 138),zP zb 26 mp (K.map zY),blk br (.cells #[.int .i64 2,.int .u8 lt,.int .i64 lf,.int .i64 rg,.int .i64 tm] 131)] wx]
    [[],[(0,71)],[(1,72)],[(2,73)],[],[(4,75)],[(3,74),(5,76)],[(6,77)],[(7,70)],[(7,70)],[(8,78)],[(9,79)]] [(0,71),(1,72),(2,73),(3,74),(4,75),(5,76),(6,77),(7,70),(8,78),(9,79),(10,13),(11,14)] (by kernel_rfl) (by kernel_rfl) H.drew ⟨⟨qo,trivial⟩,⟨qo,trivial⟩,⟨qo,trivial⟩,⟨?_,trivial⟩,⟨qo,trivial⟩,⟨?_,trivial⟩,⟨?_,trivial⟩,⟨qo,trivial⟩,⟨qo,trivial⟩,⟨qo,trivial⟩,⟨qo,trivial⟩,⟨qo,trivial⟩,trivial⟩ ?_
   ·intro vals wx hd HC;simp only [GF] at hd;have H:=HC;simp only [CA] at H;simp only [PS,hd];refine StStep.celC rfl rfl rfl rfl (zV (H.get (A:=blk bm (.cells #[.pointer (some ⟨X.p,0,none⟩),.map (some mp)] 138)) pk) rfl) ⟨rfl,HC⟩
   ·intro vals wx hd HC;simp only [GF] at hd;have H:=HC;simp only [CA] at H;simp only [PS,hd];refine StStep.celC rfl rfl rfl rfl (zV (H.get (A:=blk br (.cells #[.int .i64 2,.int .u8 lt,.int .i64 lf,.int .i64 rg,.int .i64 tm] 131)) pk) rfl) ⟨rfl,HC⟩
   ·intro vals wx hd HC;simp only [GF] at hd;have H:=HC;simp only [CA] at H;simp only [PS,hd];refine StStep.lookC rfl rfl rfl rfl (HL1.out _ (H.get pk)) ⟨rfl,HC⟩
   intro vals wx hd HC;simp only [CA] at HC;have H:=HC;clear HC;simp only [GF] at hd;simp only [PS,hd];clear hd;go_wp2_with (first|refine sL ?_|(refine sS ?_;clear H;intros;rename_i H));replace H:St w N [pA X,blk bm (.cells #[.pointer (some ⟨X.p,0,none⟩),.map (some mp)] 138),zP zb 26 mp (K.map zY),blk br (.cells #[.int .i64 2,.int .u8 lt,.int .i64 lf,.int .i64 rg,.int .i64 tm] 131)] _:=H.picks (.cons (A:=pA X) pk (.cons (A:=blk bm (.cells #[.pointer (some ⟨X.p,0,none⟩),.map (some mp)] 138)) pk (.cons (A:=zP zb 26 mp (K.map zY)) pk (.cons (A:=blk br (.cells #[.int .i64 2,.int .u8 lt,.int .i64 lf,.int .i64 rg,.int .i64 tm] 131)) pk .nil))));refine zM 12 [⟨[],fun v _=>v=.pointer (some ⟨bm,0,none⟩)⟩,⟨[0],fun v _=>v=.pointer (some ⟨bm,0,none⟩)⟩,⟨[1],fun v _=>v=.pointer (some ⟨bm,1,none⟩)⟩,⟨[2],fun v _=>v=.map (some mp)⟩,⟨[],fun v _=>v=.pointer (some ⟨br,3,none⟩)⟩,⟨[4],fun v _=>v=.int .i64 rg⟩,⟨[3,5],fun v _=>v=.tuple #[.int .i64 0,.bool false]⟩,⟨[6],fun v _=>v=.tuple #[.int .i64 0,.bool false]⟩,⟨[7],fun v _=>v=.int .i64 0⟩,⟨[7],fun v _=>v=.bool false⟩,⟨[8],fun v _=>v=.int .i64 0⟩,⟨[9],fun v _=>v=.bool false⟩] [] [[0],[0],[0],[0],[0],[0],[0],[0],[0],[0],[0],[0]] [fun _ wx=>St w N [pA X,blk bm (.cells #[.pointer (some ⟨X.p,0,none⟩),.map (some mp)] 138),zP zb 26 mp (K.map zY),blk br (.cells #[.int .i64 2,.int .u8 lt,.int .i64 lf,.int .i64 rg,.int .i64 tm] 131)] wx]
    [[],[(0,104)],[(1,105)],[(2,106)],[],[(4,108)],[(3,107),(5,109)],[(6,110)],[(7,103)],[(7,103)],[(8,111)],[(9,112)]] [(0,104),(1,105),(2,106),(3,107),(4,108),(5,109),(6,110),(7,103),(8,111),(9,112),(10,17),(11,14)] (by kernel_rfl) (by kernel_rfl) H.drew ⟨⟨qo,trivial⟩,⟨qo,trivial⟩,⟨qo,trivial⟩,⟨?_,trivial⟩,⟨qo,trivial⟩,⟨?_,trivial⟩,⟨?_,trivial⟩,⟨qo,trivial⟩,⟨qo,trivial⟩,⟨qo,trivial⟩,⟨qo,trivial⟩,⟨qo,trivial⟩,trivial⟩ ?_
   ·intro vals wx hd HC;simp only [GF] at hd;have H:=HC;simp only [CA] at H;simp only [PS,hd];refine StStep.celC rfl rfl rfl rfl (zV (H.get (A:=blk bm (.cells #[.pointer (some ⟨X.p,0,none⟩),.map (some mp)] 138)) pk) rfl) ⟨rfl,HC⟩
   ·intro vals wx hd HC;simp only [GF] at hd;have H:=HC;simp only [CA] at H;simp only [PS,hd];refine StStep.celC rfl rfl rfl rfl (zV (H.get (A:=blk br (.cells #[.int .i64 2,.int .u8 lt,.int .i64 lf,.int .i64 rg,.int .i64 tm] 131)) pk) rfl) ⟨rfl,HC⟩
   ·intro vals wx hd HC;simp only [GF] at hd;have H:=HC;simp only [CA] at H;simp only [PS,hd];refine StStep.lookC rfl rfl rfl rfl (HL2.out _ (H.get pk)) ⟨rfl,HC⟩
   intro vals wx hd HC;simp only [CA] at HC;have H:=HC;clear HC;simp only [GF] at hd;simp only [PS,hd];clear hd;go_wp2_with (first|refine sL ?_|(refine sS ?_;clear H;intros;rename_i H));go_ret2;exact ⟨X,K,rg,rfl,.inr ⟨rfl,rfl,HRF.out.1,HLOW.out,HRF.out.2⟩,.refl _,HXX.out,Nat.le_add_right _ _,H.picks (.cons pk (.cons pk (.cons pk .nil)))⟩
  have HL2:Hid (∀ w,(zP zb 26 mp (K.map zY)).ho w->(Instr.lookup 136 (.map (some mp)) (.int .i64 (rg:Nat)) true).run zb w=.ok (.tuple #[.int .i64 (y2:Nat),.bool true]) w):=zh fun w h=>kn_in hX.ok hrb hK hy2 true w h
  have hid2:=(hK _ hy2).2.2;simp only at hid2;have hHN:=HTN.out;have hsl:((X.S.tr lf).txt.map Tr.leaf).length=(X.S.tr lf).len:=(by rw [qd,Tr.txt_len]);have hsr:((X.S.tr rg).txt.map Tr.leaf).length=(X.S.tr rg).len:=(by rw [qd,Tr.txt_len]);have hlen:(X.S.tr lf).len+(X.S.tr rg).len=n:=(by rw [← hHN.2,htr];rfl);have htx:(X.S.tr x).txt.map Tr.leaf=(X.S.tr lf).txt.map Tr.leaf++(X.S.tr rg).txt.map Tr.leaf:=(by rw [htr];simp [Tr.txt]);have hown:vl (X.S.tr x)=n:=by
   unfold vl;rw [if_neg hlow,htr];simp only;rw [← htr,hHN.2]
  have HJN:Hid (∀ w,((pA X).sep deA).ho w->Calls zb 105 #[.pointer (some ⟨X.p,0,none⟩),.int .i64 (y1:Nat),.int .i64 (y2:Nat)] w (kP X ((X.S.tr x).txt.map Tr.leaf) (vl (X.S.tr x)) (pA X).fp w)):=zh fun w h=>by
   have:=joinE_c (a:=y1) (b:=y2) hX hid1 hid2 (by rw [hsl,hsr];omega) (by rw [hsl,hsr];omega) w h;rw [hsl,hsr,hlen,← htx] at this;rw [hown];exact this
  clear hX h1 h2 hK hn ht hroom hmost h hd hj hen hlw hx1 hxb HRUL her hlf hlb hlow hid1 hid2 hy1 hy2 htr hlen hHN hsl hsr htx hown hr1 hr2 hrb;go_enter Qd,Zu;go_wp2_with (first|refine sL ?_|(refine sS ?_;clear H;intros;rename_i H)|(go_at_call 53;with_reducible refine same (HS.out _ (H.get pk)) ?_)|(go_at_call 40;with_reducible refine zm (hW.out _ (H.get (A:=pA X) pk)) ?_;rintro e9 wc ⟨rfl,hb⟩;replace H:=H.grew hb.below;clear hb)|(go_at_call 68;with_reducible refine zm (HRU.out _ (H.get pk)) ?_;rintro e9 wc ⟨rfl,hb⟩;replace H:=H.grew hb.below;clear hb));rename_i br _ _ _ _;replace H:St w N [pA X,blk bm (.cells #[.pointer (some ⟨X.p,0,none⟩),.map (some mp)] 138),zP zb 26 mp (K.map zY),blk br (.cells #[.int .i64 2,.int .u8 lt,.int .i64 lf,.int .i64 rg,.int .i64 tm] 131)] _:=H.picks (.cons (A:=pA X) pk (.cons (A:=blk bm (.cells #[.pointer (some ⟨X.p,0,none⟩),.map (some mp)] 138)) pk (.cons (A:=zP zb 26 mp (K.map zY)) pk (.cons (A:=blk br (.cells #[.int .i64 2,.int .u8 lt,.int .i64 lf,.int .i64 rg,.int .i64 tm] 131)) pk .nil))));refine zM 12 [⟨[],fun v _=>v=.pointer (some ⟨bm,0,none⟩)⟩,⟨[0],fun v _=>v=.pointer (some ⟨bm,0,none⟩)⟩,⟨[1],fun v _=>v=.pointer (some ⟨bm,1,none⟩)⟩,⟨[2],fun v _=>v=.map (some mp)⟩,⟨[],fun v _=>v=.pointer (some ⟨br,2,none⟩)⟩,⟨[4],fun v _=>v=.int .i64 lf⟩,⟨[3,5],fun v _=>v=.tuple #[.int .i64 (y1:Nat),.bool true]⟩,⟨[6],fun v _=>v=.tuple #[.int .i64 (y1:Nat),.bool true]⟩,⟨[7],fun v _=>v=.int .i64 (y1:Nat)⟩,⟨[7],fun v _=>v=.bool true⟩,⟨[8],fun v _=>v=.int .i64 (y1:Nat)⟩,⟨[9],fun v _=>v=.bool true⟩] [] [[0],[0],[0],[0],[0],[0],[0],[0],[0],[0],[0],[0]] [fun _ wx=>St w N [pA X,blk bm (.cells #[.pointer (some ⟨X.p,0,none⟩),.map (some mp)] 138),zP zb 26 mp (K.map zY),blk br (.cells #[.int .i64 2,.int .u8 lt,.int .i64 lf,.int .i64 rg,.int .i64 tm] 131)] wx]
   [[],[(0,71)],[(1,72)],[(2,73)],[],[(4,75)],[(3,74),(5,76)],[(6,77)],[(7,70)],[(7,70)],[(8,78)],[(9,79)]] [(0,71),(1,72),(2,73),(3,74),(4,75),(5,76),(6,77),(7,70),(8,78),(9,79),(10,13),(11,14)] (by kernel_rfl) (by kernel_rfl) H.drew ⟨⟨qo,trivial⟩,⟨qo,trivial⟩,⟨qo,trivial⟩,⟨?_,trivial⟩,⟨qo,trivial⟩,⟨?_,trivial⟩,⟨?_,trivial⟩,⟨qo,trivial⟩,⟨qo,trivial⟩,⟨qo,trivial⟩,⟨qo,trivial⟩,⟨qo,trivial⟩,trivial⟩ ?_
  ·intro vals wx hd HC;simp only [GF] at hd;have H:=HC;simp only [CA] at H;simp only [PS,hd];refine StStep.celC rfl rfl rfl rfl (zV (H.get (A:=blk bm (.cells #[.pointer (some ⟨X.p,0,none⟩),.map (some mp)] 138)) pk) rfl) ⟨rfl,HC⟩
  ·intro vals wx hd HC;simp only [GF] at hd;have H:=HC;simp only [CA] at H;simp only [PS,hd];refine StStep.celC rfl rfl rfl rfl (zV (H.get (A:=blk br (.cells #[.int .i64 2,.int .u8 lt,.int .i64 lf,.int .i64 rg,.int .i64 tm] 131)) pk) rfl) ⟨rfl,HC⟩
  ·intro vals wx hd HC;simp only [GF] at hd;have H:=HC;simp only [CA] at H;simp only [PS,hd];refine StStep.lookC rfl rfl rfl rfl (HL1.out _ (H.get pk)) ⟨rfl,HC⟩
  intro vals wx hd HC;simp only [CA] at HC;have H:=HC;clear HC;simp only [GF] at hd;simp only [PS,hd];clear hd;go_wp2_with (first|refine sL ?_|(refine sS ?_;clear H;intros;rename_i H));replace H:St w N [pA X,blk bm (.cells #[.pointer (some ⟨X.p,0,none⟩),.map (some mp)] 138),zP zb 26 mp (K.map zY),blk br (.cells #[.int .i64 2,.int .u8 lt,.int .i64 lf,.int .i64 rg,.int .i64 tm] 131)] _:=H.picks (.cons (A:=pA X) pk (.cons (A:=blk bm (.cells #[.pointer (some ⟨X.p,0,none⟩),.map (some mp)] 138)) pk (.cons (A:=zP zb 26 mp (K.map zY)) pk (.cons (A:=blk br (.cells #[.int .i64 2,.int .u8 lt,.int .i64 lf,.int .i64 rg,.int .i64 tm] 131)) pk .nil))));refine zM 12 [⟨[],fun v _=>v=.pointer (some ⟨bm,0,none⟩)⟩,⟨[0],fun v _=>v=.pointer (some ⟨bm,0,none⟩)⟩,⟨[1],fun v _=>v=.pointer (some ⟨bm,1,none⟩)⟩,⟨[2],fun v _=>v=.map (some mp)⟩,⟨[],fun v _=>v=.pointer (some ⟨br,3,none⟩)⟩,⟨[4],fun v _=>v=.int .i64 rg⟩,⟨[3,5],fun v _=>v=.tuple #[.int .i64 (y2:Nat),.bool true]⟩,⟨[6],fun v _=>v=.tuple #[.int .i64 (y2:Nat),.bool true]⟩,⟨[7],fun v _=>v=.int .i64 (y2:Nat)⟩,⟨[7],fun v _=>v=.bool true⟩,⟨[8],fun v _=>v=.int .i64 (y2:Nat)⟩,⟨[9],fun v _=>v=.bool true⟩] [] [[0],[0],[0],[0],[0],[0],[0],[0],[0],[0],[0],[0]] [fun _ wx=>St w N [pA X,blk bm (.cells #[.pointer (some ⟨X.p,0,none⟩),.map (some mp)] 138),zP zb 26 mp (K.map zY),blk br (.cells #[.int .i64 2,.int .u8 lt,.int .i64 lf,.int .i64 rg,.int .i64 tm] 131)] wx]
   [[],[(0,104)],[(1,105)],[(2,106)],[],[(4,108)],[(3,107),(5,109)],[(6,110)],[(7,103)],[(7,103)],[(8,111)],[(9,112)]] [(0,104),(1,105),(2,106),(3,107),(4,108),(5,109),(6,110),(7,103),(8,111),(9,112),(10,17),(11,14)] (by kernel_rfl) (by kernel_rfl) H.drew ⟨⟨qo,trivial⟩,⟨qo,trivial⟩,⟨qo,trivial⟩,⟨?_,trivial⟩,⟨qo,trivial⟩,⟨?_,trivial⟩,⟨?_,trivial⟩,⟨qo,trivial⟩,⟨qo,trivial⟩,⟨qo,trivial⟩,⟨qo,trivial⟩,⟨qo,trivial⟩,trivial⟩ ?_
  ·intro vals wx hd HC;simp only [GF] at hd;have H:=HC;simp only [CA] at H;simp only [PS,hd];refine StStep.celC rfl rfl rfl rfl (zV (H.get (A:=blk bm (.cells #[.pointer (some ⟨X.p,0,none⟩),.map (some mp)] 138)) pk) rfl) ⟨rfl,HC⟩
  ·intro vals wx hd HC;simp only [GF] at hd;have H:=HC;simp only [CA] at H;simp only [PS,hd];refine StStep.celC rfl rfl rfl rfl (zV (H.get (A:=blk br (.cells #[.int .i64 2,.int .u8 lt,.int .i64 lf,.int .i64 rg,.int .i64 tm] 131)) pk) rfl) ⟨rfl,HC⟩
  ·intro vals wx hd HC;simp only [GF] at hd;have H:=HC;simp only [CA] at H;simp only [PS,hd];refine StStep.lookC rfl rfl rfl rfl (HL2.out _ (H.get pk)) ⟨rfl,HC⟩
  intro vals wx hd HC;simp only [CA] at HC;have H:=HC;clear HC;simp only [GF] at hd;simp only [PS,hd];clear hd;go_wp2_with (first|refine sL ?_|(refine sS ?_;clear H;intros;rename_i H)|(go_at_call 105;with_reducible refine zm (HJN.out _ (H.sepK HK pk pk)) ?_;rintro e9 wc ⟨X5,id5,rfl,y1,y2,y3,y4,hb⟩;have HY:=zh (za y1 (za y2 (za y3 y4)));clear y1 y2 y3 y4;replace H:=zn ((H.pick pk).call hb);clear hb)|(go_at_call 103;with_reducible refine zm (HR.out id5 _ (St.ho (H.pick2 (A:=blk bm (.cells #[.pointer (some ⟨X.p,0,none⟩),.map (some mp)] 138)) (B:=zP zb 26 mp (K.map zY)) pk pk).join _ zN)) ?_;rintro e9 wc ⟨rfl,hb⟩;replace H:=zn ((H.pick2 (A:=blk bm (.cells #[.pointer (some ⟨X.p,0,none⟩),.map (some mp)] 138)) (B:=zP zb 26 mp (K.map zY)) pk pk).join.call hb);clear hb));go_ret2;exact ⟨X5,K++[(x,id5)],0,rfl,.inl ⟨rfl,id5,rfl,HY.out.2.2.1⟩,HY.out.1,HY.out.2.1,HY.out.2.2.2,H.picks (.cons pk (.cons pk (.cons pk .nil)))⟩
end
section
open Go.RowKit Go.Maps
attribute [local go_sem] qt yq
theorem asc_len:∀ {l:List Nat} {lo x:Nat},lo<=x->l.Pairwise (· < ·)->(∀ p∈l,lo<p∧p<=x)->l.length+lo<=x
 |[],lo,x,h,_,_=>by simpa using h
 |p::l,lo,x,h,hp,hr=>by
  have h1:=hr p (by simp);have hp2:=qu.1 hp;have:=asc_len (l:=l) (lo:=p) (x:=x) h1.2 hp2.2 fun q hq=>⟨hp2.1 q hq,(hr q (by simp [hq])).2⟩
  simp only [zw];omega
def kys (K:List (Nat×Nat)):List Nat:=K.map (·.1)
theorem kys_in {K:List (Nat×Nat)} {x:Nat}:x∈kys K↔∃ y,(x,y)∈K:=by
 unfold kys;constructor
 ·intro h;obtain ⟨q,hq,e⟩:=qY.1 h;exact ⟨q.2,by rw [← e];exact hq⟩
 ·rintro ⟨y,h⟩;exact qY.2 ⟨_,h,rfl⟩
theorem kys_no {K:List (Nat×Nat)} {x:Nat} (h:∀ q∈K,q.1≠x):x ∉ kys K:=fun hx=>by
 obtain ⟨y,hy⟩:=kys_in.1 hx;exact h _ hy rfl
theorem kys_no' {K:List (Nat×Nat)} {x:Nat} (h:x ∉ kys K):∀ q∈K,q.1≠x:=fun q hq e=>h (kys_in.2 ⟨q.2,by rw [← e];exact hq⟩)
theorem Wl {K K':List (Nat×Nat)} (h:∀ q∈K,q∈K'):∀ c∈kys K,c∈kys K':=fun c hc=>by
 obtain ⟨y,hy⟩:=kys_in.1 hc;exact kys_in.2 ⟨y,h _ hy⟩
theorem ref_lt {S:Sto} (hS:S.Ok) {p c:Nat} (h1:1<=p) (h2:p<=S.list.length) (h:Qc S p c):c<p∧(S.tr c).len<=(S.tr p).len:=by
 obtain ⟨hc,e,he,h3⟩:=h;obtain ⟨i,rfl⟩:∃ i,p=i+1:=⟨p-1,by omega⟩
 rw [xC] at he;cases xh hS he with
 |letter b hb hr hw ht=>rw [hr] at h3;simp at h3;omega
 |pair l r y z hl hr hy hz hx hw hs ht =>
  rw [hx] at h3;simp only at h3;have e2:(S.tr (i+1)).len=(S.tr (l+1)).len+(S.tr (r+1)).len:=(by rw [ht];rfl);rcases h3 with rfl|rfl <;> exact ⟨by omega,by omega⟩
 |pow l k y hl hy hk hx hw hs ht =>
  rw [hx] at h3;simp only at h3;have e2:(S.tr (i+1)).len=(S.tr (l+1)).len*k:=(by rw [ht];rfl);rcases h3 with rfl|rfl
  ·exact ⟨by omega,by rw [e2];exact jg _ (by omega)⟩
  ·omega
theorem ref_back {S S':Sto} (hl:S.Le S') {p c:Nat} (h1:1<=p) (h2:p<=S.list.length) (h:Qc S' p c):Qc S p c:=by
 obtain ⟨hc,e,he,h3⟩:=h;refine ⟨hc,e,?_,h3⟩;obtain ⟨_,l,e2⟩:=hl;rw [e2,qv (by omega)] at he;exact he
structure OfFx (X:Px) (x n0:Nat) (K:List (Nat×Nat)) (X2:Px) (K2:List (Nat×Nat)) (st:List Nat):Prop where
 asc:st.Pairwise (· < ·)
 rng:∀ p∈st,1<=p∧p<=x∧(X.S.tr p).len<=300
 unk:∀ p∈st.tail,p ∉ kys K2
 top:x∈st∨x∈kys K2
 kn:KnOk X2.S K2
 ext:X.Ext X2
 ok:zK X2
 inc:∀ q∈K,q∈K2
 pot:X2.S.list.length+Pot X.S (kys K2) st<=X.S.list.length+Pot X.S (kys K) [x]
 acc:X2.S.list.length+1200*vo n0 (kys K2)<=X.S.list.length+1200*vo n0 (kys K)
def stM (x:Nat) (Q st:List Nat):Nat:=3*vo x Q+(match st with|p::_=>if p∈Q then 2 else 0|[]=>0)+(x+2-st.length)
section
variable {X X2 X3:Px} {x n0 p c y:Nat} {K K2:List (Nat×Nat)} {st r:List Nat}
theorem OfFx.len (h:OfFx X x n0 K X2 K2 st):st.length<=x:=by
 have:=asc_len (qy x) h.asc fun p hp=>⟨(h.rng p hp).1,(h.rng p hp).2.1⟩
 omega
theorem OfFx.start (hX:zK X) (h1:1<=x) (h2:x<=X.S.list.length) (ht:(X.S.tr x).len<=300) (hK:KnOk X.S K):OfFx X x n0 K X K [x] :=
 ⟨by simp,by simpa using ⟨h1,ht⟩,by simp,.inl (by simp),hK,.refl _,hX,fun q hq=>hq,zr _,zr _⟩
theorem OfFx.pop (h:OfFx X x n0 K X2 K2 (p::r)) (hp:p∈kys K2):OfFx X x n0 K X2 K2 r∧stM x (kys K2) r<stM x (kys K2) (p::r):=by
 have hl:=h.len;refine ⟨⟨(qu.1 h.asc).2,fun q hq=>h.rng q (by simp [hq]),fun q hq=>h.unk q (by simp only [List.tail_cons];exact List.mem_of_mem_tail hq),?_,h.kn,h.ext,h.ok,h.inc,by have:=h.pot;have:=pot_pop (S:=X.S) (Q:=kys K2) (r:=r) hp;omega,h.acc⟩,?_⟩
 ·rcases h.top with h1|h1
  ·rcases zL.1 h1 with rfl|h1
   ·exact .inr hp
   ·exact .inl h1
  ·exact .inr h1
 ·unfold stM;have hr:(match r with|q::_=>if q∈kys K2 then 2 else 0|[]=>0)=0:=by
   cases r with
   |nil=>rfl
   |cons q r=>simp only;rw [if_neg (h.unk q (by simp))]
  rw [hr];simp only [zw] at hl ⊢;rw [if_pos hp];omega
theorem OfFx.push (hX:zK X) (h2:x<=X.S.list.length) (h:OfFx X x n0 K X2 K2 (p::r)) (hp:p ∉ kys K2) (hl:¬ (X.S.tr p).len<=256) (hr:Qc X.S p c) (hc:c ∉ kys K2):OfFx X x n0 K X2 K2 (c::p::r)∧stM x (kys K2) (c::p::r)<stM x (kys K2) (p::r):=by
 have hlen:=h.len;have hpr:=h.rng p (by simp);have hlt:=ref_lt hX.ok hpr.1 (by omega) hr;have hps:=qu.1 h.asc;refine ⟨⟨qu.2 ⟨fun q hq=>?_,h.asc⟩,fun q hq=>?_,fun q hq=>?_,?_,h.kn,h.ext,h.ok,h.inc,?_,h.acc⟩,?_⟩
 ·rcases zL.1 hq with rfl|hq
  ·exact hlt.1
  ·have:=hps.1 q hq;omega
 ·rcases zL.1 hq with rfl|hq
  ·exact ⟨hr.1,by omega,by omega⟩
  ·exact h.rng q hq
 ·simp only [List.tail_cons] at hq;rcases zL.1 hq with rfl|hq
  ·exact hp
  ·exact h.unk q (by simpa using hq)
 ·rcases h.top with h1|h1
  ·exact .inl (qT _ h1)
  ·exact .inr h1
 ·have h3:=h.pot;have h4:=pot_push hX.ok (r:=r) hp hl hr hc (by omega);omega
 ·unfold stM;simp only [zw] at hlen ⊢;rw [if_neg hp,if_neg hc];omega
theorem OfFx.learn (hX:zK X) (h2:x<=X.S.list.length) (hx0:x<=n0) (h:OfFx X x n0 K X2 K2 (p::r)) (hp:p ∉ kys K2) (hE:X2.Ext X3) (hO:zK X3) (hid:IdIs X3.S y ((X2.S.tr p).txt.map Tr.leaf)) (hsz:X3.S.list.length<=X2.S.list.length+vl (X2.S.tr p)):OfFx X x n0 K X3 (K2++[(p,y)]) (p::r)∧stM x (kys (K2++[(p,y)])) (p::r)<stM x (kys K2) (p::r):=by
 have hlen:=h.len;have hpr:=h.rng p (by simp);have hinc:∀ c∈kys K2,c∈kys (K2++[(p,y)]):=Wl fun q hq=>zl.2 (.inl hq)
 have hin:p∈kys (K2++[(p,y)]):=kys_in.2 ⟨y,by simp⟩;have htr:X2.S.tr p=X.S.tr p:=h.ext.le.tr hX.ok hpr.1 (by omega);have htr3:X3.S.tr p=X2.S.tr p:=hE.le.tr h.ok.ok hpr.1 (by have:=h.ext.le.len;omega);rw [htr] at hsz;have hps:=qu.1 h.asc;have hu1:=J1 (n:=x) hinc hpr.2.1 hp hin;have hu2:=J1 (n:=n0) hinc (by omega) hp hin;refine ⟨⟨h.asc,h.rng,fun q hq=>?_,?_,fun q hq=>?_,h.ext.trans hE,hO,fun q hq=>zl.2 (.inl (h.inc q hq)),?_,?_⟩,?_⟩
 ·simp only [List.tail_cons] at hq;intro hk;obtain ⟨z,hz⟩:=kys_in.1 hk;rcases zl.1 hz with hz|hz
  ·exact h.unk q (by simpa using hq) (kys_in.2 ⟨z,hz⟩)
  ·simp at hz;have:=hps.1 q hq;omega
 ·rcases h.top with h1|h1
  ·exact .inl h1
  ·exact .inr (hinc _ h1)
 ·rcases zl.1 hq with hq|hq
  ·exact h.kn.le h.ok.ok hE.le q hq
  ·simp at hq;subst hq;refine ⟨hpr.1,by have:=h.ext.le.len;have:=hE.le.len;simp only;omega,?_⟩;rw [htr3];exact hid
 ·have h3:=h.pot;have h4:=pot_learn (S:=X.S) (r:=r) hp hinc hin;omega
 ·have h3:=h.acc;have h5:=ownT_le hpr.2.2;omega
 ·unfold stM;simp only;rw [if_pos hin,if_neg hp];omega
end
def OfRelG (X:Px) (x n0:Nat) (K:List (Nat×Nat)) (N:List Nat) (w:World) (bm mp:Nat) (m:Nat) (v6:Value) (wr:World):Prop :=
 ∃ (X2:Px) (K2:List (Nat×Nat)) (st:List Nat),m=stM x (kys K2) st∧OfFx X x n0 K X2 K2 st∧St w N [pA X2,blk bm (.cells #[.pointer (some ⟨X.p,0,none⟩),.map (some mp)] 138),zP zb 26 mp (K2.map zY),zc qE 26 1 v6 st.reverse] wr
abbrev OfGPost2 (X:Px) (x n0:Nat) (K:List (Nat×Nat)) (bm mp:Nat) (N:List Nat) (w:World) (e:Ending) (w':World):Prop :=
 ∃ (X':Px) (K':List (Nat×Nat)) (y:Nat),e=.returned (.tuple #[.int .i64 y,.nilIface])∧X.Ext X'∧zK X'∧KnOk X'.S K'∧IdIs X'.S y ((X.S.tr x).txt.map Tr.leaf)∧(∀ q∈K,q∈K')∧X'.S.list.length<=X.S.list.length+Pot X.S (kys K) [x]∧x∈kys K'∧X'.S.list.length+1200*vo n0 (kys K')<=X.S.list.length+1200*vo n0 (kys K)∧St w N [pA X',blk bm (.cells #[.pointer (some ⟨X.p,0,none⟩),.map (some mp)] 138),zP zb 26 mp (K'.map zY)] w'
theorem of_g2 {X:Px} {bm mp x n0:Nat} {K:List (Nat×Nat)} (hX:zK X) (h1:1<=x) (h2:x<=X.S.list.length) (hx0:x<=n0) (hK:KnOk X.S K) (ht:(X.S.tr x).len<=300) (hroom:X.S.list.length+wC (X.S.tr x)+1300<X.S.most) (hmost:X.S.most<=1048576) (w:World) (h:((pA X).sep ((blk bm (.cells #[.pointer (some ⟨X.p,0,none⟩),.map (some mp)] 138)).sep (zP zb 26 mp (K.map zY)))).ho w) (hd:(((pA X).sep ((blk bm (.cells #[.pointer (some ⟨X.p,0,none⟩),.map (some mp)] 138)).sep (zP zb 26 mp (K.map zY)))).sep deA).ho w) :
  Calls zb 35 #[.pointer (some ⟨bm,0,none⟩),.int .i64 (x:Nat)] w (OfGPost2 X x n0 K bm mp ((pA X).sep ((blk bm (.cells #[.pointer (some ⟨X.p,0,none⟩),.map (some mp)] 138)).sep (zP zb 26 mp (K.map zY)))).fp w):=by
 have H:=((St.one h).sep.pick (A:=(blk bm (.cells #[.pointer (some ⟨X.p,0,none⟩),.map (some mp)] 138)).sep (zP zb 26 mp (K.map zY))) pk).sep;rw [qz] at hd;have HK:Ks w ((pA X).sep ((blk bm (.cells #[.pointer (some ⟨X.p,0,none⟩),.map (some mp)] 138)).sep (zP zb 26 mp (K.map zY)))).fp [deA]:=⟨by simpa using hd.2.1,by simpa using fun b hb hm=>hd.2.2 b hm hb⟩
 generalize ((pA X).sep ((blk bm (.cells #[.pointer (some ⟨X.p,0,none⟩),.map (some mp)] 138)).sep (zP zb 26 mp (K.map zY)))).fp=N at H HK ⊢;have HLN:Hid (∀ (X2:Px) (K2:List (Nat×Nat)) (p:Nat) (r:List Nat),OfFx X x n0 K X2 K2 (p::r)->p ∉ kys K2->∀ w,((pA X2).sep ((blk bm (.cells #[.pointer (some ⟨X.p,0,none⟩),.map (some mp)] 138)).sep (zP zb 26 mp (K2.map zY)))).ho w->(((pA X2).sep ((blk bm (.cells #[.pointer (some ⟨X.p,0,none⟩),.map (some mp)] 138)).sep (zP zb 26 mp (K2.map zY)))).sep deA).ho w->Calls zb 71 #[.pointer (some ⟨bm,0,none⟩),.int .i64 (p:Nat)] w fun e w'=>∃ (X':Px) (K':List (Nat×Nat)) (c:Nat),e=.returned (.tuple #[.int .i64 c,.nilIface])∧((c=0∧∃ y,K'=K2++[(p,y)]∧IdIs X'.S y ((X2.S.tr p).txt.map Tr.leaf))∨(X'=X2∧K'=K2∧Qc X2.S p c∧¬ (X2.S.tr p).len<=256∧∀ q∈K2,q.1≠c))∧X2.Ext X'∧zK X'∧X'.S.list.length<=X2.S.list.length+vl (X2.S.tr p)∧St w ((pA X2).sep ((blk bm (.cells #[.pointer (some ⟨X.p,0,none⟩),.map (some mp)] 138)).sep (zP zb 26 mp (K2.map zY)))).fp [pA X',blk bm (.cells #[.pointer (some ⟨X.p,0,none⟩),.map (some mp)] 138),zP zb 26 mp (K'.map zY)] w'):=zh fun X2 K2 p r q1 q2 w h hd=>by
  have hpr:=q1.rng p (by simp);have htr:X2.S.tr p=X.S.tr p:=q1.ext.le.tr hX.ok hpr.1 (by omega);have hp:=q1.pot;have hps:=JL hX.ok (Q:=kys K) h1 h2;have hm:=q1.ext.le.1;have hle:=q1.ext.le.len;have:=learn_g (X:=X2) (bm:=bm) (mp:=mp) (x:=p) (K:=K2) q1.ok hpr.1 (by omega) q1.kn (kys_no' q2) (by rw [htr];exact hpr.2.2) (by omega) (by omega) w (by rw [q1.ext.p];exact h) (by rw [q1.ext.p];exact hd);rw [q1.ext.p] at this;exact this
 have HS:Hid (∀ w,(pA X).ho w->Calls zb 53 #[.pointer (some ⟨X.p,0,none⟩)] w fun e w'=>e=.returned (.pointer (some ⟨X.s,0,none⟩))∧w'=w):=zh fun w h=>jH w h
 have HLE:Hid (∀ w,(pA X).ho w->Calls zb 38 #[.pointer (some ⟨X.s,0,none⟩)] w fun e w'=>e=.returned (.int .i64 (X.S.list.length:Nat))∧w'=w):=zh fun w h=>Wp w (jh h)
 obtain ⟨ln,hln⟩:∃ k,X.S.list.length=k:=⟨_,rfl⟩
 rw [hln] at HLE;have HIN:Hid (zK X∧1<=x∧x<=X.S.list.length∧x<=n0∧X.S.list.length<=1048576):=zh ⟨hX,h1,h2,hx0,by omega⟩;have HST:Hid (OfFx X x n0 K X K [x]):=zh (.start hX h1 h2 ht hK);have d1:decide ((x:Int)<0)=false:=(by simp);have d2:decide ((ln:Int)<(x:Int))=false:=(by simp;omega);have d2n:decide (ln<x)=false:=(by simp;omega);have d3:((x:Int)==0)=false:=(by simp;omega);have hxb:x<=1048576:=(by omega);clear hX h1 h2 hK ht hroom hmost h hd hln hx0;go_enter Tryz.func35,Tryz.ntmps35;go_wp2_with (first|refine sL ?_|(refine sS ?_;clear H;intros;rename_i H)|(go_at_call 53;with_reducible refine same (HS.out _ (H.get pk)) ?_)|(go_at_call 38;with_reducible refine same (HLE.out _ (H.get pk)) ?_)|((with_reducible refine qV ?_);refine AtSlice.one H rfl rfl rfl rfl rfl rfl rfl rfl rfl ?_;clear H;intro b9 _ H;simp only [Act.put,puA,puB,puC]));replace H:=ZD (enc:=qE) (k:=1) (n:=1) (c:=1) (xs:=[x]) ya (H.pick (A:=blk b9 (.cells #[.int .i64 (x:Nat)] 26)) pk) (zr _) (by simp [maxLen]) rfl rfl rfl;go_loopg [6] (stM x (kys K) [x]) (fun m v6 wr=>OfRelG X x n0 K N w bm mp m v6 wr);case atStart=>exact ⟨X,K,[x],rfl,HST.out,H.picks (.cons pk (.cons pk (.cons pk (.cons pk .nil))))⟩
 case round =>
  clear H;obtain ⟨X2,K2,st,rfl,hfx,H⟩:=hrel;have HFX:=zh hfx;cases st with
  |nil =>
   obtain ⟨ad,cp,rfl,_⟩:=zE (H.get (A:=zc qE 26 1 _ ([]:List Nat).reverse) pk);have hx2:x∈kys K2:=by
    rcases hfx.top with h|h
    ·simp at h
    ·exact h
   obtain ⟨y,hy⟩:=kys_in.1 hx2;have hlk:=kn_in hfx.ok.ok (by omega) hfx.kn hy false _ (H.get (A:=zP zb 26 mp (K2.map zY)) pk);simp only [xA,if_false] at hlk;have HY:=zh hy;simp only [List.reverse_nil,zC] at H ⊢;clear hfx hx2 hy;go_wp2_with (first|refine sL ?_|(refine sS ?_;clear H;intros;rename_i H));go_ret2;have h3:=HFX.out;have h4:=HIN.out;obtain ⟨k1,k2,k3⟩:=h3.kn _ HY.out;simp only at k3;rw [h3.ext.le.tr h4.1.ok h4.2.1 h4.2.2.1] at k3;exact ⟨X2,K2,y,rfl,h3.ext,h3.ok,h3.kn,k3,h3.inc,by have:=h3.pot;omega,kys_in.2 ⟨y,HY.out⟩,h3.acc,H.picks (.cons pk (.cons pk (.cons pk .nil)))⟩
  |cons p r =>
   have hpr:=hfx.rng p (by simp);have hlen:=hfx.len;rw [ke] at H;obtain ⟨k,hk⟩:∃ k,r.length=k:=⟨_,rfl⟩
   have hrl:(r.reverse++[p]).length=k+1:=(by simp [hk]);obtain ⟨g,cp,e1,hc1,hc2⟩:=q8 (H.get (A:=zc qE 26 1 _ (r.reverse++[p])) pk) (by simp);rw [hrl] at e1 hc1;subst e1;have hk9:k<=1048576:=(by simp only [zw,hk] at hlen;omega);have HC:Hid (∀ w,(zc qE 26 1 (.slice (some ⟨g,0,none⟩) (k+1) cp) (r.reverse++[p])).ho w->w.cell? ⟨g,k,none⟩=some (.int .i64 (p:Nat))):=zh fun w h=>by
    have:=qj h ya (i:=k) (x:=p) (by rw [yd (by simp [hk])];simp [hk]) (j:=0) rfl;simpa using this
   have HRL:=zh (za hrl hk);rcases kn_dec p K2 with ⟨y,hy⟩|hno
   ·have hlk:=kn_in hfx.ok.ok (by omega) hfx.kn hy true _ (H.get (A:=zP zb 26 mp (K2.map zY)) pk);simp only [if_true] at hlk;have HPOP:=zh (hfx.pop (kys_in.2 ⟨y,hy⟩));clear hfx hy hrl hlen hpr;go_wp2_with (first|refine sL ?_|(refine sS ?_;clear H;intros;rename_i H));replace H:=(H.pick (A:=zc qE 26 1 (.slice (some ⟨g,0,none⟩) (k+1) cp) (r.reverse++[p])) pk).cut ya (n:=k) (by rw [List.length_reverse];exact hk);go_roundg (stM x (kys K2) r);case measure=>exact HPOP.out.2
    case rel=>exact ⟨X2,K2,r,rfl,HPOP.out.1,H.picks (.cons pk (.cons pk (.cons pk (.cons pk .nil))))⟩
   ·have hlk:=kn_out (x:=p) (by omega) hno true _ (H.get (A:=zP zb 26 mp (K2.map zY)) pk);simp only [if_true] at hlk;have HNO:=zh (kys_no hno);clear hfx hno hrl hlen;go_wp2_with (first|refine sL ?_|(refine sS ?_;clear H;intros;rename_i H));refine zm (HLN.out X2 K2 p r HFX.out HNO.out _ ((St.join3 (H.pick3 (A:=pA X2) (B:=blk bm (.cells #[.pointer (some ⟨X.p,0,none⟩),.map (some mp)] 138)) (C:=zP zb 26 mp (K2.map zY)) pk pk pk)).ho _ zN) ((St.join3 (H.pick3 (A:=pA X2) (B:=blk bm (.cells #[.pointer (some ⟨X.p,0,none⟩),.map (some mp)] 138)) (C:=zP zb 26 mp (K2.map zY)) pk pk pk)).sepK HK .here pk)) ?_;rintro e9 wc ⟨X3,K3,c,rfl,y0,y1,y2,y3,hb⟩;replace H:=(St.join3 (H.pick3 (A:=pA X2) (B:=blk bm (.cells #[.pointer (some ⟨X.p,0,none⟩),.map (some mp)] 138)) (C:=zP zb 26 mp (K2.map zY)) pk pk pk)).call hb;clear hb hlk;simp only [zo,zv] at H;rcases y0 with ⟨rfl,y,rfl,hid⟩|⟨rfl,rfl,hrf,hlo,hnc⟩
    ·have HLR:=zh (HFX.out.learn HIN.out.1 HIN.out.2.2.1 HIN.out.2.2.2.1 HNO.out y1 y2 hid y3);clear y1 y2 y3 hid;go_wp2_with (first|refine sL ?_|(refine sS ?_;clear H;intros;rename_i H));go_roundg (stM x (kys (K2++[(p,y)])) (p::r));case measure=>exact HLR.out.2
     case rel=>exact ⟨X3,K2++[(p,y)],p::r,rfl,HLR.out.1,by rw [ke];exact H.picks (.cons pk (.cons pk (.cons pk (.cons pk .nil))))⟩
    ·have hpr2:=HFX.out.rng p (by simp);have htr:X3.S.tr p=X.S.tr p:=HFX.out.ext.le.tr HIN.out.1.ok hpr2.1 (by have:=HIN.out;omega);have hrf2:=ref_back HFX.out.ext.le hpr2.1 (by have:=HIN.out;omega) hrf;rw [htr] at hlo;have HPU:=zh (HFX.out.push HIN.out.1 HIN.out.2.2.1 HNO.out hlo hrf2 (kys_no hnc));have d9:((c:Int)==0)=false:=(by have:=hrf.1;simp;omega);have d9b:((c:Int) != 0)=true:=(by simp;have:=hrf.1;omega);clear y1 y2 y3 hrf hlo hnc htr hrf2 hpr2;go_wp2_with (first|refine sL ?_|(refine sS ?_;clear H;intros;rename_i H)|((with_reducible refine qV ?_);refine AtSlice.one H rfl rfl rfl rfl rfl rfl rfl rfl rfl ?_;clear H;intro b8 _ H;simp only [Act.put,puA,puB,puC])|((with_reducible refine qJ ?_);refine AtAppend.go (enc:=qE) H rfl rfl rfl rfl rfl (by decide) (by decide) rfl (xs:=r.reverse++[p]) pk rfl (H.at pk) [c] rfl (by simp [zU,qE]) ya wu (by simp;omega) ?_;clear H;intro ad9 cp9 _ H;simp only [Act.put,puA,puB,puC]));go_roundg (stM x (kys K3) (c::p::r));case measure=>exact HPU.out.2
     case rel =>
      rw [HRL.out.1] at H;exact ⟨X3,K3,c::p::r,rfl,HPU.out.1,by rw [ke,ke];exact H.picks (.cons pk (.cons pk (.cons pk (.cons pk .nil))))⟩
end
section
open Go.RowKit Go.Maps
attribute [local go_sem] qt yq VW
structure Gz where
 kd:Int
 lt:Nat
 lf:Int
 rg:Int
 tm:Int
def Qf (q:Gz):List Value:=[.int .i64 q.kd,.int .u8 q.lt,.int .i64 q.lf,.int .i64 q.rg,.int .i64 q.tm]
theorem Yw (q:Gz):(Qf q).length=5:=rfl
def xV (l:List Nat):List Value:=[.string (kw l)]
theorem ZG (l:List Nat):(xV l).length=1:=rfl
theorem Wa (l:List Nat):∀ u∈xV l,u.oneCell'=true:=fun u hu=>by simp [xV] at hu;subst hu;rfl
def TxR (ts:List (List Nat)) (i:Nat) (q:Gz) (t:List Nat):Prop :=
 (q.kd=1∧q.lf=0∧q.rg=0∧q.tm=0∧t=[q.lt]) ∨
 (∃ (l r:Nat) (a b:List Nat),q.kd=2∧q.lt=0∧q.tm=0∧q.lf=(l+1:Nat)∧q.rg=(r+1:Nat)∧l<i∧r<i∧ts[l]?=some a∧ts[r]?=some b∧t=a++b) ∨
 (∃ (l k:Nat) (a:List Nat),q.kd=3∧q.lt=0∧q.rg=0∧q.lf=(l+1:Nat)∧q.tm=(k:Nat)∧l<i∧2<=k∧k<=300∧ts[l]?=some a∧t=(zd k a).flatten)
structure TxP (g:List Gz) (ts:List (List Nat)) (i:Nat):Prop where
 len:ts.length=i
 at_:∀ j q,j<i->g[j]?=some q->∃ t,ts[j]?=some t∧t.length<=300∧t≠[]∧(∀ b∈t,b<256)∧TxR ts j q t
theorem TxR.app {ts:List (List Nat)} {i:Nat} {q:Gz} {t u:List Nat} (h:TxR ts i q t) (hi:i<=ts.length):TxR (ts++[u]) i q t:=by
 rcases h with h|⟨l,r,a,b,h1,h2,h3,h4,h5,h6,h7,h8,h9,h10⟩|⟨l,k,a,h1,h2,h3,h4,h5,h6,h7,h8,h9,h10⟩
 ·exact .inl h
 ·exact .inr (.inl ⟨l,r,a,b,h1,h2,h3,h4,h5,h6,h7,by rw [qv (by omega)];exact h8,by rw [qv (by omega)];exact h9,h10⟩)
 ·exact .inr (.inr ⟨l,k,a,h1,h2,h3,h4,h5,h6,h7,h8,by rw [qv (by omega)];exact h9,h10⟩)
theorem TxP.get {g:List Gz} {ts:List (List Nat)} {i l:Nat} {a:List Nat} (h:TxP g ts i) (hg:i<=g.length) (hl:ts[l]?=some a):a.length<=300∧a≠[]∧∀ b∈a,b<256:=by
 have hll:=yE hl;rw [h.len] at hll;obtain ⟨t,h1,h2,h3,h4,_⟩:=h.at_ l _ hll (zg (by omega));rw [hl] at h1;injection h1 with h1
 subst h1;exact ⟨h2,h3,h4⟩
theorem TxP.step {g:List Gz} {ts:List (List Nat)} {i:Nat} {q:Gz} {t:List Nat} (h:TxP g ts i) (hb:∀ q∈g,q.lt<256) (hq:g[i]?=some q) (hr:TxR ts i q t) (ht:t.length<=300):TxP g (ts++[t]) (i+1):=by
 have hil:=yE hq;have hq2:=hb q (zy hq);refine ⟨by simp [h.len],fun j q' hj hq'=>?_⟩;rcases yI j i with h1|h1
 ·obtain ⟨u,u1,u2,u3,u4,u5⟩:=h.at_ j q' h1 hq';exact ⟨u,by rw [qv (by rw [h.len];exact h1)];exact u1,u2,u3,u4,u5.app (by rw [h.len];omega)⟩
 ·obtain rfl:j=i:=by omega
  rw [hq] at hq';injection hq' with hq'
  subst hq';refine ⟨t,by rw [← h.len];simp,ht,?_,?_,hr.app (by rw [h.len];omega)⟩
  ·rcases hr with ⟨_,_,_,_,rfl⟩|⟨l,r,a,b,_,_,_,_,_,_,_,h8,_,rfl⟩|⟨l,k,a,_,_,_,_,_,_,h7,_,h9,rfl⟩
   ·simp
   ·have:=(h.get (by omega) h8).2.1;simp [this]
   ·have:=(h.get (by omega) h9).2.1;obtain ⟨k,rfl⟩:∃ m,k=m+1:=⟨k-1,by omega⟩
    simp [zS,this]
  ·rcases hr with ⟨_,_,_,_,rfl⟩|⟨l,r,a,b,_,_,_,_,_,_,_,h8,h9,rfl⟩|⟨l,k,a,_,_,_,_,_,_,_,_,h9,rfl⟩
   ·intro b hb';simp at hb';subst hb';exact hq2
   ·intro x hx;rcases zl.1 hx with hx|hx
    ·exact (h.get (by omega) h8).2.2 x hx
    ·exact (h.get (by omega) h9).2.2 x hx
   ·intro x hx;obtain ⟨u,hu,hx⟩:=vc.1 hx;rw [(wq.1 hu).2] at hx;exact (h.get (by omega) h9).2.2 x hx
section
variable {ops:Array Oper} {Q:Exit->Act->World->Prop} {rest:List Oper} {a:Act} {w:World} {o1:Oper} {dst:Option Tmp} {ty0:TypeId} {pos:String} {aft:Array Edge} {gd:Option (Nat×Bool)}
def AtBts (P:Program) (ops:Array Oper) (Q:Exit->Act->World->Prop) (o:Oper) (_ _:TypeId) (_:Operand) (rest:List Oper) (a:Act) (w:World):Prop:=wpList P ops Q (o::rest) a w
theorem isBts {x:Operand} (h:AtBts zb ops Q ⟨dst,.convert 42 9 x,ty0,pos,aft,gd⟩ 42 9 x rest a w):wpList zb ops Q (⟨dst,.convert 42 9 x,ty0,pos,aft,gd⟩::rest) a w:=h
theorem AtBts.go {t u:TypeId} {x:Operand} (hw:Region.wanted o1 (yielded ops a.tmps)=true) (ho:o1.op=.convert t u x) {v z:Value} (hx:a.eval x=v) (hc:(convert t u v).run zb w=.ok z w)
  (h:wpList zb ops Q rest (a.put o1.dst z) w):AtBts zb ops Q o1 t u x rest a w :=
 wpList_step fun _ hK=>by
  rw [if_pos hw];unfold Oper.wp execOp;simp only [ho,hx,Sem.run_bind,hc,Result.andThen_ok,Sem.run_pure];exact hK _ _ h
end
abbrev TxPost (g:List Gz) (w:World) (e:Ending) (w':World):Prop :=
 ∃ (v:Value) (ok:Bool) (ts:List (List Nat)),e=.returned (.tuple #[v,.bool ok])∧(ok=true->TxP g ts g.length)∧St w [] [zc xV 9 1 v ts] w'
def TxRel (g:List Gz) (w:World) (n m:Nat) (v6 v7:Value) (wr:World):Prop :=
 ∃ (i:Nat) (ts:List (List Nat)),m=n-i∧i<=n∧v7=.int .i64 i∧TxP g ts i∧St w [] [zc xV 9 1 v6 ts] wr
def TkRel (a:List Nat) (k m:Nat) (v10 v11:Value):Prop:=m<=k∧v10=.string (kw (zd (k-m) a).flatten)∧v11=.int .i64 (k-m:Nat)
theorem texts_c {P:wi} {g:List Gz} {v:Value} (hr:RowIn P Qf 5 v g) (hb:∀ q∈g,q.lt<256) (hn40:g.length<=40) (w:World) (hp:(qX P).ho w) :
  Calls zb 32 #[v,.int .i64 300] w (TxPost g w):=by
 have H:=St.nil w [];have HK:=Ks.one hp;obtain ⟨n,hnn⟩:∃ n,g.length=n:=⟨_,rfl⟩
 obtain ⟨ad,c,rfl,hmx9⟩:=hr.shape;have HCL:Hid (∀ (i:Nat) (q:Gz),g[i]?=some q->∃ b o,ad=some ⟨b,o,none⟩∧∀ w,(qX P).ho w->w.rangeAt b (o+i*5) [.int .i64 q.kd,.int .u8 q.lt,.int .i64 q.lf,.int .i64 q.rg,.int .i64 q.tm]):=zh fun i q hq=>by
  obtain ⟨ad',c',e1,_,h3⟩:=id hr;obtain ⟨b,o,rfl,_⟩:=h3 (by have:=yE hq;omega);injection e1 with e1 _ _
  subst e1;exact ⟨b,o,rfl,fun w h=>hr.rng h Yw hq⟩
 rw [hnn] at hn40 ⊢;have HIN:Hid (g.length=n∧n<=40∧∀ q∈g,q.lt<256):=zh ⟨hnn,hn40,hb⟩;have HCV:Hid (∀ (b lt:Nat) (w:World),lt<256->(blk b (.cells #[.int .u8 lt] 5)).ho w->(convert 42 9 (.slice (some ⟨b,0,none⟩) 1 1)).run zb w=.ok (.string (kw [lt])) w):=zh fun b lt w hlt h=>by
  refine bytes_conv (l:=[lt]) (fun x hx=>by simp at hx;omega) ?_;exact (ZD (enc:=qN) (k:=1) (n:=1) (c:=1) (xs:=[lt]) ki (St.one h) (zr _) (by simp [maxLen]) rfl rfl rfl).ho _ zN
 clear hr hnn hp hmx9 hb;go_enter Tryz.func32,Tryz.ntmps32;go_wp2_with (first|refine sL ?_|(refine sS ?_;clear H;intros;rename_i H));go_loopg [6,7] n (fun m v6 v7 wr=>TxRel g w n m v6 v7 wr);case atStart=>exact ⟨0,[],rfl,qy _,rfl,⟨rfl,fun j q hj=>absurd hj (Nat.not_lt_zero _)⟩,(H.picks .nil).empty (A:=zc xV 9 1 (.slice none 0 0) []) (qq _) (by rw [qW];rfl)⟩
 case round =>
  clear H;obtain ⟨i,ts,rfl,hik,rfl,hrel,H⟩:=hrel;have HRL:=zh hrel;obtain ⟨ad2,c2,rfl,_⟩:=zE (H.get (A:=zc xV 9 1 _ ts) pk);by_cases hlt:i<n
  ·obtain ⟨q,hq⟩:∃ a,g[i]?=some a:=⟨_,zg (by rw [HIN.out.1];exact hlt)⟩
   obtain ⟨gb,o,rfl,hrng⟩:=HCL.out i q hq;have d90:decide ((i:Int)<(n:Int))=true:=(by simp;omega);have d90n:decide (i<n)=true:=(by simp;omega);have hil:i<n:=hlt;have HRX:=zh hrng;have HST:Hid (∀ t,TxR ts i q t->t.length<=300->TxP g (ts++[t]) (i+1)):=zh fun t h1 h2=>HRL.out.step HIN.out.2.2 hq h1 h2
   have HTS:Hid (ts.length=i):=zh hrel.len;have hti:ts.length<=40:=(by rw [hrel.len];omega);have HLT:Hid (q.lt<256):=zh (HIN.out.2.2 q (zy hq));have HRW:Hid (∀ (l:Nat) (a:List Nat),ts[l]?=some a->∃ g2,ad2=some ⟨g2,0,none⟩∧a.length<=300∧∀ w,(zc xV 9 1 (.slice ad2 ts.length c2) ts).ho w->w.cell? ⟨g2,l,none⟩=some (.string (kw a))):=zh fun l a hl=>by
    obtain ⟨g2,c8,e1,_⟩:=q8 (H.get (A:=zc xV 9 1 (.slice ad2 ts.length c2) ts) pk) (by have:=yE hl;omega);injection e1 with e1 _ _
    refine ⟨g2,e1,(HRL.out.get (by rw [HIN.out.1];exact hik) hl).1,fun w h=>?_⟩;rw [e1] at h;have:=qj h ZG hl (j:=0) rfl;simpa using this
   obtain ⟨kd,lt,lf,rg,tm⟩:=q;simp only at HRX HST HLT;clear hrel hq hrng;by_cases k1:kd=1
   ·subst k1;replace HCV:=zh fun b w h=>HCV.out b lt w HLT.out h
    rcases zW (lf != 0) with d1|d1
    ·go_wp2_with (first|go_big_skip|refine sL ?_|(refine sS ?_;clear H;intros;rename_i H)|((with_reducible refine qh ?_);refine AtLoad.rngT rfl rfl rfl (HRX.out _ (H.known HK pk)) rfl ?_;simp only [Act.put,puA,puB,puC]));go_ret2;exact ⟨_,_,[],rfl,(fun h=>by cases h),(H.picks .nil).empty (A:=zc xV 9 1 (.slice none 0 0) []) (qq _) (by rw [qW];rfl)⟩
    rcases zW (rg != 0) with d2|d2
    ·go_wp2_with (first|go_big_skip|refine sL ?_|(refine sS ?_;clear H;intros;rename_i H)|((with_reducible refine qh ?_);refine AtLoad.rngT rfl rfl rfl (HRX.out _ (H.known HK pk)) rfl ?_;simp only [Act.put,puA,puB,puC]));go_ret2;exact ⟨_,_,[],rfl,(fun h=>by cases h),(H.picks .nil).empty (A:=zc xV 9 1 (.slice none 0 0) []) (qq _) (by rw [qW];rfl)⟩
    rcases zW (tm != 0) with d3|d3
    ·go_wp2_with (first|go_big_skip|refine sL ?_|(refine sS ?_;clear H;intros;rename_i H)|((with_reducible refine qh ?_);refine AtLoad.rngT rfl rfl rfl (HRX.out _ (H.known HK pk)) rfl ?_;simp only [Act.put,puA,puB,puC]));go_ret2;exact ⟨_,_,[],rfl,(fun h=>by cases h),(H.picks .nil).empty (A:=zc xV 9 1 (.slice none 0 0) []) (qq _) (by rw [qW];rfl)⟩
    have hf:=d1;have hg:=d2;have ht:=d3;simp at hf hg ht;subst hf hg ht;go_wp2_with (first|go_big_skip|refine sL ?_|(refine sS ?_;clear H;intros;rename_i H)|((with_reducible refine qh ?_);refine AtLoad.rngT rfl rfl rfl (HRX.out _ (H.known HK pk)) rfl ?_;simp only [Act.put,puA,puB,puC])|((with_reducible refine qV ?_);refine AtSlice.one H rfl rfl rfl rfl rfl rfl rfl rfl rfl ?_;clear H;intro b7 _ H;simp only [Act.put,puA,puB,puC])|((with_reducible refine isBts ?_);refine AtBts.go rfl rfl rfl (HCV.out b7 _ (H.get pk)) ?_;simp only [Act.put,puA,puB,puC])|((with_reducible refine qJ ?_);refine AtAppend.go (enc:=xV) H rfl rfl rfl rfl rfl (by decide) (by decide) rfl (xs:=ts) pk rfl (H.at pk) [[lt]] rfl (by simp [zU,xV]) ZG Wa (by simp;omega) ?_;clear H;intro ad9 cp9 _ H;simp only [Act.put,puA,puB,puC]));go_roundg (n-(i+1));case measure=>omega
    case rel=>exact ⟨i+1,ts++[[lt]],rfl,by omega,by go_num,HST.out [lt] (.inl ⟨rfl,rfl,rfl,rfl,rfl⟩) (by simp),H.picks (.cons pk .nil)⟩
   by_cases k2:kd=2
   ·subst k2;rcases zW (((lt:Nat):Int) != 0) with d1|d1
    ·go_wp2_with (first|go_big_skip|refine sL ?_|(refine sS ?_;clear H;intros;rename_i H)|((with_reducible refine qh ?_);refine AtLoad.rngT rfl rfl rfl (HRX.out _ (H.known HK pk)) rfl ?_;simp only [Act.put,puA,puB,puC]));go_ret2;exact ⟨_,_,[],rfl,(fun h=>by cases h),(H.picks .nil).empty (A:=zc xV 9 1 (.slice none 0 0) []) (qq _) (by rw [qW];rfl)⟩
    rcases zW (tm != 0) with d2|d2
    ·go_wp2_with (first|go_big_skip|refine sL ?_|(refine sS ?_;clear H;intros;rename_i H)|((with_reducible refine qh ?_);refine AtLoad.rngT rfl rfl rfl (HRX.out _ (H.known HK pk)) rfl ?_;simp only [Act.put,puA,puB,puC]));go_ret2;exact ⟨_,_,[],rfl,(fun h=>by cases h),(H.picks .nil).empty (A:=zc xV 9 1 (.slice none 0 0) []) (qq _) (by rw [qW];rfl)⟩
    rcases zW (decide (lf<1)) with d3|d3
    ·go_wp2_with (first|go_big_skip|refine sL ?_|(refine sS ?_;clear H;intros;rename_i H)|((with_reducible refine qh ?_);refine AtLoad.rngT rfl rfl rfl (HRX.out _ (H.known HK pk)) rfl ?_;simp only [Act.put,puA,puB,puC]));go_ret2;exact ⟨_,_,[],rfl,(fun h=>by cases h),(H.picks .nil).empty (A:=zc xV 9 1 (.slice none 0 0) []) (qq _) (by rw [qW];rfl)⟩
    rcases zW (decide (rg<1)) with d4|d4
    ·go_wp2_with (first|go_big_skip|refine sL ?_|(refine sS ?_;clear H;intros;rename_i H)|((with_reducible refine qh ?_);refine AtLoad.rngT rfl rfl rfl (HRX.out _ (H.known HK pk)) rfl ?_;simp only [Act.put,puA,puB,puC]));go_ret2;exact ⟨_,_,[],rfl,(fun h=>by cases h),(H.picks .nil).empty (A:=zc xV 9 1 (.slice none 0 0) []) (qq _) (by rw [qW];rfl)⟩
    rcases zW (decide ((i:Int)+1<=lf)) with d5|d5
    ·go_wp2_with (first|go_big_skip|refine sL ?_|(refine sS ?_;clear H;intros;rename_i H)|((with_reducible refine qh ?_);refine AtLoad.rngT rfl rfl rfl (HRX.out _ (H.known HK pk)) rfl ?_;simp only [Act.put,puA,puB,puC]));go_ret2;exact ⟨_,_,[],rfl,(fun h=>by cases h),(H.picks .nil).empty (A:=zc xV 9 1 (.slice none 0 0) []) (qq _) (by rw [qW];rfl)⟩
    rcases zW (decide ((i:Int)+1<=rg)) with d6|d6
    ·go_wp2_with (first|go_big_skip|refine sL ?_|(refine sS ?_;clear H;intros;rename_i H)|((with_reducible refine qh ?_);refine AtLoad.rngT rfl rfl rfl (HRX.out _ (H.known HK pk)) rfl ?_;simp only [Act.put,puA,puB,puC]));go_ret2;exact ⟨_,_,[],rfl,(fun h=>by cases h),(H.picks .nil).empty (A:=zc xV 9 1 (.slice none 0 0) []) (qq _) (by rw [qW];rfl)⟩
    have q1:lt=0:=(by simpa using d1);have q2:tm=0:=(by simpa using d2);subst q1 q2;obtain ⟨l,hlf⟩:∃ l:Nat,lf=(l+1:Nat):=⟨(lf-1).toNat,by simp at d3;omega⟩
    have hl:l<i:=(by simp at d5;omega);obtain ⟨a,ha⟩:∃ a,ts[l]?=some a:=⟨_,zg (by rw [HTS.out];exact hl)⟩
    obtain ⟨g2,rfl,ha3,hca⟩:=HRW.out l a ha;have HCA:=zh hca;have i1:lf-1=(l:Nat):=(by omega);have hlts:l<ts.length:=(by rw [HTS.out];exact hl);obtain ⟨r,hrg⟩:∃ r:Nat,rg=(r+1:Nat):=⟨(rg-1).toNat,by simp at d4;omega⟩
    have hr:r<i:=(by simp at d6;omega);obtain ⟨b,hb⟩:∃ a,ts[r]?=some a:=⟨_,zg (by rw [HTS.out];exact hr)⟩
    obtain ⟨g3,e3,hb3,hcb⟩:=HRW.out r b hb;injection e3 with e3
    injection e3 with e3
    subst e3;have HCB:=zh hcb;have i2:rg-1=(r:Nat):=(by omega);have hrts:r<ts.length:=(by rw [HTS.out];exact hr);have HTR:Hid (TxR ts i ⟨2,0,lf,rg,0⟩ (a++b)):=zh (.inr (.inl ⟨l,r,a,b,rfl,rfl,rfl,hlf,hrg,hl,hr,ha,hb,rfl⟩));clear hca hcb ha hb HRW hlf hrg;go_wp2_with (first|go_big_skip|refine sL ?_|(refine sS ?_;clear H;intros;rename_i H)|((with_reducible refine qh ?_);refine AtLoad.rngT rfl rfl rfl (HRX.out _ (H.known HK pk)) rfl ?_;simp only [Act.put,puA,puB,puC]));rcases zW (decide ((300:Int)<(a.length:Int)+(b.length:Int))) with e9|e9
    ·skip
     refine zG H 14 [] [] (by kernel_rfl) (by kernel_rfl) ?_;apply Exists.intro;refine ⟨fun w1 hw1 HX=>?_,fun bs wr Hr=>?_⟩
     ·refine sG ?_;repeat (first|go_big_quiet_skip|refine sQ ?_|fail|go_big_quiet_step (fail))
      exact wpQuiet_nil rfl
     clear H;have H:=Hr;clear Hr;replace H:=sH H;refine sT ?_;go_wp2_with (first|go_big_skip|refine sL ?_|(refine sS ?_;clear H;intros;rename_i H)|((with_reducible refine qh ?_);refine AtLoad.rngT rfl rfl rfl (HRX.out _ (H.known HK pk)) rfl ?_;simp only [Act.put,puA,puB,puC]));go_ret2;exact ⟨_,_,[],rfl,(fun h=>by cases h),(H.picks .nil).empty (A:=zc xV 9 1 (.slice none 0 0) []) (qq _) (by rw [qW];rfl)⟩
    have hab:(a++b).length<=300:=(by simp at e9;simp;omega);have e9n:decide (300<a.length+b.length)=false:=(by simp at hab;simp;omega);refine zG H 14 [] [] (by kernel_rfl) (by kernel_rfl) ?_;apply Exists.intro;refine ⟨fun w1 hw1 HX=>?_,fun bs wr Hr=>?_⟩
    ·refine sG ?_;repeat (first|go_big_quiet_skip|refine sQ ?_|fail|go_big_quiet_step (fail))
     exact wpQuiet_nil rfl
    clear H;have H:=Hr;clear Hr;replace H:=sH H;refine sT ?_;go_wp2_with (first|go_big_skip|refine sL ?_|(refine sS ?_;clear H;intros;rename_i H)|((with_reducible refine qh ?_);refine AtLoad.rngT rfl rfl rfl (HRX.out _ (H.known HK pk)) rfl ?_;simp only [Act.put,puA,puB,puC])|((with_reducible refine qV ?_);refine AtSlice.one H rfl rfl rfl rfl rfl rfl rfl rfl rfl ?_;clear H;intro b7 _ H;simp only [Act.put,puA,puB,puC])|((with_reducible refine qJ ?_);refine AtAppend.go (enc:=xV) H rfl rfl rfl rfl rfl (by decide) (by decide) rfl (xs:=ts) pk rfl (H.at pk) [a++b] rfl (by simp [zU,xV]) ZG Wa (by simp;omega) ?_;clear H;intro ad9 cp9 _ H;simp only [Act.put,puA,puB,puC]));go_roundg (n-(i+1));case measure=>omega
    case rel=>exact ⟨i+1,ts++[a++b],rfl,by omega,by go_num,HST.out _ HTR.out hab,H.picks (.cons pk .nil)⟩
   by_cases k3:kd=3
   ·subst k3;rcases zW (((lt:Nat):Int) != 0) with d1|d1
    ·go_wp2_with (first|go_big_skip|refine sL ?_|(refine sS ?_;clear H;intros;rename_i H)|((with_reducible refine qh ?_);refine AtLoad.rngT rfl rfl rfl (HRX.out _ (H.known HK pk)) rfl ?_;simp only [Act.put,puA,puB,puC]));go_ret2;exact ⟨_,_,[],rfl,(fun h=>by cases h),(H.picks .nil).empty (A:=zc xV 9 1 (.slice none 0 0) []) (qq _) (by rw [qW];rfl)⟩
    rcases zW (rg != 0) with d2|d2
    ·go_wp2_with (first|go_big_skip|refine sL ?_|(refine sS ?_;clear H;intros;rename_i H)|((with_reducible refine qh ?_);refine AtLoad.rngT rfl rfl rfl (HRX.out _ (H.known HK pk)) rfl ?_;simp only [Act.put,puA,puB,puC]));go_ret2;exact ⟨_,_,[],rfl,(fun h=>by cases h),(H.picks .nil).empty (A:=zc xV 9 1 (.slice none 0 0) []) (qq _) (by rw [qW];rfl)⟩
    rcases zW (decide (lf<1)) with d3|d3
    ·go_wp2_with (first|go_big_skip|refine sL ?_|(refine sS ?_;clear H;intros;rename_i H)|((with_reducible refine qh ?_);refine AtLoad.rngT rfl rfl rfl (HRX.out _ (H.known HK pk)) rfl ?_;simp only [Act.put,puA,puB,puC]));go_ret2;exact ⟨_,_,[],rfl,(fun h=>by cases h),(H.picks .nil).empty (A:=zc xV 9 1 (.slice none 0 0) []) (qq _) (by rw [qW];rfl)⟩
    rcases zW (decide ((i:Int)+1<=lf)) with d4|d4
    ·go_wp2_with (first|go_big_skip|refine sL ?_|(refine sS ?_;clear H;intros;rename_i H)|((with_reducible refine qh ?_);refine AtLoad.rngT rfl rfl rfl (HRX.out _ (H.known HK pk)) rfl ?_;simp only [Act.put,puA,puB,puC]));go_ret2;exact ⟨_,_,[],rfl,(fun h=>by cases h),(H.picks .nil).empty (A:=zc xV 9 1 (.slice none 0 0) []) (qq _) (by rw [qW];rfl)⟩
    rcases zW (decide (tm<2)) with d5|d5
    ·go_wp2_with (first|go_big_skip|refine sL ?_|(refine sS ?_;clear H;intros;rename_i H)|((with_reducible refine qh ?_);refine AtLoad.rngT rfl rfl rfl (HRX.out _ (H.known HK pk)) rfl ?_;simp only [Act.put,puA,puB,puC]));go_ret2;exact ⟨_,_,[],rfl,(fun h=>by cases h),(H.picks .nil).empty (A:=zc xV 9 1 (.slice none 0 0) []) (qq _) (by rw [qW];rfl)⟩
    rcases zW (decide ((300:Int)<tm)) with d6|d6
    ·go_wp2_with (first|go_big_skip|refine sL ?_|(refine sS ?_;clear H;intros;rename_i H)|((with_reducible refine qh ?_);refine AtLoad.rngT rfl rfl rfl (HRX.out _ (H.known HK pk)) rfl ?_;simp only [Act.put,puA,puB,puC]));go_ret2;exact ⟨_,_,[],rfl,(fun h=>by cases h),(H.picks .nil).empty (A:=zc xV 9 1 (.slice none 0 0) []) (qq _) (by rw [qW];rfl)⟩
    have q1:lt=0:=(by simpa using d1);have q2:rg=0:=(by simpa using d2);subst q1 q2;obtain ⟨l,hlf⟩:∃ l:Nat,lf=(l+1:Nat):=⟨(lf-1).toNat,by simp at d3;omega⟩
    have hl:l<i:=(by simp at d4;omega);obtain ⟨a,ha⟩:∃ a,ts[l]?=some a:=⟨_,zg (by rw [HTS.out];exact hl)⟩
    obtain ⟨g2,rfl,ha3,hca⟩:=HRW.out l a ha;have HCA:=zh hca;have i1:lf-1=(l:Nat):=(by omega);have hlts:l<ts.length:=(by rw [HTS.out];exact hl);obtain ⟨k,htm⟩:∃ k:Nat,tm=(k:Nat):=⟨tm.toNat,by simp at d5;omega⟩
    have hk2:2<=k:=(by simp at d5;omega);have hk3:k<=300:=(by simp at d6;omega);obtain ⟨s,hs⟩:∃ s:Nat,(a.length:Int)*tm=(s:Nat):=⟨a.length*k,by rw [htm,Yl]⟩
    have hsk:a.length*k=s:=(by rw [htm,← Yl] at hs;omega);have hsb:s<=90000:=(by rw [← hsk];exact ZB ha3 hk3);obtain ⟨t,ht⟩:∃ t,(zd k a).flatten=t:=⟨_,rfl⟩
    have htl:t.length=s:=(by rw [← ht,← hsk,List.length_flatten,Qa,Xz,xO]);have HTR:Hid (TxR ts i ⟨3,0,lf,0,tm⟩ t):=zh (.inr (.inr ⟨l,k,a,rfl,rfl,rfl,hlf,htm,hl,hk2,hk3,ha,ht.symm⟩));have HTM:Hid (tm=(k:Nat)∧(zd k a).flatten=t∧t.length=s):=zh ⟨htm,ht,htl⟩;rcases zW (decide ((300:Int)<(s:Nat))) with e9|e9
    ·clear hca ha HRW hlf htm hsk ht htl;go_wp2_with (first|go_big_skip|refine sL ?_|(refine sS ?_;clear H;intros;rename_i H)|((with_reducible refine qh ?_);refine AtLoad.rngT rfl rfl rfl (HRX.out _ (H.known HK pk)) rfl ?_;simp only [Act.put,puA,puB,puC]));refine zG H 12 [] [] (by kernel_rfl) (by kernel_rfl) ?_;apply Exists.intro;refine ⟨fun w1 hw1 HX=>?_,fun bs wr Hr=>?_⟩
     ·refine sG ?_;repeat (first|go_big_quiet_skip|refine sQ ?_|fail|go_big_quiet_step (fail))
      exact wpQuiet_nil rfl
     clear H;have H:=Hr;clear Hr;replace H:=sH H;refine sT ?_;go_wp2_with (first|go_big_skip|refine sL ?_|(refine sS ?_;clear H;intros;rename_i H)|((with_reducible refine qh ?_);refine AtLoad.rngT rfl rfl rfl (HRX.out _ (H.known HK pk)) rfl ?_;simp only [Act.put,puA,puB,puC]));go_ret2;exact ⟨_,_,[],rfl,(fun h=>by cases h),(H.picks .nil).empty (A:=zc xV 9 1 (.slice none 0 0) []) (qq _) (by rw [qW];rfl)⟩
    have hs3:s<=300:=(by simp at e9;omega);have e9n:decide (300<s)=false:=(by simp;omega);clear hca ha HRW hlf htm hsk ht htl;go_wp2_with (first|go_big_skip|refine sL ?_|(refine sS ?_;clear H;intros;rename_i H)|((with_reducible refine qh ?_);refine AtLoad.rngT rfl rfl rfl (HRX.out _ (H.known HK pk)) rfl ?_;simp only [Act.put,puA,puB,puC]));refine zG H 12 [] [] (by kernel_rfl) (by kernel_rfl) ?_;apply Exists.intro;refine ⟨fun w1 hw1 HX=>?_,fun bs wr Hr=>?_⟩
    ·refine sG ?_;repeat (first|go_big_quiet_skip|refine sQ ?_|fail|go_big_quiet_step (fail))
     exact wpQuiet_nil rfl
    clear H;have H:=Hr;clear Hr;replace H:=sH H;refine sT ?_;go_wp2_with (first|go_big_skip|refine sL ?_|(refine sS ?_;clear H;intros;rename_i H)|((with_reducible refine qh ?_);refine AtLoad.rngT rfl rfl rfl (HRX.out _ (H.known HK pk)) rfl ?_;simp only [Act.put,puA,puB,puC]));rename_i b8 _ _ _ _;replace H:St w [] [blk b8 (.cells #[.int .i64 3,.int .u8 (0:Nat),.int .i64 lf,.int .i64 0,.int .i64 tm] 131),zc xV 9 1 (.slice (some ⟨g2,0,none⟩) ts.length c2) ts] _:=H.picks (.cons (A:=blk b8 (.cells #[.int .i64 3,.int .u8 (0:Nat),.int .i64 lf,.int .i64 0,.int .i64 tm] 131)) pk (.cons (A:=zc xV 9 1 (.slice (some ⟨g2,0,none⟩) ts.length c2) ts) pk .nil));clear hs;go_loopg [10,11] k (fun m v10 v11 wr=>TkRel a k m v10 v11∧St w [] [blk b8 (.cells #[.int .i64 3,.int .u8 (0:Nat),.int .i64 lf,.int .i64 0,.int .i64 tm] 131),zc xV 9 1 (.slice (some ⟨g2,0,none⟩) ts.length c2) ts] wr);case atStart=>exact ⟨⟨zr _,by rw [QL];exact congrArg Value.string (by rw [List.replicate_zero,List.flatten_nil];exact strB_nil.symm),by rw [QL];rfl⟩,H⟩
    case round =>
     clear H;obtain ⟨⟨hm,rfl,rfl⟩,H⟩:=hrel;obtain ⟨j,hj⟩:∃ j,k-gk=j:=⟨_,rfl⟩
     rw [hj];rcases qk gk with h0|h0
     ·have hjk:j=k:=(by omega);subst hjk;have dj:decide ((j:Int)<tm)=false:=(by rw [HTM.out.1];simp);have hsz:(kw (zd j a).flatten)=kw t:=(by rw [HTM.out.2.1]);rw [hsz];have htl:=HTM.out.2.2;have htn:(t.length:Int)=(s:Nat):=(by rw [htl]);clear htl;go_wp2_with (first|go_big_skip|refine sL ?_|(refine sS ?_;clear H;intros;rename_i H)|((with_reducible refine qh ?_);refine AtLoad.rngT rfl rfl rfl (HRX.out _ (H.known HK pk)) rfl ?_;simp only [Act.put,puA,puB,puC])|((with_reducible refine qV ?_);refine AtSlice.one H rfl rfl rfl rfl rfl rfl rfl rfl rfl ?_;clear H;intro b7 _ H;simp only [Act.put,puA,puB,puC])|((with_reducible refine qJ ?_);refine AtAppend.go (enc:=xV) H rfl rfl rfl rfl rfl (by decide) (by decide) rfl (xs:=ts) pk rfl (H.at pk) [t] rfl (by simp [zU,xV]) ZG Wa (by simp;omega) ?_;clear H;intro ad9 cp9 _ H;simp only [Act.put,puA,puB,puC]));go_roundg (n-(i+1));case measure=>omega
      case rel=>exact ⟨i+1,ts++[t],rfl,by omega,by go_num,HST.out _ HTR.out (by rw [HTM.out.2.2];exact hs3),H.picks (.cons pk .nil)⟩
     ·have hjk:j<k:=(by omega);have dj:decide ((j:Int)<tm)=true:=(by rw [HTM.out.1];simp;omega);have HJ:=zh hj;have hjb:j*a.length<=90000:=qs (ZB (show j<=300 by omega) ha3) (by omega);clear hj;go_wp2_with (first|go_big_skip|refine sL ?_|(refine sS ?_;clear H;intros;rename_i H)|((with_reducible refine qh ?_);refine AtLoad.rngT rfl rfl rfl (HRX.out _ (H.known HK pk)) rfl ?_;simp only [Act.put,puA,puB,puC]));go_roundg (gk-1);case measure=>omega
      case rel =>
       have hj:=HJ.out;have e:k-(gk-1)=j+1:=(by omega);exact ⟨⟨by omega,by rw [e,xG,Xy];simp,by rw [e];rfl⟩,H⟩
   ·have d1:(kd==1)=false:=(by simpa using k1);have d2:(kd==2)=false:=(by simpa using k2);have d3:(kd==3)=false:=(by simpa using k3);clear k1 k2 k3;go_wp2_with (first|go_big_skip|refine sL ?_|(refine sS ?_;clear H;intros;rename_i H)|((with_reducible refine qh ?_);refine AtLoad.rngT rfl rfl rfl (HRX.out _ (H.known HK pk)) rfl ?_;simp only [Act.put,puA,puB,puC]));go_ret2;exact ⟨_,_,[],rfl,(fun h=>by cases h),(H.picks .nil).empty (A:=zc xV 9 1 (.slice none 0 0) []) (qq _) (by rw [qW];rfl)⟩
  ·have d90:decide ((i:Int)<(n:Int))=false:=(by simp;omega);have d90n:decide (i<n)=false:=(by simp;omega);have hin:n=i:=(by omega);subst hin;clear hrel;go_wp2_with (first|refine sL ?_|(refine sS ?_;clear H;intros;rename_i H));go_ret2;exact ⟨_,true,ts,rfl,fun _=>by rw [HIN.out.1];exact HRL.out,H.picks (.cons pk .nil)⟩
end
section
open Go.RowKit Go.Maps
attribute [local go_sem] qt yq
theorem parser_m {X:Px} {bm mp:Nat} (w:World) (h:(blk bm (.cells #[.pointer (some ⟨X.p,0,none⟩),.map (some mp)] 138)).ho w):Calls zb 69 #[.pointer (some ⟨bm,0,none⟩)] w fun e w'=>e=.returned (.pointer (some ⟨X.p,0,none⟩))∧w'=w:=by
 have H:=St.nil w [];have HC:Hid (w.cell? ⟨bm,0,none⟩=some (.pointer (some ⟨X.p,0,none⟩))):=zh (by rw [xp] at h;rw [cell_of_row w _ 0 _ _ _ h];rfl);clear h;go_enter Tryz.func69,Tryz.ntmps69;go_wp2_with (first|refine sL ?_|(refine sS ?_;clear H;intros;rename_i H)|((with_reducible refine qh ?_);refine AtLoad.cel rfl rfl rfl rfl HC.out ?_;simp only [Act.put,puA,puB,puC]));go_ret;exact ⟨rfl,rfl⟩
theorem KL {fn:Func} {t u v x:Tmp} (h:fn.results=#[.tmp t,.tmp u,.tmp v,.tmp x]) (tmps:Array Value) (P:Program) (w:World) :
  (results fn tmps).run P w=.ok (.tuple #[tmps.getD t undef,tmps.getD u undef,tmps.getD v undef,tmps.getD x undef]) w:=by
 simp [results,h]
abbrev Kg (n:Nat) (w:World) (e:Ending) (w':World):Prop :=
 ∃ (X:Px) (bm mp:Nat),e=.returned (.tuple #[.pointer (some ⟨X.s,0,none⟩),.pointer (some ⟨X.p,0,none⟩),.pointer (some ⟨bm,0,none⟩),.bool true])∧zK X∧X.S=⟨n,[]⟩∧St w [] [pA X,blk bm (.cells #[.pointer (some ⟨X.p,0,none⟩),.map (some mp)] 138),zP zb 26 mp (([]:List (Nat×Nat)).map zY)] w'
theorem start_c (n:Nat) (hn:n<=1048576) (z:Int) (hz:z=n) (w:World) :
  Calls zb 33 #[.int .i64 z] w (Kg n w):=by
 subst hz;have H:=St.nil w [];have HNW:Hid (∀ w,Calls zb 55 #[.int .i64 (n:Nat)] w fun e w'=>∃ p m,e=.returned (.pointer (some ⟨p,0,none⟩))∧St w [] [qF p (.slice none 0 0) m ⟨n,[]⟩] w'):=zh fun w=>new_c n hn _ rfl w
 have HSN:Hid (∀ ps pm w,(qF ps (.slice none 0 0) pm ⟨n,[]⟩).ho w->Calls zb 54 #[.pointer (some ⟨ps,0,none⟩)] w fun e w'=>∃ X:Px,X.s=ps∧X.S=⟨n,[]⟩∧zK X∧e=.returned (.pointer (some ⟨X.p,0,none⟩))∧St w (qF ps (.slice none 0 0) pm ⟨n,[]⟩).fp [pA X] w'):=zh fun ps pm w h=>snew_c ⟨hn,by simp,fun i j x y h=>by simp at h,fun i x h=>by simp at h⟩ w h
 have HCN:Hid (∀ (X:Px) w,Calls zb 36 #[.pointer (some ⟨X.p,0,none⟩)] w fun e w'=>∃ bm mp:Nat,e=.returned (.pointer (some ⟨bm,0,none⟩))∧St w [] [blk bm (.cells #[.pointer (some ⟨X.p,0,none⟩),.map (some mp)] 138),zP zb 26 mp (([]:List (Nat×Nat)).map zY)] w'):=zh fun X w=>cnew_c w
 have HPM:Hid (∀ (X:Px) (bm mp:Nat) w,(blk bm (.cells #[.pointer (some ⟨X.p,0,none⟩),.map (some mp)] 138)).ho w->Calls zb 69 #[.pointer (some ⟨bm,0,none⟩)] w fun e w'=>e=.returned (.pointer (some ⟨X.p,0,none⟩))∧w'=w):=zh fun X bm mp w h=>parser_m w h
 have heq:∀ (p:Nat) w,(binOp .eql 25 (.pointer (some ⟨p,0,none⟩)) (.pointer (some ⟨p,0,none⟩))).run zb w=.ok (.bool true) w:=fun p w=>by
  obtain ⟨j,hj⟩:=Option.isSome_iff_exists.1 (show (zb.info? 119).isSome=true by kernel_rfl);exact run_eql_ptr_same w _ (by kernel_rfl) hj
 unfold Kg;go_enter Tryz.func33,Tryz.ntmps33;go_wp2_with (first|refine sL ?_|(refine sS ?_;clear H;intros;rename_i H)|(go_at_call 55;with_reducible refine zm (HNW.out _) ?_;rintro e9 wc ⟨ps,pm,rfl,hb⟩;replace H:=zn (H.call0 hb);clear hb)|(go_at_call 54;with_reducible refine zm (HSN.out _ _ _ (H.get pk)) ?_;rintro e9 wc ⟨X,hxs,hxS,hxo,rfl,hb⟩;have HXN:=zh (za hxS hxo);clear hxS hxo;replace H:=(H.pick pk).call hb;clear hb;subst hxs;simp only [zo,zv] at H)|(go_at_call 36;with_reducible refine zm (HCN.out X _) ?_;rintro e9 wc ⟨bm,mp,rfl,hb⟩;replace H:=zn (H.call0 hb);clear hb)|(go_at_call 69;with_reducible refine same (HPM.out X bm mp _ (H.get pk)) ?_));(try simp only [Exit.inBlock,Exit.then])
 refine bodyPost_ret (KL rfl _ _ _) rfl ?_;exact ⟨X,bm,mp,rfl,HXN.out.2,HXN.out.1,H.picks (.cons pk (.cons pk (.cons pk .nil)))⟩
end
end Go.Proofs.YtgnppnokkdghcaaGreatDoor
