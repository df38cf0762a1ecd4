/-
  Part 6 of the texts behind the statements of this seat: walks and laws Cv, Cq, Cx, Ck, Cy. Conditions: as each states.
-/
import Derived.Test.YtgnppnokkdghcaaGreatDoorBb5
set_option linter.unusedSimpArgs false
set_option linter.unusedVariables false
set_option maxRecDepth 100000
set_option maxHeartbeats 80000000
namespace Go.Proofs.YtgnppnokkdghcaaGreatDoor
section
open Go.RowKit Go.Maps
attribute [local go_sem] InGr
def OddOf (S:Sto) (o:Option Tr) (od:ItR):Prop:=match o with|none=>od.id=0|some t=>ItOf S ⟨t,none,1⟩ od
structure MtIn (X X1:Px) (M:List It) (k:Nat) (l:List It) (o:Option Tr) (acc:List ItR) (od:ItR):Prop where
 ext:X.Ext X1
 ok:PxOk X1
 its:ItsOf X1.S l acc
 odd:OddOf X1.S o od
 sg:Sg l
 way:(M.drop k).foldl mStr1 (l,o)=M.foldl mStr1 ([],none)
 sum:X1.S.list.length+((expI l).length+o.toList.length+(expI (M.drop k)).length)≤X.S.list.length+(expI M).length
 cnt:(expI l).length+o.toList.length+(expI (M.drop k)).length≤(expI M).length
 len:lenL o.toList+lenL (expI (M.drop k))≤maxT
def MtRel (X:Px) (b b5:Nat) (cs:Array Value) (mv:Value) (rs:List ItR) (M:List It) (N:List Nat) (w:World) (m:Nat) (v4 v6 v14:Value) (wr:World):Prop :=
 ∃ (k:Nat) (X1:Px) (l:List It) (o:Option Tr) (acc:List ItR) (oi ox oy ot:Nat),k≤rs.length∧m=rs.length-k∧v6=.nilIface∧v14=.int .i64 k∧MtIn X X1 M k l o acc ⟨oi,ox,oy,ot⟩∧St w N [pA X1,blk b (.cells cs 250),rowsA encIt 254 4 mv rs,rowsA encIt 254 4 v4 acc,blk b5 (.cells #[.int .i64 oi,.int .i64 ox,.int .u64 oy,.int .i64 ot] 254)] wr
theorem MtIn.next {X X1 X2:Px} {M l l':List It} {k:Nat} {o o':Option Tr} {acc acc':List ItR} {od od':ItR} {i:It} (h:MtIn X X1 M k l o acc od) (hi:M[k]?=some i) (he:X1.Ext X2) (ho:PxOk X2) (hm:mStr1 (l,o) i=(l',o')) (hits:ItsOf X2.S l' acc') (hodd:OddOf X2.S o' od') (hsg:Sg l')
  (hs:X2.S.list.length+((expI l').length+o'.toList.length)≤X1.S.list.length+((expI l).length+o.toList.length+i.exp.length)) (hc:(expI l').length+o'.toList.length≤(expI l).length+o.toList.length+i.exp.length) (hl:lenL o'.toList≤lenL o.toList+lenL i.exp):MtIn X X2 M (k+1) l' o' acc' od':=by
 have e1:=drop_one hi
 have h1:=h.way
 have h2:=h.sum
 have h3:=h.cnt
 have h4:=h.len
 rw [e1,List.foldl_cons,hm] at h1
 rw [e1,expI_cons] at h2 h3 h4
 rw [lenL_append] at h4
 simp only [List.length_append] at h2 h3
 exact ⟨h.ext.trans he,ho,hits,hodd,hsg,h1,by omega,by omega,by omega⟩
theorem MtIn.last {X X1:Px} {M:List It} {k:Nat} {l:List It} {o:Option Tr} {acc:List ItR} {od:ItR} (h:MtIn X X1 M k l o acc od) (hm:(expI M).length≤1048576):acc.length≤1048576∧∀ j,acc.getLast?=some j→j.n≤1048576:=by
 have h1:=h.its.len
 have h2:=tie_len2 h.sg
 have h3:=h.cnt
 refine ⟨by omega,fun j hj=>?_⟩
 obtain ⟨q,hq⟩:=List.mem_iff_getElem?.1 (List.mem_of_getLast? hj)
 have hql:q<l.length:=by rw [← h1];exact gelt hq
 obtain ⟨jr,e1,e2⟩:=h.its.get (k:=q) (i:=l[q]) (by simp)
 rw [hq] at e1
 injection e1 with e1
 have h4:=item_n_le (List.getElem_mem hql)
 rw [e1,e2.n]
 omega
theorem its_last {S:Sto} {l:List It} {acc:List ItR} (h:ItsOf S l acc) (hs:Sg l):acc.length≤(expI l).length∧∀ j,acc.getLast?=some j→j.n≤(expI l).length:=by
 have h1:=h.len
 have h2:=tie_len2 hs
 refine ⟨by omega,fun j hj=>?_⟩
 obtain ⟨q,hq⟩:=List.mem_iff_getElem?.1 (List.mem_of_getLast? hj)
 have hql:q<l.length:=by rw [← h1];exact gelt hq
 obtain ⟨jr,e1,e2⟩:=h.get (k:=q) (i:=l[q]) (by simp)
 rw [hq] at e1
 injection e1 with e1
 have h4:=item_n_le (List.getElem_mem hql)
 rw [e1,e2.n]
 exact h4
theorem push_lenN {A:List It} {i:It} (hA:Sg A) (h1:i.nx=none) (h2:1≤i.n):Sg (pushI A i)∧(expI (pushI A i)).length=(expI A).length+i.n:=by
 have:=push_sg (i:=i) hA ⟨h1,h2⟩
 refine ⟨this.1,?_⟩
 rw [this.2]
 simp [It.exp,h1]
theorem exp_none {i:It} (h1:i.nx=none) (h2:i.n=1):i.exp=[i.x]:=by unfold It.exp;rw [h1,h2];rfl
theorem exp_some_len {i:It} {y:Tr} (h1:i.nx=some y):i.exp.length=2*i.n:=by unfold It.exp;rw [h1];simp;omega
theorem exp_some_lenL {i:It} {y:Tr} (h1:i.nx=some y) (h2:1≤i.n):i.x.len+y.len≤lenL i.exp:=by
 unfold It.exp
 rw [h1]
 obtain ⟨n,hn⟩:=Nat.exists_eq_succ_of_ne_zero (show i.n≠0 by omega)
 rw [hn]
 simp only [List.replicate_succ,List.flatten_cons,List.cons_append,List.nil_append,lenL_cons]
 omega
theorem mergeStretches_c {X:Px} {b:Nat} {cs:Array Value} {mv:Value} {rs:List ItR} {M:List It} (hX:PxOk X) (c0:cs[0]?=some (.pointer (some ⟨X.p,0,none⟩))) (c11:cs[11]?=some mv) (hits:ItsOf X.S M rs) (htie:Tie M) (hcnt:(expI M).length≤1048576) (hlen:lenL (expI M)≤maxT) (hroom:X.S.list.length+(expI M).length≤X.S.most) (w:World) (h:(((pA X).sep ((blk b (.cells cs 250)).sep (rowsA encIt 254 4 mv rs))).sep deA).ho w) :
  Calls Tryz.prog 168 #[.pointer (some ⟨b,0,none⟩)] w (MgPost X b cs ((pA X).sep ((blk b (.cells cs 250)).sep (rowsA encIt 254 4 mv rs))).fp w M (mStrE (M.foldl mStr1 ([],none)))):=by
 rw [sep_ho] at h
 obtain ⟨k1,k2,hdd⟩:=h
 have H:=St.one k1
 have HK:Ks w ((pA X).sep ((blk b (.cells cs 250)).sep (rowsA encIt 254 4 mv rs))).fp [deA]:=⟨by simpa using k2,by simpa using fun b hb hm=>hdd b hm hb⟩
 generalize ((pA X).sep ((blk b (.cells cs 250)).sep (rowsA encIt 254 4 mv rs))).fp=N at *
 replace H:=H.sep
 replace H:=(H.pick (.there .here)).sep
 clear k1 k2 hdd
 have C0:=Lib.hid c0
 have C11:=Lib.hid c11
 have HXX:=Lib.hid hX
 have HI:=Lib.hid hits
 have HTIE:=Lib.hid htie
 have HL:=Lib.hid (And.intro hcnt (And.intro hlen hroom))
 have HML:Hid (rs.length=M.length):=Lib.hid hits.len
 obtain ⟨am,cm,em,_⟩:=rowsA_shape (H.get (A:=rowsA encIt 254 4 mv rs) pk)
 subst em
 obtain ⟨n,hn⟩:∃ n,rs.length=n:=⟨_,rfl⟩
 have hrn:n≤1048576:=by have:=hits.len;have:=tie_len htie;omega
 have HN:=Lib.hid hn
 simp only [hn] at H C11
 have H0:=H.empty (A:=rowsA encIt 254 4 (.slice none 0 0) []) (rowsA_nil _) (by rw [rowsA_fp];rfl)
 clear hX c0 c11 hits htie hcnt hlen hroom H hn
 have H:=H0
 clear H0
 go_enter Tryz.func168,Tryz.ntmps168
 go_wp2_with (first|refine sL ?_|(refine sS ?_;clear H;intros;rename_i H))
 rename_i b5 _ _ _
 go_loopg [4,6,14] n (fun m v4 v6 v14 wr=>MtRel X b b5 cs (.slice am n cm) rs M N w m v4 v6 v14 wr)
 case atStart=>exact ⟨0,X,[],none,[],0,0,0,0,Nat.zero_le _,by rw [HN.out];rfl,rfl,rfl,⟨.refl _,HXX.out,trivial,rfl,fun j hj=>by simp at hj,rfl,by simp [expI_nil,Option.toList],by simp [expI_nil,Option.toList],by simpa [Option.toList,lenL] using HL.out.2.1⟩,H.picks (.cons (A:=pA X) pk (.cons (A:=blk b (.cells cs 250)) pk (.cons (A:=rowsA encIt 254 4 (.slice am n cm) rs) pk (.cons (A:=rowsA encIt 254 4 (.slice none 0 0) []) pk (.cons (A:=blk b5 (.cells #[.int .i64 0,.int .i64 0,.int .u64 0,.int .i64 0] 254)) pk .nil)))))⟩
 case round =>
  clear H
  obtain ⟨k,X1,l,o,acc,oi,ox,oy,ot,hk0,rfl,rfl,rfl,hin,H⟩:=hrel
  rw [HN.out] at hk0
  have C0:Hid (cs[0]?=some (.pointer (some ⟨X.p,0,none⟩))):=C0
  by_cases hk:k<n
  ·have d1:decide ((k:Int)<(n:Int))=true:=by simp;omega
   have d2:decide (k<n)=true:=by simp;omega
   obtain ⟨i,hi⟩:∃ i,M[k]?=some i:=⟨M[k]'(by rw [← HML.out,HN.out];exact hk),by simp⟩
   obtain ⟨r,hr,hio0⟩:=HI.out.get hi
   have hio:=hio0.le HXX.out.ok hin.ext.le
   obtain ⟨gm,cm2,e9,_⟩:=rowsA_cases (H.get (A:=rowsA encIt 254 4 (.slice am n cm) rs) pk) (by rw [HN.out];omega)
   injection e9 with e9 e7 e8
   subst e9 e8
   clear e7
   have HRX:Hid (∀ w,(rowsA encIt 254 4 (.slice (some ⟨gm,0,none⟩) n cm) rs).ho w→w.rangeAt gm (k*4) [.int .i64 r.id,.int .i64 r.nx,.int .u64 r.ky,.int .i64 r.n]):=Lib.hid fun w h=>rowsA_rng h encIt_len hr
   have hti:=HTIE.out i (List.mem_of_getElem? hi)
   have hnb:r.n≤1048576:=by rw [hio.n];have h1:=item_n_le (List.mem_of_getElem? hi);have:=HL.out.1;omega
   cases o with
   |none =>
    have hoi:oi=0:=hin.odd
    subst hoi
    have hsgL:Sg l:=hin.sg
    have hitsL:ItsOf X1.S l acc:=hin.its
    have hlenL:(expI l).length=(expI l).length+(none:Option Tr).toList.length:=rfl
    have hblast:=hin.last HL.out.1
    cases hnx:i.nx with
    |none =>
     have hin1:i.n=1:=by rcases hti.2 with h|⟨y,h,_⟩;exact h.2;rw [hnx] at h;cases h
     have hrx:r.nx=0:=hio.nx_zero.2 hnx
     obtain ⟨ri,rx,ry,rt⟩:=r
     simp only at hrx
     subst hrx
     have hms:mStr1 (l,none) i=(l,some i.x):=by unfold mStr1 mStr0;simp only [hnx]
     have HNX:Hid (MtIn X X1 M (k+1) l (some i.x) acc ⟨ri,0,ry,rt⟩):=Lib.hid (hin.next hi (.refl _) hin.ok hms hitsL ⟨hio.den,hio.ky,by rw [hio.n,hin1],rfl⟩ hsgL (by rw [exp_none hnx hin1];simp only [Option.toList,List.length_cons,List.length_nil] at hlenL ⊢;omega) (by rw [exp_none hnx hin1];simp only [Option.toList,List.length_cons,List.length_nil] at hlenL ⊢;omega) (by rw [exp_none hnx hin1];simp only [Option.toList];omega))
     clear hi hr hio hio0 hti hin hsgL hitsL hlenL hblast hnb hnx hin1 hms
     go_wp2_with (first|refine sL ?_|(refine sS ?_;clear H;intros;rename_i H)|((with_reducible refine isLoad ?_);refine AtLoad.rngT rfl rfl rfl (HRX.out _ (H.get (A:=rowsA encIt 254 4 (.slice (some ⟨gm,0,none⟩) n cm) rs) pk)) rfl ?_;simp only [Act.put,puA,puB,puC]))
     go_roundg (n-(k+1))
     case measure=>have:=HN.out;omega
     case rel=>exact ⟨k+1,X1,l,(some i.x),acc,ri,0,ry,rt,by rw [HN.out];omega,by rw [HN.out],rfl,by simp,HNX.out,H.picks (.cons (A:=pA X1) pk (.cons (A:=blk b (.cells cs 250)) pk (.cons (A:=rowsA encIt 254 4 (.slice (some ⟨gm,0,none⟩) n cm) rs) pk (.cons (A:=rowsA encIt 254 4 u4 acc) pk (.cons (A:=blk b5 (.cells #[.int .i64 ri,.int .i64 0,.int .u64 ry,.int .i64 rt] 254)) pk .nil)))))⟩
    |some y =>
     have hdy:Den X1.S r.nx y:=by have:=hio.nx;rw [hnx] at this;exact this
     have hy1:=hdy.1
     have d6:((r.nx:Int)==0)=false:=by simp;omega
     have hll:=exp_some_lenL hnx hti.1
     have hel:=exp_some_len hnx
     obtain ⟨p1,p2⟩:=push_lenN (i:=⟨.pair i.x y,none,i.n⟩) hsgL rfl hti.1
     simp only at p2
     have hms:mStr1 (l,none) i=(pushI l ⟨.pair i.x y,none,i.n⟩,none):=by unfold mStr1 mStr0;simp only [hnx]
     have hrn:=hio.n
     have HPP:Hid (∀ va w,(((pA X1).sep ((blk b (.cells cs 250)).sep (rowsA encIt 254 4 va acc))).sep deA).ho w→Calls Tryz.prog 184 #[.pointer (some ⟨b,0,none⟩),va,.int .i64 r.id,.int .i64 r.nx,.int .i64 r.n] w fun e w'=>∃ (X':Px) (v':Value) (rs':List ItR),e=.returned (.tuple #[v',.nilIface])∧X1.Ext X'∧PxOk X'∧X'.S.list.length≤X1.S.list.length+1∧ItsOf X'.S (pushI l ⟨.pair i.x y,none,i.n⟩) rs'∧St w ((pA X1).sep ((blk b (.cells cs 250)).sep (rowsA encIt 254 4 va acc))).fp [pA X',blk b (.cells cs 250),rowsA encIt 254 4 v' rs'] w'):=Lib.hid fun va w h=>by
      have:=pushPair_c (b:=b) (n:=r.n) (v:=va) hin.ok (by rw [hin.ext.p];exact C0.out) hio.den hdy (by have:=hin.len;rw [drop_one hi,expI_cons,lenL_append] at this;omega) (by have h1:=hin.sum;rw [drop_one hi,expI_cons,List.length_append,hel] at h1;have h2:=HL.out.2.2;have h3:X1.S.most=X.S.most:=hin.ext.le.1;have h4:=hti.1;omega) hitsL (by have:=hblast;omega) (fun j hj=>by have h1:=hblast.2 j hj;have:=hnb;omega) (by have:=hnb;omega) w h
      rw [← hrn]
      exact this
     have HNX:Hid (∀ X2 ac2,X1.Ext X2→PxOk X2→X2.S.list.length≤X1.S.list.length+1→ItsOf X2.S (pushI l ⟨.pair i.x y,none,i.n⟩) ac2→MtIn X X2 M (k+1) (pushI l ⟨.pair i.x y,none,i.n⟩) none ac2 ⟨0,ox,oy,ot⟩):=Lib.hid fun X2 ac2 q1 q2 q3 q4=>hin.next hi q1 q2 hms q4 rfl p1 (by rw [hel,p2];simp only [Option.toList,List.length_cons,List.length_nil] at hlenL ⊢;have:=hti.1;omega) (by rw [hel,p2];simp only [Option.toList,List.length_cons,List.length_nil] at hlenL ⊢;have:=hti.1;omega) (by simp [Option.toList,lenL])
     clear hi hr hio hio0 hti hin hsgL hitsL hlenL hblast hnb hnx hdy hy1 hll hel p1 p2 hms hrn
     go_wp2_with (first|refine sL ?_|(refine sS ?_;clear H;intros;rename_i H)|((with_reducible refine isLoad ?_);refine AtLoad.rngT rfl rfl rfl (HRX.out _ (H.get (A:=rowsA encIt 254 4 (.slice (some ⟨gm,0,none⟩) n cm) rs) pk)) rfl ?_;simp only [Act.put,puA,puB,puC])|(go_at_call 184;with_reducible refine Calls.mono (HPP.out u4 _ ((St.join3 (H.pick3 (A:=pA X1) (B:=blk b (.cells cs 250)) (C:=rowsA encIt 254 4 u4 acc) pk pk pk)).sepK HK pk pk)) ?_;rintro e wc ⟨X2,v2,ac2,rfl,m1,m2,m3,m4,hb⟩;have HM2:=Lib.hid (And.intro m1 (And.intro m2 (And.intro m3 m4)));clear m1 m2 m3 m4;replace H:=(St.join3 (H.pick3 (A:=pA X1) (B:=blk b (.cells cs 250)) (C:=rowsA encIt 254 4 u4 acc) pk pk pk)).call hb;clear hb;simp only [List.cons_append,List.nil_append] at H))
     go_roundg (n-(k+1))
     case measure=>have:=HN.out;omega
     case rel=>exact ⟨k+1,X2,_,none,ac2,0,ox,oy,ot,by rw [HN.out];omega,by rw [HN.out],rfl,by simp,HNX.out X2 ac2 HM2.out.1 HM2.out.2.1 HM2.out.2.2.1 HM2.out.2.2.2,H.picks (.cons (A:=pA X2) pk (.cons (A:=blk b (.cells cs 250)) pk (.cons (A:=rowsA encIt 254 4 (.slice (some ⟨gm,0,none⟩) n cm) rs) pk (.cons (A:=rowsA encIt 254 4 v2 ac2) pk (.cons (A:=blk b5 (.cells #[.int .i64 0,.int .i64 ox,.int .u64 oy,.int .i64 ot] 254)) pk .nil)))))⟩
   |some t =>
    have hto:ItOf X1.S ⟨t,none,1⟩ ⟨oi,ox,oy,ot⟩:=hin.odd
    have hot:ot=1:=hto.n
    have hoi1:1≤oi:=hto.den.1
    have hox:ox=0:=hto.nx
    subst hot
    subst hox
    have d5:((oi:Int)==0)=false:=by simp;omega
    have d5n:((oi:Int) != 0)=true:=by simp;omega
    have hkk:(oy=r.ky)↔t.key=i.x.key:=by rw [hio.ky,show oy=t.key from hto.ky]
    by_cases hke:t.key=i.x.key
    ·have hey:=hkk.2 hke
     have d6a:((oy:Int) != (r.ky:Int))=false:=by simp [hey]
     have d6b:((oy:Int)==(r.ky:Int))=true:=by simp [hey]
     clear hkk
     have hrn:=hio.n
     have hlast:=hin.last HL.out.1
     obtain ⟨p1,p2⟩:=push_lenN (i:=⟨.pair t i.x,none,1⟩) hin.sg rfl (Nat.le_refl _)
     simp only at p2
     have hsum:=hin.sum
     have hcnt:=hin.cnt
     have hlen:=hin.len
     rw [drop_one hi,expI_cons] at hsum hcnt hlen
     rw [lenL_append] at hlen
     simp only [List.length_append,Option.toList,List.length_cons,List.length_nil,lenL_cons] at hsum hcnt hlen
     have hmost:X1.S.most=X.S.most:=hin.ext.le.1
     have hexl:1≤i.exp.length:=tieI_len hti
     have htx:t.len+i.x.len≤maxT:=by
      have h1:i.x.len≤lenL i.exp:=by
       rcases hti.2 with h|⟨y,h,_⟩
       ·rw [exp_none h.1 h.2];simp [lenL]
       ·have:=exp_some_lenL h hti.1;omega
      omega
     have HP1:Hid (∀ w,(((pA X1).sep ((blk b (.cells cs 250)).sep (rowsA encIt 254 4 u4 acc))).sep deA).ho w→Calls Tryz.prog 184 #[.pointer (some ⟨b,0,none⟩),u4,.int .i64 oi,.int .i64 r.id,.int .i64 1] w fun e w'=>∃ (X':Px) (v':Value) (rs':List ItR),e=.returned (.tuple #[v',.nilIface])∧X1.Ext X'∧PxOk X'∧X'.S.list.length≤X1.S.list.length+1∧ItsOf X'.S (pushI l ⟨.pair t i.x,none,1⟩) rs'∧St w ((pA X1).sep ((blk b (.cells cs 250)).sep (rowsA encIt 254 4 u4 acc))).fp [pA X',blk b (.cells cs 250),rowsA encIt 254 4 v' rs'] w'):=Lib.hid fun w h=>pushPair_c (b:=b) (n:=1) (v:=u4) hin.ok (by rw [hin.ext.p];exact C0.out) hto.den hio.den htx (by have h2:=HL.out.2.2;omega) hin.its (by have:=hlast.1;omega) (fun j hj=>by have h1:=hlast.2 j hj;omega) (by omega) w h
     cases hnx:i.nx with
     |none =>
      have hin1:i.n=1:=by rcases hti.2 with h|⟨y,h,_⟩;exact h.2;rw [hnx] at h;cases h
      have hrx:r.nx=0:=hio.nx_zero.2 hnx
      have hms:mStr1 (l,some t) i=((pushI l ⟨.pair t i.x,none,1⟩),none):=by unfold mStr1;simp only [if_pos hke,hnx]
      have d7:decide ((1:Int)<(r.n:Int))=false:=by simp;omega
      have d8:decide (1<r.n)=false:=by simp;omega
      have HNX:Hid (∀ X2 ac2,X1.Ext X2→PxOk X2→X2.S.list.length≤X1.S.list.length+1→ItsOf X2.S (pushI l ⟨.pair t i.x,none,1⟩) ac2→MtIn X X2 M (k+1) (pushI l ⟨.pair t i.x,none,1⟩) none ac2 ⟨r.nx,0,r.ky,1⟩):=Lib.hid fun X2 ac2 q1 q2 q3 q4=>hin.next hi q1 q2 hms q4 hrx p1 (by rw [p2];simp only [Option.toList,List.length_cons,List.length_nil];omega) (by rw [p2];simp only [Option.toList,List.length_cons,List.length_nil];omega) (by simp [Option.toList,lenL])
      clear hi hr hio hio0 hti hin hke hnx hin1 hrx hms hrn hlast p1 p2 hsum hcnt hlen hmost hexl htx hto
      go_wp2_with (first|refine sL ?_|(refine sS ?_;clear H;intros;rename_i H)|((with_reducible refine isLoad ?_);refine AtLoad.rngT rfl rfl rfl (HRX.out _ (H.get (A:=rowsA encIt 254 4 (.slice (some ⟨gm,0,none⟩) n cm) rs) pk)) rfl ?_;simp only [Act.put,puA,puB,puC])|(go_at_call 184;with_reducible refine Calls.mono (HP1.out _ ((St.join3 (H.pick3 (A:=pA X1) (B:=blk b (.cells cs 250)) (C:=rowsA encIt 254 4 u4 acc) pk pk pk)).sepK HK pk pk)) ?_;rintro e wc ⟨X2,v2,ac2,rfl,m1,m2,m3,m4,hb⟩;have HM2:=Lib.hid (And.intro m1 (And.intro m2 (And.intro m3 m4)));clear m1 m2 m3 m4;replace H:=(St.join3 (H.pick3 (A:=pA X1) (B:=blk b (.cells cs 250)) (C:=rowsA encIt 254 4 u4 acc) pk pk pk)).call hb;clear hb;simp only [List.cons_append,List.nil_append] at H))
      go_roundg (n-(k+1))
      case measure=>have:=HN.out;omega
      case rel=>exact ⟨k+1,X2,_,none,ac2,r.nx,0,r.ky,1,by rw [HN.out];omega,by rw [HN.out],rfl,by simp,HNX.out X2 ac2 HM2.out.1 HM2.out.2.1 HM2.out.2.2.1 HM2.out.2.2.2,H.picks (.cons (A:=pA X2) pk (.cons (A:=blk b (.cells cs 250)) pk (.cons (A:=rowsA encIt 254 4 (.slice (some ⟨gm,0,none⟩) n cm) rs) pk (.cons (A:=rowsA encIt 254 4 v2 ac2) pk (.cons (A:=blk b5 (.cells #[.int .i64 r.nx,.int .i64 0,.int .u64 r.ky,.int .i64 1] 254)) pk .nil)))))⟩
     |some y =>
      have hdy:Den X1.S r.nx y:=by have:=hio.nx;rw [hnx] at this;exact this
      have hyk:i.x.key=y.key:=by rcases hti.2 with h|⟨y',h,h'⟩;(rw [hnx] at h;cases h.1);(rw [hnx] at h;injection h with h;rw [h];exact h')
      have hel:=exp_some_len hnx
      have hll:=exp_some_lenL hnx hti.1
      have hodd:∀ X2:Px,X1.Ext X2→OddOf X2.S (some y) ⟨r.nx,0,r.ky,1⟩:=fun X2 q1=>⟨hdy.le hin.ok.ok q1.le,by simp only;rw [hio.ky,hyk],rfl,rfl⟩
      by_cases hn1:r.n=1
      ·have hms:mStr1 (l,some t) i=((pushI l ⟨.pair t i.x,none,1⟩),some y):=by unfold mStr1;simp only [if_pos hke,hnx];rw [if_neg (by omega)]
       have d7:decide ((1:Int)<(r.n:Int))=false:=by simp;omega
       have d8:decide (1<r.n)=false:=by simp;omega
       have HNX:Hid (∀ X2 ac2,X1.Ext X2→PxOk X2→X2.S.list.length≤X1.S.list.length+1→ItsOf X2.S (pushI l ⟨.pair t i.x,none,1⟩) ac2→MtIn X X2 M (k+1) (pushI l ⟨.pair t i.x,none,1⟩) (some y) ac2 ⟨r.nx,0,r.ky,1⟩):=Lib.hid fun X2 ac2 q1 q2 q3 q4=>hin.next hi q1 q2 hms q4 (hodd X2 q1) p1 (by rw [p2,hel];simp only [Option.toList,List.length_cons,List.length_nil];omega) (by rw [p2,hel];simp only [Option.toList,List.length_cons,List.length_nil];omega) (by simp only [Option.toList,lenL_cons];omega)
       clear hi hr hio hio0 hti hin hke hnx hdy hyk hel hll hodd hn1 hms hrn hlast p1 p2 hsum hcnt hlen hmost hexl htx hto
       go_wp2_with (first|refine sL ?_|(refine sS ?_;clear H;intros;rename_i H)|((with_reducible refine isLoad ?_);refine AtLoad.rngT rfl rfl rfl (HRX.out _ (H.get (A:=rowsA encIt 254 4 (.slice (some ⟨gm,0,none⟩) n cm) rs) pk)) rfl ?_;simp only [Act.put,puA,puB,puC])|(go_at_call 184;with_reducible refine Calls.mono (HP1.out _ ((St.join3 (H.pick3 (A:=pA X1) (B:=blk b (.cells cs 250)) (C:=rowsA encIt 254 4 u4 acc) pk pk pk)).sepK HK pk pk)) ?_;rintro e wc ⟨X2,v2,ac2,rfl,m1,m2,m3,m4,hb⟩;have HM2:=Lib.hid (And.intro m1 (And.intro m2 (And.intro m3 m4)));clear m1 m2 m3 m4;replace H:=(St.join3 (H.pick3 (A:=pA X1) (B:=blk b (.cells cs 250)) (C:=rowsA encIt 254 4 u4 acc) pk pk pk)).call hb;clear hb;simp only [List.cons_append,List.nil_append] at H))
       go_roundg (n-(k+1))
       case measure=>have:=HN.out;omega
       case rel=>exact ⟨k+1,X2,_,(some y),ac2,r.nx,0,r.ky,1,by rw [HN.out];omega,by rw [HN.out],rfl,by simp,HNX.out X2 ac2 HM2.out.1 HM2.out.2.1 HM2.out.2.2.1 HM2.out.2.2.2,H.picks (.cons (A:=pA X2) pk (.cons (A:=blk b (.cells cs 250)) pk (.cons (A:=rowsA encIt 254 4 (.slice (some ⟨gm,0,none⟩) n cm) rs) pk (.cons (A:=rowsA encIt 254 4 v2 ac2) pk (.cons (A:=blk b5 (.cells #[.int .i64 r.nx,.int .i64 0,.int .u64 r.ky,.int .i64 1] 254)) pk .nil)))))⟩
      ·have hn2:1<i.n:=by have:=hti.1;omega
       have hms:mStr1 (l,some t) i=(pushI (pushI l ⟨.pair t i.x,none,1⟩) ⟨.pair y i.x,none,i.n-1⟩,some y):=by unfold mStr1;simp only [if_pos hke,hnx];rw [if_pos hn2]
       have d7:decide ((1:Int)<(r.n:Int))=true:=by simp;omega
       have d8:decide (1<r.n)=true:=by simp;omega
       obtain ⟨nm,hnm⟩:∃ nm,i.n-1=nm:=⟨_,rfl⟩
       have i7:(r.n:Int)-1=(nm:Nat):=by omega
       have hnmb:nm≤1048576:=by omega
       obtain ⟨p3,p4⟩:=push_lenN (i:=⟨.pair y i.x,none,nm⟩) p1 rfl (by show 1≤nm;omega)
       simp only at p4
       rw [hnm] at hms
       have HP2:Hid (∀ X2 v2 ac2,(X1.Ext X2∧PxOk X2∧X2.S.list.length≤X1.S.list.length+1∧ItsOf X2.S (pushI l ⟨.pair t i.x,none,1⟩) ac2)→∀ w,(((pA X2).sep ((blk b (.cells cs 250)).sep (rowsA encIt 254 4 v2 ac2))).sep deA).ho w→Calls Tryz.prog 184 #[.pointer (some ⟨b,0,none⟩),v2,.int .i64 r.nx,.int .i64 r.id,.int .i64 nm] w fun e w'=>∃ (X':Px) (v':Value) (rs':List ItR),e=.returned (.tuple #[v',.nilIface])∧X2.Ext X'∧PxOk X'∧X'.S.list.length≤X2.S.list.length+1∧ItsOf X'.S (pushI (pushI l ⟨.pair t i.x,none,1⟩) ⟨.pair y i.x,none,nm⟩) rs'∧St w ((pA X2).sep ((blk b (.cells cs 250)).sep (rowsA encIt 254 4 v2 ac2))).fp [pA X',blk b (.cells cs 250),rowsA encIt 254 4 v' rs'] w'):=Lib.hid fun X2 v2 ac2 q w h=>by
        have hil:=its_last q.2.2.2 p1
        have h9:=HL.out.1
        refine pushPair_c (b:=b) (n:=nm) (v:=v2) q.2.1 (by rw [(hin.ext.trans q.1).p];exact C0.out) (hdy.le hin.ok.ok q.1.le) (hio.den.le hin.ok.ok q.1.le) (by omega) ?_ q.2.2.2 (by omega) (fun j hj=>by have h1:=hil.2 j hj;omega) (by omega) w h
        have h2:=HL.out.2.2
        have h3:X2.S.most=X1.S.most:=q.1.le.1
        have h4:=q.2.2.1
        omega
       have HNX:Hid (∀ X2 ac2 X3 ac3,(X1.Ext X2∧PxOk X2∧X2.S.list.length≤X1.S.list.length+1∧ItsOf X2.S (pushI l ⟨.pair t i.x,none,1⟩) ac2)→(X2.Ext X3∧PxOk X3∧X3.S.list.length≤X2.S.list.length+1∧ItsOf X3.S (pushI (pushI l ⟨.pair t i.x,none,1⟩) ⟨.pair y i.x,none,nm⟩) ac3)→MtIn X X3 M (k+1) (pushI (pushI l ⟨.pair t i.x,none,1⟩) ⟨.pair y i.x,none,nm⟩) (some y) ac3 ⟨r.nx,0,r.ky,1⟩):=Lib.hid fun X2 ac2 X3 ac3 q z=>hin.next hi (q.1.trans z.1) z.2.1 hms z.2.2.2 (hodd X3 (q.1.trans z.1)) p3 (by rw [p4,p2,hel];simp only [Option.toList,List.length_cons,List.length_nil];have:=q.2.2.1;have:=z.2.2.1;omega) (by rw [p4,p2,hel];simp only [Option.toList,List.length_cons,List.length_nil];omega) (by simp only [Option.toList,lenL_cons];omega)
       clear hi hr hio hio0 hti hin hke hnx hdy hyk hel hll hodd hn1 hn2 hms hrn hlast p1 p2 p3 p4 hsum hcnt hlen hmost hexl htx hto hnm
       go_wp2_with (first|refine sL ?_|(refine sS ?_;clear H;intros;rename_i H)|((with_reducible refine isLoad ?_);refine AtLoad.rngT rfl rfl rfl (HRX.out _ (H.get (A:=rowsA encIt 254 4 (.slice (some ⟨gm,0,none⟩) n cm) rs) pk)) rfl ?_;simp only [Act.put,puA,puB,puC])|(first|(go_at_call 184;with_reducible refine Calls.mono (HP1.out _ ((St.join3 (H.pick3 (A:=pA X1) (B:=blk b (.cells cs 250)) (C:=rowsA encIt 254 4 u4 acc) pk pk pk)).sepK HK pk pk)) ?_;rintro e wc ⟨X2,v2,ac2,rfl,m1,m2,m3,m4,hb⟩;have HM2:=Lib.hid (And.intro m1 (And.intro m2 (And.intro m3 m4)));clear m1 m2 m3 m4;replace H:=(St.join3 (H.pick3 (A:=pA X1) (B:=blk b (.cells cs 250)) (C:=rowsA encIt 254 4 u4 acc) pk pk pk)).call hb;clear hb;simp only [List.cons_append,List.nil_append] at H)|(go_at_call 184;with_reducible refine Calls.mono (HP2.out X2 v2 ac2 HM2.out _ ((St.join3 (H.pick3 (A:=pA X2) (B:=blk b (.cells cs 250)) (C:=rowsA encIt 254 4 v2 ac2) pk pk pk)).sepK HK pk pk)) ?_;rintro e wc ⟨X3,v3,ac3,rfl,m1,m2,m3,m4,hb⟩;have HM3:=Lib.hid (And.intro m1 (And.intro m2 (And.intro m3 m4)));clear m1 m2 m3 m4;replace H:=(St.join3 (H.pick3 (A:=pA X2) (B:=blk b (.cells cs 250)) (C:=rowsA encIt 254 4 v2 ac2) pk pk pk)).call hb;clear hb;simp only [List.cons_append,List.nil_append] at H)))
       go_roundg (n-(k+1))
       case measure=>have:=HN.out;omega
       case rel=>exact ⟨k+1,X3,_,(some y),ac3,r.nx,0,r.ky,1,by rw [HN.out];omega,by rw [HN.out],rfl,by simp,HNX.out X2 ac2 X3 ac3 HM2.out HM3.out,H.picks (.cons (A:=pA X3) pk (.cons (A:=blk b (.cells cs 250)) pk (.cons (A:=rowsA encIt 254 4 (.slice (some ⟨gm,0,none⟩) n cm) rs) pk (.cons (A:=rowsA encIt 254 4 v3 ac3) pk (.cons (A:=blk b5 (.cells #[.int .i64 r.nx,.int .i64 0,.int .u64 r.ky,.int .i64 1] 254)) pk .nil)))))⟩
    ·have hne:¬ oy=r.ky:=fun e=>hke (hkk.1 e)
     have d6a:((oy:Int) != (r.ky:Int))=true:=by simp;omega
     have d6b:((oy:Int)==(r.ky:Int))=false:=by simp;omega
     have hlast:=hin.last HL.out.1
     obtain ⟨p5,p6⟩:=push_lenN (i:=⟨t,none,1⟩) hin.sg rfl (Nat.le_refl _)
     have hsgL:=p5
     have hitsL:=push_its hin.ok.ok hin.its hto
     have hlenL:(expI (pushI l ⟨t,none,1⟩)).length=(expI l).length+(some t).toList.length:=p6
     have hblast:(pushR acc ⟨oi,0,oy,1⟩).length≤1048577∧∀ j,(pushR acc ⟨oi,0,oy,1⟩).getLast?=some j→j.n≤1048577:=by
      have h1:=its_last hitsL p5
      have h2:=hin.cnt
      have h3:=HL.out.1
      simp only [Option.toList,List.length_cons,List.length_nil] at hlenL h2
      exact ⟨by omega,fun j hj=>by have:=h1.2 j hj;omega⟩
     have HPU:Hid (∀ w,(rowsA encIt 254 4 u4 acc).ho w→Calls Tryz.prog 183 #[u4,.agg #[.int .i64 oi,.int .i64 0,.int .u64 oy,.int .i64 1]] w fun e w'=>∃ v',e=.returned v'∧St w (rowsA encIt 254 4 u4 acc).fp [rowsA encIt 254 4 v' (pushR acc ⟨oi,0,oy,1⟩)] w'):=Lib.hid fun w h=>push_c (x:=⟨oi,0,oy,1⟩) (by have:=hlast.1;omega) (fun j hj=>by have:=hlast.2 j hj;simp only;omega) w h
     clear hkk hne p5 p6 hlast
     cases hnx:i.nx with
     |none =>
      have hin1:i.n=1:=by rcases hti.2 with h|⟨y,h,_⟩;exact h.2;rw [hnx] at h;cases h
      have hrx:r.nx=0:=hio.nx_zero.2 hnx
      obtain ⟨ri,rx,ry,rt⟩:=r
      simp only at hrx
      subst hrx
      have hms:mStr1 (l,(some t)) i=((pushI l ⟨t,none,1⟩),some i.x):=by unfold mStr1;simp only [if_neg hke,mStr0,hnx]
      have HNX:Hid (MtIn X X1 M (k+1) (pushI l ⟨t,none,1⟩) (some i.x) (pushR acc ⟨oi,0,oy,1⟩) ⟨ri,0,ry,rt⟩):=Lib.hid (hin.next hi (.refl _) hin.ok hms hitsL ⟨hio.den,hio.ky,by rw [hio.n,hin1],rfl⟩ hsgL (by rw [exp_none hnx hin1];simp only [Option.toList,List.length_cons,List.length_nil] at hlenL ⊢;omega) (by rw [exp_none hnx hin1];simp only [Option.toList,List.length_cons,List.length_nil] at hlenL ⊢;omega) (by rw [exp_none hnx hin1];simp only [Option.toList];omega))
      clear hi hr hio hio0 hti hin hsgL hitsL hlenL hblast hnb hke hto hnx hin1 hms
      go_wp2_with (first|refine sL ?_|(refine sS ?_;clear H;intros;rename_i H)|((with_reducible refine isLoad ?_);refine AtLoad.rngT rfl rfl rfl (HRX.out _ (H.get (A:=rowsA encIt 254 4 (.slice (some ⟨gm,0,none⟩) n cm) rs) pk)) rfl ?_;simp only [Act.put,puA,puB,puC])|(go_at_call 183;with_reducible refine Calls.mono (HPU.out _ (H.get (A:=rowsA encIt 254 4 u4 acc) pk)) ?_;rintro e wc ⟨v',rfl,hb⟩;replace H:=(H.pick (A:=rowsA encIt 254 4 u4 acc) pk).call hb;clear hb;simp only [List.cons_append,List.nil_append] at H))
      go_roundg (n-(k+1))
      case measure=>have:=HN.out;omega
      case rel=>exact ⟨k+1,X1,(pushI l ⟨t,none,1⟩),(some i.x),(pushR acc ⟨oi,0,oy,1⟩),ri,0,ry,rt,by rw [HN.out];omega,by rw [HN.out],rfl,by simp,HNX.out,H.picks (.cons (A:=pA X1) pk (.cons (A:=blk b (.cells cs 250)) pk (.cons (A:=rowsA encIt 254 4 (.slice (some ⟨gm,0,none⟩) n cm) rs) pk (.cons (A:=rowsA encIt 254 4 v' (pushR acc ⟨oi,0,oy,1⟩)) pk (.cons (A:=blk b5 (.cells #[.int .i64 ri,.int .i64 0,.int .u64 ry,.int .i64 rt] 254)) pk .nil)))))⟩
     |some y =>
      have hdy:Den X1.S r.nx y:=by have:=hio.nx;rw [hnx] at this;exact this
      have hy1:=hdy.1
      have d6:((r.nx:Int)==0)=false:=by simp;omega
      have hll:=exp_some_lenL hnx hti.1
      have hel:=exp_some_len hnx
      obtain ⟨p1,p2⟩:=push_lenN (i:=⟨.pair i.x y,none,i.n⟩) hsgL rfl hti.1
      simp only at p2
      have hms:mStr1 (l,(some t)) i=(pushI (pushI l ⟨t,none,1⟩) ⟨.pair i.x y,none,i.n⟩,none):=by unfold mStr1;simp only [if_neg hke,mStr0,hnx]
      have hrn:=hio.n
      have HPP:Hid (∀ va w,(((pA X1).sep ((blk b (.cells cs 250)).sep (rowsA encIt 254 4 va (pushR acc ⟨oi,0,oy,1⟩)))).sep deA).ho w→Calls Tryz.prog 184 #[.pointer (some ⟨b,0,none⟩),va,.int .i64 r.id,.int .i64 r.nx,.int .i64 r.n] w fun e w'=>∃ (X':Px) (v':Value) (rs':List ItR),e=.returned (.tuple #[v',.nilIface])∧X1.Ext X'∧PxOk X'∧X'.S.list.length≤X1.S.list.length+1∧ItsOf X'.S (pushI (pushI l ⟨t,none,1⟩) ⟨.pair i.x y,none,i.n⟩) rs'∧St w ((pA X1).sep ((blk b (.cells cs 250)).sep (rowsA encIt 254 4 va (pushR acc ⟨oi,0,oy,1⟩)))).fp [pA X',blk b (.cells cs 250),rowsA encIt 254 4 v' rs'] w'):=Lib.hid fun va w h=>by
       have:=pushPair_c (b:=b) (n:=r.n) (v:=va) hin.ok (by rw [hin.ext.p];exact C0.out) hio.den hdy (by have:=hin.len;rw [drop_one hi,expI_cons,lenL_append] at this;omega) (by have h1:=hin.sum;rw [drop_one hi,expI_cons,List.length_append,hel] at h1;have h2:=HL.out.2.2;have h3:X1.S.most=X.S.most:=hin.ext.le.1;have h4:=hti.1;omega) hitsL (by have:=hblast;omega) (fun j hj=>by have h1:=hblast.2 j hj;have:=hnb;omega) (by have:=hnb;omega) w h
       rw [← hrn]
       exact this
      have HNX:Hid (∀ X2 ac2,X1.Ext X2→PxOk X2→X2.S.list.length≤X1.S.list.length+1→ItsOf X2.S (pushI (pushI l ⟨t,none,1⟩) ⟨.pair i.x y,none,i.n⟩) ac2→MtIn X X2 M (k+1) (pushI (pushI l ⟨t,none,1⟩) ⟨.pair i.x y,none,i.n⟩) none ac2 ⟨0,0,oy,1⟩):=Lib.hid fun X2 ac2 q1 q2 q3 q4=>hin.next hi q1 q2 hms q4 rfl p1 (by rw [hel,p2];simp only [Option.toList,List.length_cons,List.length_nil] at hlenL ⊢;have:=hti.1;omega) (by rw [hel,p2];simp only [Option.toList,List.length_cons,List.length_nil] at hlenL ⊢;have:=hti.1;omega) (by simp [Option.toList,lenL])
      clear hi hr hio hio0 hti hin hsgL hitsL hlenL hblast hnb hke hto hnx hdy hy1 hll hel p1 p2 hms hrn
      go_wp2_with (first|refine sL ?_|(refine sS ?_;clear H;intros;rename_i H)|((with_reducible refine isLoad ?_);refine AtLoad.rngT rfl rfl rfl (HRX.out _ (H.get (A:=rowsA encIt 254 4 (.slice (some ⟨gm,0,none⟩) n cm) rs) pk)) rfl ?_;simp only [Act.put,puA,puB,puC])|(go_at_call 183;with_reducible refine Calls.mono (HPU.out _ (H.get (A:=rowsA encIt 254 4 u4 acc) pk)) ?_;rintro e wc ⟨v',rfl,hb⟩;replace H:=(H.pick (A:=rowsA encIt 254 4 u4 acc) pk).call hb;clear hb;simp only [List.cons_append,List.nil_append] at H)|(go_at_call 184;with_reducible refine Calls.mono (HPP.out v' _ ((St.join3 (H.pick3 (A:=pA X1) (B:=blk b (.cells cs 250)) (C:=rowsA encIt 254 4 v' (pushR acc ⟨oi,0,oy,1⟩)) pk pk pk)).sepK HK pk pk)) ?_;rintro e wc ⟨X2,v2,ac2,rfl,m1,m2,m3,m4,hb⟩;have HM2:=Lib.hid (And.intro m1 (And.intro m2 (And.intro m3 m4)));clear m1 m2 m3 m4;replace H:=(St.join3 (H.pick3 (A:=pA X1) (B:=blk b (.cells cs 250)) (C:=rowsA encIt 254 4 v' (pushR acc ⟨oi,0,oy,1⟩)) pk pk pk)).call hb;clear hb;simp only [List.cons_append,List.nil_append] at H))
      go_roundg (n-(k+1))
      case measure=>have:=HN.out;omega
      case rel=>exact ⟨k+1,X2,_,none,ac2,0,0,oy,1,by rw [HN.out];omega,by rw [HN.out],rfl,by simp,HNX.out X2 ac2 HM2.out.1 HM2.out.2.1 HM2.out.2.2.1 HM2.out.2.2.2,H.picks (.cons (A:=pA X2) pk (.cons (A:=blk b (.cells cs 250)) pk (.cons (A:=rowsA encIt 254 4 (.slice (some ⟨gm,0,none⟩) n cm) rs) pk (.cons (A:=rowsA encIt 254 4 v2 ac2) pk (.cons (A:=blk b5 (.cells #[.int .i64 0,.int .i64 0,.int .u64 oy,.int .i64 1] 254)) pk .nil)))))⟩
  ·have hkn:k=n:=by omega
   subst hkn
   have d1:decide ((k:Int)<(k:Int))=false:=by simp
   have d2:decide (k<k)=false:=by simp
   have e1:M.drop k=[]:=List.drop_of_length_le (by rw [← HML.out,HN.out];exact Nat.le_refl _)
   have hw:=hin.way
   rw [e1] at hw
   simp only [List.foldl_nil] at hw
   have hsm:=hin.sum
   rw [e1] at hsm
   simp only [expI_nil,List.length_nil] at hsm
   have HEO:=Lib.hid (And.intro hin.ext hin.ok)
   cases o with
   |none =>
    have hoi:oi=0:=hin.odd
    subst hoi
    have HFN:Hid (ItsOf X1.S (mStrE (M.foldl mStr1 ([],none))) acc∧X1.S.list.length+(expI (mStrE (M.foldl mStr1 ([],none)))).length≤X.S.list.length+(expI M).length):=Lib.hid (by
     rw [← hw]
     exact ⟨hin.its,by simp only [mStrE];simp only [Option.toList,List.length_nil] at hsm;omega⟩)
    clear hin hk0 hw hsm e1
    go_wp2_with (first|refine sL ?_|(refine sS ?_;clear H;intros;rename_i H))
    go_ret2
    exact ⟨X1,_,acc,rfl,HEO.out.1,HEO.out.2,HFN.out.1,HFN.out.2,H.picks (.cons (A:=pA X1) pk (.cons (A:=blk b (.cells cs 250)) pk (.cons (A:=rowsA encIt 254 4 u4 acc) pk .nil)))⟩
   |some t =>
    have hto:ItOf X1.S ⟨t,none,1⟩ ⟨oi,ox,oy,ot⟩:=hin.odd
    have hot:ot=1:=hto.n
    have hoi1:1≤oi:=hto.den.1
    have d5:((oi:Int)==0)=false:=by simp;omega
    have d5n:((oi:Int) != 0)=true:=by simp;omega
    have hlast:=hin.last HL.out.1
    have HPU:Hid (∀ w,(rowsA encIt 254 4 u4 acc).ho w→Calls Tryz.prog 183 #[u4,.agg #[.int .i64 oi,.int .i64 ox,.int .u64 oy,.int .i64 ot]] w fun e w'=>∃ v',e=.returned v'∧St w (rowsA encIt 254 4 u4 acc).fp [rowsA encIt 254 4 v' (pushR acc ⟨oi,ox,oy,ot⟩)] w'):=Lib.hid fun w h=>push_c (x:=⟨oi,ox,oy,ot⟩) (by have:=hlast.1;omega) (fun j hj=>by have:=hlast.2 j hj;simp only;omega) w h
    have HFN:Hid (ItsOf X1.S (mStrE (M.foldl mStr1 ([],none))) (pushR acc ⟨oi,ox,oy,ot⟩)∧X1.S.list.length+(expI (mStrE (M.foldl mStr1 ([],none)))).length≤X.S.list.length+(expI M).length):=Lib.hid (by
     rw [← hw]
     refine ⟨push_its hin.ok.ok hin.its hto,?_⟩
     simp only [mStrE]
     rw [(push_lenN (i:=⟨t,none,1⟩) hin.sg rfl (Nat.le_refl _)).2]
     simp only [Option.toList,List.length_cons,List.length_nil] at hsm
     simp only
     omega)
    clear hin hk0 hw hsm e1 hto hot hoi1 hlast
    go_wp2_with (first|refine sL ?_|(refine sS ?_;clear H;intros;rename_i H)|(go_at_call 183;with_reducible refine Calls.mono (HPU.out _ (H.get (A:=rowsA encIt 254 4 u4 acc) pk)) ?_;rintro e wc ⟨v',rfl,hb⟩;replace H:=(H.pick (A:=rowsA encIt 254 4 u4 acc) pk).call hb;clear hb;simp only [List.cons_append,List.nil_append] at H))
    go_ret2
    exact ⟨X1,_,_,rfl,HEO.out.1,HEO.out.2,HFN.out.1,HFN.out.2,H.picks (.cons (A:=pA X1) pk (.cons (A:=blk b (.cells cs 250)) pk (.cons (A:=rowsA encIt 254 4 v' (pushR acc ⟨oi,ox,oy,ot⟩)) pk .nil)))⟩
end
section
open Go.RowKit Go.Maps
attribute [local go_sem] InGr
attribute [local go_sem] StStep stAt stUpon in
theorem gatherRuns_c {a b':Tr} {lv:Nat} {X:Px} {b il kl ir kr:Nat} {cs:Array Value} {pl pr mv:Value} {fl fr:List Fr} {rs:List ItR} {d e:EndP} {M:List It} (hX:PxOk X) (hs:SpIn X cs pl fl il kl pr fr ir kr mv rs d e M) (hz:EndZ a d) (ga:a.Gd) (hal:a.lv≤25339) (hze:EndZ b' e) (gb:b'.Gd) (hbl:b'.lv≤25339) (h1:1≤lv) (hlv:lv<1152921504606846976) (ho:lv%2=1) (hb:rs.length≤2097152) (w:World) (h:((spA X b cs pl fl pr fr mv rs).sep deA).ho w) :
  Calls Tryz.prog 162 #[.pointer (some ⟨b,0,none⟩),.int .i64 lv] w (SpPost X b (spA X b cs pl fl pr fr mv rs).fp w (.tuple #[]) (gRunL lv d e M).1 (gRunR lv (gRunL lv d e M).1 e (gRunL lv d e M).2).1 (gRunR lv (gRunL lv d e M).1 e (gRunL lv d e M).2).2):=by
 rw [sep_ho] at h
 obtain ⟨k1,k2,hdd⟩:=h
 have H:=spA_open (St.one k1)
 have HK:Ks w (spA X b cs pl fl pr fr mv rs).fp [deA]:=⟨by simpa using k2,by simpa using fun b hb hm=>hdd b hm hb⟩
 generalize (spA X b cs pl fl pr fr mv rs).fp=N at *
 clear k1 k2 hdd
 have HX:=Lib.hid hX
 have HS:=Lib.hid hs
 have HLB:=Lib.hid hb
 have HE:=Lib.hid (And.intro hze (And.intro gb hbl))
 have HLN:Hid (rs.length≤4194304):=Lib.hid (by omega)
 have C11:=Lib.hid hs.c11
 have CI:=Lib.hid hs.c4
 have CK:=Lib.hid hs.c5
 obtain ⟨m,hm⟩:∃ m,lv-1=m:=⟨_,rfl⟩
 have i1:(lv:Int)-1=(m:Nat):=by omega
 have HM:Hid (m<9223372036854775808∧lv-1=m):=Lib.hid ⟨by omega,hm⟩
 have hhd:=head_sym hs.its hs.right.symOf
 have hfs:=fun w h=>first_c (b:=b) (mv:=mv) HLN.out hs.c11 hs.c9 hs.c10 w h
 obtain ⟨hn,hk,hnk⟩:∃ hn hk,fstN rs ir kr=(hn,hk):=⟨_,_,rfl⟩
 rw [hnk] at hhd hfs
 simp only at hhd hfs
 have HFS:=Lib.hid hfs
 clear hfs hnk hze gb hbl
 obtain ⟨p,sx⟩:=d
 have hsy:=hs.left.symOf
 simp only at hsy
 obtain ⟨⟨d1,M1⟩,hg1⟩:∃ g,gRunL lv (p,sx) e M=g:=⟨_,rfl⟩
 rw [hg1]
 simp only
 cases sx
 case' none =>
  have hi0:=hsy.1
  subst hi0
  rw [show gRunL lv (p,none) e M=((p,none),M) from rfl] at hg1
  injection hg1 with hg2 hg3
  have HG:=Lib.hid (And.intro hg2 hg3)
  clear hg2 hg3
  have HSD:=HS
  clear hsy hs hX hz hb hm hhd ga hal
  go_enter Tryz.func162,Tryz.ntmps162
  go_wp2_with (first|refine sL ?_|(refine sS ?_;clear H;intros;rename_i H)|(go_at_call 177;with_reducible refine Calls.mono (HFS.out _ (H.sepO (A:=blk b (.cells cs 250)) (B:=rowsA encIt 254 4 mv rs) pk pk)) ?_;rintro e wc ⟨rfl,hb⟩;replace H:=H.grew hb.below;clear hb)|(go_at_call 178;with_reducible refine Calls.mono (HRUN.out _ ((St.join3 (H.pick3 (A:=pA X) (B:=blk b (.cells cs 250)) (C:=rowsA encFr 265 8 pl fl) pk pk pk)).sepK HK pk pk)) ?_;rintro e wc ⟨rfl,hb⟩;replace H:=H.grew hb.below;clear hb))
  have HT:∃ (Xa:Px) (csa:Array Value) (pla:Value) (fla:List Fr) (ila kla:Nat) (mva:Value) (rsa:List ItR),(X.Ext Xa∧PxOk Xa∧Xa.S=X.S∧SpIn Xa csa pla fla ila kla pr fr ir kr mva rsa d1 e M1∧rsa.length≤2097153)∧St w N [pA Xa,blk b (.cells csa 250),rowsA encFr 265 8 pla fla,rowsA encFr 265 8 pr fr,rowsA encIt 254 4 mva rsa] _:=⟨X,cs,pl,fl,0,kl,mv,rs,⟨.refl _,HX.out,rfl,by rw [← HG.out.1,← HG.out.2];exact HSD.out,by have:=HLB.out;omega⟩,H.picks (.cons (A:=pA X) pk (.cons (A:=blk b (.cells cs 250)) pk (.cons (A:=rowsA encFr 265 8 pl fl) pk (.cons (A:=rowsA encFr 265 8 pr fr) pk (.cons (A:=rowsA encIt 254 4 mv rs) pk .nil)))))⟩
  obtain ⟨Xa,csa,pla,fla,ila,kla,mva,rsa,hta,Ha⟩:=HT
  have HTA:=Lib.hid hta
  clear hta H
  have H:=Ha
  clear Ha
  clear HSD HFS HG
 case' some x =>
  obtain ⟨⟨tn,cu⟩,hrt⟩:∃ r,runT false lv p=r:=⟨_,rfl⟩
  have hx:Den X.S il x∧kl=x.key:=hsy
  have hi1:=hx.1.1
  have d0:((il:Int)==0)=false:=by simp;omega
  have hzz:Zip a p x:=hz
  have HZ:Hid (EndZ a (p,some x)∧a.Gd∧a.lv≤25339):=Lib.hid ⟨hz,ga,hal⟩
  have hrl:=runT_le (bk:=false) (lv:=lv) hzz
  have hrt2:=runT_lt hX.ok (lv:=lv) hs.left.path
  simp only [hrt] at hrl hrt2
  have htb:tn≤1152921504606846976:=hrt2
  have HNT:Hid ((∀ q p',p=q::p'→tn≤hvT false q)∧tn<9223372036854775808):=Lib.hid ⟨hrl,by omega⟩
  have HITS:Hid (ItsOf X.S (⟨x,none,tn⟩::M) (⟨il,0,kl,tn⟩::rs)):=Lib.hid ⟨⟨hx.1,hx.2,rfl,rfl⟩,hs.its⟩
  have hrun:=fun w h=>run_c (ty:=250) (b:=b) (m:=lv) hX hs.left HZ.out.1 HZ.out.2.1 HZ.out.2.2 (by omega) w h ho
  simp only [hrt] at hrun
  have HRUN:=Lib.hid hrun
  have heq:=hhd.eq hX.ok hx.1
  have hgo:gRunL lv (p,some x) e M=if cu=true∨headT M e=some x then (dropT false m tn p,(⟨x,none,tn⟩::M)) else ((p,some x),M):=by unfold gRunL;simp only [hrt,hm]
  clear hrt hrl hrt2 hrun hsy
  by_cases hmv:cu=true∨headT M e=some x
  case' neg =>
   rw [hgo,if_neg hmv] at hg1
   injection hg1 with hg2 hg3
   have HG:=Lib.hid (And.intro hg2 hg3)
   clear hg2 hg3
   have hcu:cu=false:=by simpa using fun h=>hmv (.inl h)
   subst hcu
   have d4:((il:Int)==(hn:Int))=false:=by
    have hin:¬ il=hn:=fun h=>hmv (.inr (heq.1 h))
    simp;omega
   have HSD:=HS
   clear hhd hx hi1 hzz hgo heq hmv hX hz hs hb hm ga hal
   go_enter Tryz.func162,Tryz.ntmps162
   go_wp2_with (first|refine sL ?_|(refine sS ?_;clear H;intros;rename_i H)|(go_at_call 177;with_reducible refine Calls.mono (HFS.out _ (H.sepO (A:=blk b (.cells cs 250)) (B:=rowsA encIt 254 4 mv rs) pk pk)) ?_;rintro e wc ⟨rfl,hb⟩;replace H:=H.grew hb.below;clear hb)|(go_at_call 178;with_reducible refine Calls.mono (HRUN.out _ ((St.join3 (H.pick3 (A:=pA X) (B:=blk b (.cells cs 250)) (C:=rowsA encFr 265 8 pl fl) pk pk pk)).sepK HK pk pk)) ?_;rintro e wc ⟨rfl,hb⟩;replace H:=H.grew hb.below;clear hb))
   have HT:∃ (Xa:Px) (csa:Array Value) (pla:Value) (fla:List Fr) (ila kla:Nat) (mva:Value) (rsa:List ItR),(X.Ext Xa∧PxOk Xa∧Xa.S=X.S∧SpIn Xa csa pla fla ila kla pr fr ir kr mva rsa d1 e M1∧rsa.length≤2097153)∧St w N [pA Xa,blk b (.cells csa 250),rowsA encFr 265 8 pla fla,rowsA encFr 265 8 pr fr,rowsA encIt 254 4 mva rsa] _:=⟨X,cs,pl,fl,il,kl,mv,rs,⟨.refl _,HX.out,rfl,by rw [← HG.out.1,← HG.out.2];exact HSD.out,by have:=HLB.out;omega⟩,H.picks (.cons (A:=pA X) pk (.cons (A:=blk b (.cells cs 250)) pk (.cons (A:=rowsA encFr 265 8 pl fl) pk (.cons (A:=rowsA encFr 265 8 pr fr) pk (.cons (A:=rowsA encIt 254 4 mv rs) pk .nil)))))⟩
   obtain ⟨Xa,csa,pla,fla,ila,kla,mva,rsa,hta,Ha⟩:=HT
   have HTA:=Lib.hid hta
   clear hta H
   have H:=Ha
   clear Ha
   clear HSD HG HFS HRUN HNT HZ HITS
  case' pos =>
   rw [hgo,if_pos hmv] at hg1
   injection hg1 with hg2 hg3
   have HG:=Lib.hid (And.intro hg2 hg3)
   clear hg2 hg3
   have hd4:cu=true∨cu=false∧((il:Int)==(hn:Int))=true:=by
    cases cu with
    |true=>exact .inl rfl
    |false=>exact .inr ⟨rfl,by have:=heq.2 (hmv.resolve_left (by simp));simp [this]⟩
   clear hhd hx hi1 hzz hgo heq hmv hX hz hs hb hm ga hal
   go_enter Tryz.func162,Tryz.ntmps162
   rcases hd4 with rfl|⟨rfl,d4⟩
   all_goals
    go_wp2_with (first|refine sL ?_|(refine sS ?_;clear H;intros;rename_i H)|(go_at_call 177;with_reducible refine Calls.mono (HFS.out _ (H.sepO (A:=blk b (.cells cs 250)) (B:=rowsA encIt 254 4 mv rs) pk pk)) ?_;rintro e wc ⟨rfl,hb⟩;replace H:=H.grew hb.below;clear hb)|(go_at_call 178;with_reducible refine Calls.mono (HRUN.out _ ((St.join3 (H.pick3 (A:=pA X) (B:=blk b (.cells cs 250)) (C:=rowsA encFr 265 8 pl fl) pk pk pk)).sepK HK pk pk)) ?_;rintro e wc ⟨rfl,hb⟩;replace H:=H.grew hb.below;clear hb))
    replace H:St w N [rowsA encIt 254 4 mv rs,pA X,blk b (.cells cs 250),rowsA encFr 265 8 pl fl,rowsA encFr 265 8 pr fr] _:=H.picks (.cons pk (.cons pk (.cons pk (.cons pk (.cons pk .nil)))))
    refine wp_region_sgx 22 [⟨[],fun v _=>v=.pointer (some ⟨b,0,none⟩)⟩,⟨[],fun v _=>v=.pointer (some ⟨b,0,none⟩)⟩,⟨[1],fun v _=>v=.pointer (some ⟨b,0,none⟩)⟩,⟨[2],fun v _=>v=.pointer (some ⟨b,11,none⟩)⟩,⟨[3],fun v _=>v=mv⟩,⟨[],fun v _=>v=.pointer (some ⟨b,0,none⟩)⟩,⟨[5],fun v _=>v=.pointer (some ⟨b,0,none⟩)⟩,⟨[6],fun v _=>v=.pointer (some ⟨b,1,none⟩)⟩,⟨[7],fun v _=>v=.pointer (some ⟨b,4,none⟩)⟩,⟨[8],fun v _=>v=.int .i64 il⟩,⟨[],fun v _=>v=.pointer (some ⟨b,0,none⟩)⟩,⟨[10],fun v _=>v=.pointer (some ⟨b,0,none⟩)⟩,⟨[11],fun v _=>v=.pointer (some ⟨b,1,none⟩)⟩,⟨[12],fun v _=>v=.pointer (some ⟨b,5,none⟩)⟩,⟨[13],fun v _=>v=.int .u64 kl⟩,⟨[],fun v _=>v=.int .i64 tn⟩,⟨[9,14,15],fun v _=>v=.agg #[.int .i64 il,.int .i64 0,.int .u64 kl,.int .i64 tn]⟩,⟨[16],fun v _=>∃ bn:Nat,v=.slice (some ⟨bn,0,none⟩) 1 1⟩,⟨[4,17],fun _ _=>True⟩,⟨[0],fun v _=>v=.pointer (some ⟨b,0,none⟩)⟩,⟨[19],fun v _=>v=.pointer (some ⟨b,11,none⟩)⟩,⟨[18,20],fun _ _=>True⟩] [17,18,21] [[0,1,2],[0,1],[0,1],[0,1],[0,1],[0],[0],[0],[0],[0],[0],[0],[0],[0],[0],[0],[0],[0],[1],[2],[2],[2]] [fun _ wx=>St w N [rowsA encIt 254 4 mv rs,pA X,blk b (.cells cs 250),rowsA encFr 265 8 pl fl,rowsA encFr 265 8 pr fr] wx,fun vals wx=>∃ bn:Nat,vals 17=.slice (some ⟨bn,0,none⟩) 1 1∧St w N [rowsA encIt 254 4 mv rs,rowsA encIt 254 4 (.slice (some ⟨bn,0,none⟩) 1 1) [⟨il,0,kl,tn⟩],pA X,blk b (.cells cs 250),rowsA encFr 265 8 pl fl,rowsA encFr 265 8 pr fr] wx,fun vals wx=>∃ (ad9:Option Addr) (cp9:Nat),vals 18=.slice ad9 (rs.length+1) cp9∧St w N [blk b (.cells cs 250),pA X,rowsA encFr 265 8 pl fl,rowsA encFr 265 8 pr fr,rowsA encIt 254 4 (.slice ad9 (rs.length+1) cp9) (⟨il,0,kl,tn⟩::rs)] wx,fun vals wx=>∃ (ad9:Option Addr) (cp9:Nat),St w N [blk b (.cells (cs.setIfInBounds 11 (.slice ad9 (rs.length+1) cp9)) 250),pA X,rowsA encFr 265 8 pl fl,rowsA encFr 265 8 pr fr,rowsA encIt 254 4 (.slice ad9 (rs.length+1) cp9) (⟨il,0,kl,tn⟩::rs)] wx]
     [[],[],[(1,42)],[(2,43)],[(3,44)],[],[(5,46)],[(6,47)],[(7,48)],[(8,49)],[],[(10,51)],[(11,52)],[(12,53)],[(13,54)],[],[(9,50),(14,55),(15,56)],[(16,57)],[(4,45),(17,58)],[(0,41)],[(19,60)],[(18,59),(20,61)]] [(0,41),(1,42),(2,43),(3,44),(4,45),(5,46),(6,47),(7,48),(8,49),(9,50),(10,51),(11,52),(12,53),(13,54),(14,55),(15,56),(16,57),(17,58),(18,59),(19,60),(20,61)] (by kernel_rfl) (by kernel_rfl) H.drew ⟨⟨qo,qo,qo,trivial⟩,⟨qo,qo,trivial⟩,⟨qo,qo,trivial⟩,⟨qo,qo,trivial⟩,⟨ql,ql,trivial⟩,⟨qo,trivial⟩,⟨qo,trivial⟩,⟨qo,trivial⟩,⟨qo,trivial⟩,⟨ql,trivial⟩,⟨qo,trivial⟩,⟨qo,trivial⟩,⟨qo,trivial⟩,⟨qo,trivial⟩,⟨ql,trivial⟩,⟨qo,trivial⟩,⟨qo,trivial⟩,⟨?_,trivial⟩,⟨?_,trivial⟩,⟨qo,trivial⟩,⟨qo,trivial⟩,⟨?_,trivial⟩,trivial⟩ ?_
    ·intro vals wx hd HC
     simp only [GF] at hd
     have H:=HC
     simp only [CA] at H
     simp only [PS,hd]
     clear HC
     refine StStep.slice1 (enc:=encIt) H rfl rfl rfl rfl rfl rfl rfl rfl rfl ⟨il,0,kl,tn⟩ rfl encIt_len ?_
     intro bn wz H
     exact ⟨⟨bn,rfl⟩,bn,rfl,H.picks (.cons pk (.cons pk (.cons pk (.cons pk (.cons pk (.cons pk .nil))))))⟩
    ·intro vals wx hd HC
     simp only [GF] at hd
     have H:=HC
     simp only [CA] at H
     obtain ⟨bn,hv,H⟩:=H
     simp only [PS,hd,hv]
     clear HC
     go_simp
     with_reducible refine Calls.mono (insert0_r (x:=⟨il,0,kl,tn⟩) (its:=rs) (v:=mv) (s:=bn) HLN.out _ (H.sepO pk pk)) ?_
     rintro e wc ⟨v',rfl,hb⟩
     have H2:=(H.pick2 (A:=rowsA encIt 254 4 mv rs) (B:=rowsA encIt 254 4 (.slice (some ⟨bn,0,none⟩) 1 1) [⟨il,0,kl,tn⟩]) pk pk).join.call hb
     simp only [List.cons_append,List.nil_append] at H2
     obtain ⟨ad9,cp9,e9,_⟩:=rowsA_shape (H2.get (A:=rowsA encIt 254 4 v' (⟨il,0,kl,tn⟩::rs)) pk)
     simp only [List.length_cons] at e9
     subst e9
     exact ⟨_,rfl,ad9,cp9,rfl,H2.picks (.cons pk (.cons pk (.cons pk (.cons pk (.cons pk .nil)))))⟩
    ·intro vals wx hd HC
     simp only [GF] at hd
     have H:=HC
     simp only [CA] at H
     obtain ⟨ad9,cp9,hv,H⟩:=H
     simp only [PS,hd,hv]
     refine StStep.storeC rfl rfl rfl rfl rfl rfl H (by have:=HS.out.sz;omega) ?_
     intro wz H
     exact ⟨trivial,ad9,cp9,H⟩
    intro vals wx hd HC
    have h17:=hd.2.2.2.2.2.2.2.2.2.2.2.2.2.2.2.2.2.1
    simp only [CA] at HC
    obtain ⟨ad9,cp9,H⟩:=HC
    simp only [GF] at hd
    simp only [PS,hd]
    clear hd
    obtain ⟨cs1,hcs1⟩:∃ c,cs.setIfInBounds 11 (.slice ad9 (rs.length+1) cp9)=c:=⟨_,rfl⟩
    have hs1:=HS.out.setM (mv':=.slice ad9 (rs.length+1) cp9) (rs':=(⟨il,0,kl,tn⟩::rs)) (M':=(⟨x,none,tn⟩::M)) HITS.out
    simp only [hcs1] at H hs1
    have HS1:=Lib.hid hs1
    have HDR:Hid (∀ w,(((pA X).sep ((blk b (.cells cs1 250)).sep (rowsA encFr 265 8 pl fl))).sep deA).ho w→Calls Tryz.prog 180 #[.pointer (some ⟨b,1,none⟩),.int .i64 (tn:Nat),.int .i64 m] w (EndPost X false b 1 250 cs1 (dropT false m tn p) ((pA X).sep ((blk b (.cells cs1 250)).sep (rowsA encFr 265 8 pl fl))).fp w (.tuple #[]))):=Lib.hid fun w h=>drop_c HX.out hs1.left HZ.out.1 HZ.out.2.1 HZ.out.2.2 HM.out.1 HNT.out.1 HNT.out.2 w h
    clear hs1 hcs1
    go_wp2_with (first|refine sL ?_|(refine sS ?_;clear H;intros;rename_i H)|(go_at_call 180;with_reducible refine Calls.mono (HDR.out _ ((St.join3 (H.pick3 (A:=pA X) (B:=blk b (.cells cs1 250)) (C:=rowsA encFr 265 8 pl fl) pk pk pk)).sepK HK pk pk)) ?_;rintro e wc ⟨X2,cs2,pl2,fl2,il2,kl2,rfl,y1,y2,y3,y4,y5,hb⟩;have HY:=Lib.hid (And.intro y1 (And.intro y2 (And.intro y3 (And.intro y4 y5))));clear y1 y2 y3 y4 y5;replace H:=(St.join3 (H.pick3 (A:=pA X) (B:=blk b (.cells cs1 250)) (C:=rowsA encFr 265 8 pl fl) pk pk pk)).call hb;clear hb;simp only [List.cons_append,List.nil_append] at H))
    have hy:=HY.out
    have HT:∃ (Xa:Px) (csa:Array Value) (pla:Value) (fla:List Fr) (ila kla:Nat) (mva:Value) (rsa:List ItR),(X.Ext Xa∧PxOk Xa∧Xa.S=X.S∧SpIn Xa csa pla fla ila kla pr fr ir kr mva rsa d1 e M1∧rsa.length≤2097153)∧St w N [pA Xa,blk b (.cells csa 250),rowsA encFr 265 8 pla fla,rowsA encFr 265 8 pr fr,rowsA encIt 254 4 mva rsa] _:=⟨X2,cs2,pl2,fl2,il2,kl2,(.slice ad9 (rs.length+1) cp9),(⟨il,0,kl,tn⟩::rs),⟨hy.1,hy.2.1,hy.2.2.1,by rw [← HG.out.1,← HG.out.2];exact HS1.out.afterL HX.out.ok hy.1 hy.2.2.2.1 hy.2.2.2.2,by have:=HLB.out;simp;omega⟩,H.picks (.cons (A:=pA X2) pk (.cons (A:=blk b (.cells cs2 250)) pk (.cons (A:=rowsA encFr 265 8 pl2 fl2) pk (.cons (A:=rowsA encFr 265 8 pr fr) pk (.cons (A:=rowsA encIt 254 4 (.slice ad9 (rs.length+1) cp9) (⟨il,0,kl,tn⟩::rs)) pk .nil)))))⟩
    obtain ⟨Xa,csa,pla,fla,ila,kla,mva,rsa,hta,Ha⟩:=HT
    have HTA:=Lib.hid hta
    clear hta H
    have H:=Ha
    clear Ha
    clear hy HY HS1 HDR HITS HNT HZ HRUN HFS HG
 all_goals
  have HXa:=Lib.hid HTA.out.2.1
  have HSa:=Lib.hid HTA.out.2.2.2.1
  have HLNa:Hid (rsa.length≤4194304):=Lib.hid (by have:=HTA.out.2.2.2.2;omega)
  have C11a:=Lib.hid HSa.out.c11
  have CIa:=Lib.hid HSa.out.c9
  have CKa:=Lib.hid HSa.out.c10
  have hlst:=fun w h=>last_c (b:=b) (mv:=mva) HLNa.out HSa.out.c11 HSa.out.c4 HSa.out.c5 w h
  have hhd:=last_sym HSa.out.its HSa.out.left.symOf
  obtain ⟨hna,hka,hnk⟩:∃ hna hka,lstN rsa ila kla=(hna,hka):=⟨_,_,rfl⟩
  rw [hnk] at hhd hlst
  simp only at hhd hlst
  have HLSTa:=Lib.hid hlst
  clear hlst hnk
  obtain ⟨pa,sx⟩:=e
  cases sx with
  |none =>
   have hi0:ir=0:=HSa.out.right.symOf.1
   subst hi0
   rw [show gRunR lv d1 (pa,none) M1=((pa,none),M1) from rfl]
   clear hhd HE
   go_wp2_with (first|refine sL ?_|(refine sS ?_;clear H;intros;rename_i H)|(go_at_call 181;with_reducible refine Calls.mono (HLSTa.out _ (H.sepO (A:=blk b (.cells csa 250)) (B:=rowsA encIt 254 4 mva rsa) pk pk)) ?_;rintro e wc ⟨rfl,hb⟩;replace H:=H.grew hb.below;clear hb))
   refine nR ?_
   exact ⟨Xa,csa,pla,fla,ila,kla,pr,fr,0,kr,mva,rsa,rfl,HTA.out.1,HXa.out,HTA.out.2.2.1,HSa.out,H.picks (.cons (A:=pA Xa) pk (.cons (A:=blk b (.cells csa 250)) pk (.cons (A:=rowsA encFr 265 8 pla fla) pk (.cons (A:=rowsA encFr 265 8 pr fr) pk (.cons (A:=rowsA encIt 254 4 mva rsa) pk .nil)))))⟩
  |some xa =>
   obtain ⟨⟨tna,cua⟩,hrt⟩:∃ r,runT true lv pa=r:=⟨_,rfl⟩
   have hsy:SymOf Xa.S (some xa) ir kr:=HSa.out.right.symOf
   have hx:Den Xa.S ir xa∧kr=xa.key:=hsy
   have hi1:=hx.1.1
   have d0:((ir:Int)==0)=false:=by simp;omega
   have hzz:Zip b' pa xa:=HE.out.1
   have HZa:Hid (EndZ b' (pa,some xa)∧b'.Gd∧b'.lv≤25339):=Lib.hid HE.out
   have hrl:=runT_le (bk:=true) (lv:=lv) hzz
   have hrt2:=runT_lt HXa.out.ok (lv:=lv) HSa.out.right.path
   simp only [hrt] at hrl hrt2
   have htb:tna≤1152921504606846976:=hrt2
   have HNTa:Hid ((∀ q p',pa=q::p'→tna≤hvT true q)∧tna<9223372036854775808):=Lib.hid ⟨hrl,by omega⟩
   have HITSa:Hid (ItsOf Xa.S (M1++[⟨xa,none,tna⟩]) (rsa++[⟨ir,0,kr,tna⟩])):=Lib.hid (HSa.out.its.snoc ⟨hx.1,hx.2,rfl,rfl⟩)
   have hrun:=fun w h=>run_c (ty:=250) (b:=b) (m:=lv) HXa.out HSa.out.right HZa.out.1 HZa.out.2.1 HZa.out.2.2 (by omega) w h ho
   simp only [hrt] at hrun
   have HRUNa:=Lib.hid hrun
   have heq:=hhd.eq HXa.out.ok hx.1
   have hgo:gRunR lv d1 (pa,some xa) M1=if cua=true∨lastT M1 d1=some xa then (dropT true m tna pa,(M1++[⟨xa,none,tna⟩])) else ((pa,some xa),M1):=by unfold gRunR;simp only [hrt,HM.out.2]
   clear hrt hrl hrt2 hrun hsy
   by_cases hmv:cua=true∨lastT M1 d1=some xa
   case neg =>
    have hgr:gRunR lv d1 (pa,some xa) M1=((pa,some xa),M1):=by rw [hgo,if_neg hmv]
    have HGR:=Lib.hid hgr
    clear hgr
    have hcu:cua=false:=by simpa using fun h=>hmv (.inl h)
    subst hcu
    have d4:((ir:Int)==(hna:Int))=false:=by
     have hin:¬ ir=hna:=fun h=>hmv (.inr (heq.1 h))
     simp;omega
    clear hhd hx hi1 hzz hgo heq HE hmv
    go_wp2_with (first|refine sL ?_|(refine sS ?_;clear H;intros;rename_i H)|(go_at_call 181;with_reducible refine Calls.mono (HLSTa.out _ (H.sepO (A:=blk b (.cells csa 250)) (B:=rowsA encIt 254 4 mva rsa) pk pk)) ?_;rintro e wc ⟨rfl,hb⟩;replace H:=H.grew hb.below;clear hb)|(go_at_call 178;with_reducible refine Calls.mono (HRUNa.out _ ((St.join3 (H.pick3 (A:=pA Xa) (B:=blk b (.cells csa 250)) (C:=rowsA encFr 265 8 pr fr) pk pk pk)).sepK HK pk pk)) ?_;rintro e wc ⟨rfl,hb⟩;replace H:=H.grew hb.below;clear hb))
    refine nR ?_
    exact ⟨Xa,csa,pla,fla,ila,kla,pr,fr,ir,kr,mva,rsa,rfl,HTA.out.1,HXa.out,HTA.out.2.2.1,by rw [HGR.out];exact HSa.out,H.picks (.cons (A:=pA Xa) pk (.cons (A:=blk b (.cells csa 250)) pk (.cons (A:=rowsA encFr 265 8 pla fla) pk (.cons (A:=rowsA encFr 265 8 pr fr) pk (.cons (A:=rowsA encIt 254 4 mva rsa) pk .nil)))))⟩
   have hgr:gRunR lv d1 (pa,some xa) M1=(dropT true m tna pa,(M1++[⟨xa,none,tna⟩])):=by rw [hgo,if_pos hmv]
   have HGR:=Lib.hid hgr
   clear hgr
   have hd4:cua=true∨cua=false∧((ir:Int)==(hna:Int))=true:=by
    cases cua with
    |true=>exact .inl rfl
    |false=>exact .inr ⟨rfl,by have:=heq.2 (hmv.resolve_left (by simp));simp [this]⟩
   clear hhd hx hi1 hzz hgo heq HE hmv
   rcases hd4 with rfl|⟨rfl,d4⟩
   all_goals
    go_wp2_with (first|refine sL ?_|(refine sS ?_;clear H;intros;rename_i H)|(go_at_call 181;with_reducible refine Calls.mono (HLSTa.out _ (H.sepO (A:=blk b (.cells csa 250)) (B:=rowsA encIt 254 4 mva rsa) pk pk)) ?_;rintro e wc ⟨rfl,hb⟩;replace H:=H.grew hb.below;clear hb)|(go_at_call 178;with_reducible refine Calls.mono (HRUNa.out _ ((St.join3 (H.pick3 (A:=pA Xa) (B:=blk b (.cells csa 250)) (C:=rowsA encFr 265 8 pr fr) pk pk pk)).sepK HK pk pk)) ?_;rintro e wc ⟨rfl,hb⟩;replace H:=H.grew hb.below;clear hb))
    replace H:St w N [rowsA encIt 254 4 mva rsa,pA Xa,blk b (.cells csa 250),rowsA encFr 265 8 pla fla,rowsA encFr 265 8 pr fr] _:=H.picks (.cons pk (.cons pk (.cons pk (.cons pk (.cons pk .nil)))))
    refine wp_region_sgx 22 [⟨[],fun v _=>v=.pointer (some ⟨b,0,none⟩)⟩,⟨[],fun v _=>v=.pointer (some ⟨b,0,none⟩)⟩,⟨[1],fun v _=>v=.pointer (some ⟨b,0,none⟩)⟩,⟨[2],fun v _=>v=.pointer (some ⟨b,11,none⟩)⟩,⟨[3],fun v _=>v=mva⟩,⟨[],fun v _=>v=.pointer (some ⟨b,0,none⟩)⟩,⟨[5],fun v _=>v=.pointer (some ⟨b,0,none⟩)⟩,⟨[6],fun v _=>v=.pointer (some ⟨b,6,none⟩)⟩,⟨[7],fun v _=>v=.pointer (some ⟨b,9,none⟩)⟩,⟨[8],fun v _=>v=.int .i64 ir⟩,⟨[],fun v _=>v=.pointer (some ⟨b,0,none⟩)⟩,⟨[10],fun v _=>v=.pointer (some ⟨b,0,none⟩)⟩,⟨[11],fun v _=>v=.pointer (some ⟨b,6,none⟩)⟩,⟨[12],fun v _=>v=.pointer (some ⟨b,10,none⟩)⟩,⟨[13],fun v _=>v=.int .u64 kr⟩,⟨[],fun v _=>v=.int .i64 tna⟩,⟨[9,14,15],fun v _=>v=.agg #[.int .i64 ir,.int .i64 0,.int .u64 kr,.int .i64 tna]⟩,⟨[16],fun v _=>∃ bna:Nat,v=.slice (some ⟨bna,0,none⟩) 1 1⟩,⟨[4,17],fun _ _=>True⟩,⟨[0],fun v _=>v=.pointer (some ⟨b,0,none⟩)⟩,⟨[19],fun v _=>v=.pointer (some ⟨b,11,none⟩)⟩,⟨[18,20],fun _ _=>True⟩] [17,18,21] [[0,1,2],[0,1],[0,1],[0,1],[0,1],[0],[0],[0],[0],[0],[0],[0],[0],[0],[0],[0],[0],[0],[1],[2],[2],[2]] [fun _ wx=>St w N [rowsA encIt 254 4 mva rsa,pA Xa,blk b (.cells csa 250),rowsA encFr 265 8 pla fla,rowsA encFr 265 8 pr fr] wx,fun vals wx=>∃ bna:Nat,vals 17=.slice (some ⟨bna,0,none⟩) 1 1∧St w N [rowsA encIt 254 4 mva rsa,rowsA encIt 254 4 (.slice (some ⟨bna,0,none⟩) 1 1) [⟨ir,0,kr,tna⟩],pA Xa,blk b (.cells csa 250),rowsA encFr 265 8 pla fla,rowsA encFr 265 8 pr fr] wx,fun vals wx=>∃ (ad9a:Option Addr) (cp9a:Nat),vals 18=.slice ad9a (rsa.length+1) cp9a∧St w N [blk b (.cells csa 250),pA Xa,rowsA encFr 265 8 pla fla,rowsA encFr 265 8 pr fr,rowsA encIt 254 4 (.slice ad9a (rsa.length+1) cp9a) (rsa++[⟨ir,0,kr,tna⟩])] wx,fun vals wx=>∃ (ad9a:Option Addr) (cp9a:Nat),St w N [blk b (.cells (csa.setIfInBounds 11 (.slice ad9a (rsa.length+1) cp9a)) 250),pA Xa,rowsA encFr 265 8 pla fla,rowsA encFr 265 8 pr fr,rowsA encIt 254 4 (.slice ad9a (rsa.length+1) cp9a) (rsa++[⟨ir,0,kr,tna⟩])] wx]
     [[],[],[(1,99)],[(2,100)],[(3,101)],[],[(5,103)],[(6,104)],[(7,105)],[(8,106)],[],[(10,108)],[(11,109)],[(12,110)],[(13,111)],[],[(9,107),(14,112),(15,113)],[(16,114)],[(4,102),(17,115)],[(0,98)],[(19,117)],[(18,116),(20,118)]] [(0,98),(1,99),(2,100),(3,101),(4,102),(5,103),(6,104),(7,105),(8,106),(9,107),(10,108),(11,109),(12,110),(13,111),(14,112),(15,113),(16,114),(17,115),(18,116),(19,117),(20,118)] (by kernel_rfl) (by kernel_rfl) H.drew ⟨⟨qo,qo,qo,trivial⟩,⟨qo,qo,trivial⟩,⟨qo,qo,trivial⟩,⟨qo,qo,trivial⟩,⟨ql,ql,trivial⟩,⟨qo,trivial⟩,⟨qo,trivial⟩,⟨qo,trivial⟩,⟨qo,trivial⟩,⟨ql,trivial⟩,⟨qo,trivial⟩,⟨qo,trivial⟩,⟨qo,trivial⟩,⟨qo,trivial⟩,⟨ql,trivial⟩,⟨qo,trivial⟩,⟨qo,trivial⟩,⟨?_,trivial⟩,⟨?_,trivial⟩,⟨qo,trivial⟩,⟨qo,trivial⟩,⟨?_,trivial⟩,trivial⟩ ?_
    ·intro vals wx hd HC
     simp only [GF] at hd
     have H:=HC
     simp only [CA] at H
     simp only [PS,hd]
     clear HC
     refine StStep.slice1 (enc:=encIt) H rfl rfl rfl rfl rfl rfl rfl rfl rfl ⟨ir,0,kr,tna⟩ rfl encIt_len ?_
     intro bna wz H
     exact ⟨⟨bna,rfl⟩,bna,rfl,H.picks (.cons pk (.cons pk (.cons pk (.cons pk (.cons pk (.cons pk .nil))))))⟩
    ·intro vals wx hd HC
     simp only [GF] at hd
     have H:=HC
     simp only [CA] at H
     obtain ⟨bna,hva,H⟩:=H
     simp only [PS,hd,hva]
     refine StStep.append (enc:=encIt) rfl rfl rfl rfl rfl (by decide) (by decide) rfl rfl H (H.get (A:=rowsA encIt 254 4 (.slice (some ⟨bna,0,none⟩) 1 1) [⟨ir,0,kr,tna⟩]) pk) encIt_len encIt_one (by have:=HLNa.out;simp;omega) ?_
     intro v' wz H
     obtain ⟨ad9a,cp9a,e9,_⟩:=rowsA_shape (H.get (A:=rowsA encIt 254 4 v' (rsa++[⟨ir,0,kr,tna⟩])) pk)
     simp only [List.length_append,List.length_cons,List.length_nil,Nat.zero_add] at e9
     subst e9
     exact ⟨trivial,ad9a,cp9a,rfl,H.picks (.cons pk (.cons pk (.cons pk (.cons pk (.cons pk .nil)))))⟩
    ·intro vals wx hd HC
     simp only [GF] at hd
     have H:=HC
     simp only [CA] at H
     obtain ⟨ad9a,cp9a,hva,H⟩:=H
     simp only [PS,hd,hva]
     refine StStep.storeC rfl rfl rfl rfl rfl rfl H (by have:=HSa.out.sz;omega) ?_
     intro wz H
     exact ⟨trivial,ad9a,cp9a,H⟩
    intro vals wx hd HC
    have h17:=hd.2.2.2.2.2.2.2.2.2.2.2.2.2.2.2.2.2.1
    simp only [CA] at HC
    obtain ⟨ad9a,cp9a,H⟩:=HC
    simp only [GF] at hd
    simp only [PS,hd]
    clear hd
    obtain ⟨cs1a,hcs1a⟩:∃ c,csa.setIfInBounds 11 (.slice ad9a (rsa.length+1) cp9a)=c:=⟨_,rfl⟩
    have hs1a:=HSa.out.setM (mv':=.slice ad9a (rsa.length+1) cp9a) (rs':=(rsa++[⟨ir,0,kr,tna⟩])) (M':=(M1++[⟨xa,none,tna⟩])) HITSa.out
    simp only [hcs1a] at H hs1a
    have HS1a:=Lib.hid hs1a
    have HDRa:Hid (∀ w,(((pA Xa).sep ((blk b (.cells cs1a 250)).sep (rowsA encFr 265 8 pr fr))).sep deA).ho w→Calls Tryz.prog 180 #[.pointer (some ⟨b,6,none⟩),.int .i64 (tna:Nat),.int .i64 m] w (EndPost Xa true b 6 250 cs1a (dropT true m tna pa) ((pA Xa).sep ((blk b (.cells cs1a 250)).sep (rowsA encFr 265 8 pr fr))).fp w (.tuple #[]))):=Lib.hid fun w h=>drop_c HXa.out hs1a.right HZa.out.1 HZa.out.2.1 HZa.out.2.2 HM.out.1 HNTa.out.1 HNTa.out.2 w h
    clear hs1a hcs1a
    go_wp2_with (first|refine sL ?_|(refine sS ?_;clear H;intros;rename_i H)|(go_at_call 180;with_reducible refine Calls.mono (HDRa.out _ ((St.join3 (H.pick3 (A:=pA Xa) (B:=blk b (.cells cs1a 250)) (C:=rowsA encFr 265 8 pr fr) pk pk pk)).sepK HK pk pk)) ?_;rintro e wc ⟨X2a,cs2a,pr2a,fr2a,ir2a,kr2a,rfl,y1,y2,y3,y4,y5,hb⟩;have HYa:=Lib.hid (And.intro y1 (And.intro y2 (And.intro y3 (And.intro y4 y5))));clear y1 y2 y3 y4 y5;replace H:=(St.join3 (H.pick3 (A:=pA Xa) (B:=blk b (.cells cs1a 250)) (C:=rowsA encFr 265 8 pr fr) pk pk pk)).call hb;clear hb;simp only [List.cons_append,List.nil_append] at H))
    refine nR ?_
    have hya:=HYa.out
    exact ⟨X2a,cs2a,pla,fla,ila,kla,pr2a,fr2a,ir2a,kr2a,_,_,rfl,HTA.out.1.trans hya.1,hya.2.1,hya.2.2.1.trans HTA.out.2.2.1,by rw [HGR.out];exact HS1a.out.afterR HXa.out.ok hya.1 hya.2.2.2.1 hya.2.2.2.2,H.picks (.cons (A:=pA X2a) pk (.cons (A:=blk b (.cells cs2a 250)) pk (.cons (A:=rowsA encFr 265 8 pla fla) pk (.cons (A:=rowsA encFr 265 8 pr2a fr2a) pk (.cons pk .nil)))))⟩
end
section
open Go.RowKit Go.Maps
attribute [local go_sem] InGr
theorem numV_val (lv:Nat):∃ a b:Nat,numV lv=.tuple #[.int .i64 a,.int .u64 b,.bool (isTie lv)]:=by
 unfold numV isTie
 by_cases h1:lv<2∨lv%2=1
 ·rw [if_pos h1]
  exact ⟨0,0,by rw [decide_eq_false (by omega)];rfl⟩
 ·rw [if_neg h1]
  by_cases h2:(lv/2-1)%123=122
  ·rw [if_pos h2]
   exact ⟨0,0,by rw [decide_eq_true (by omega)];rfl⟩
  ·rw [if_neg h2]
   exact ⟨_,_,by rw [decide_eq_false (by omega)]⟩
theorem gather_c {a b':Tr} {s:List Tr} {i n m lv:Nat} {X:Px} {b il kl ir kr:Nat} {cs:Array Value} {pl pr mv:Value} {fl fr:List Fr} {rs:List ItR} {d e:EndP} {M:List It} (hX:PxOk X) (hs:SpIn X cs pl fl il kl pr fr ir kr mv rs d e M) (hI:SpI a b' s i n m d e M) (hlv:lv=m+1) (hlv2:lv<1152921504606846976) (hsl:s.length≤1048576) (hal:a.lv≤25339) (hbl:b'.lv≤25339) (w:World) (h:((spA X b cs pl fl pr fr mv rs).sep deA).ho w) :
  Calls Tryz.prog 148 #[.pointer (some ⟨b,0,none⟩),.int .i64 lv] w fun x w'=>∃ d1 e2 M2,GatR lv d e M d1 e2 M2∧SpPost X b (spA X b cs pl fl pr fr mv rs).fp w (.tuple #[]) d1 e2 M2 x w':=by
 rw [sep_ho] at h
 obtain ⟨k1,k2,hdd⟩:=h
 have H:=spA_open (St.one k1)
 have HK:Ks w (spA X b cs pl fl pr fr mv rs).fp [deA]:=⟨by simpa using k2,by simpa using fun b hb hm=>hdd b hm hb⟩
 generalize (spA X b cs pl fl pr fr mv rs).fp=N at *
 clear k1 k2 hdd
 have HX:=Lib.hid hX
 have HS:=Lib.hid hs
 have hz:=hI.zero
 have hrl:rs.length=M.length:=hs.its.len
 have hml:=hz.cnt
 by_cases ho:lv%2=1
 ·have tm:(lv:Int).tmod 2=1:=by rw [Int.tmod_eq_emod_of_nonneg (by omega)];omega
  have tm2:(lv:Int)%2=1:=by omega
  have HG:Hid (∀ w,(((pA X).sep ((blk b (.cells cs 250)).sep ((rowsA encFr 265 8 pl fl).sep ((rowsA encFr 265 8 pr fr).sep (rowsA encIt 254 4 mv rs))))).sep deA).ho w→Calls Tryz.prog 162 #[.pointer (some ⟨b,0,none⟩),.int .i64 lv] w (SpPost X b ((pA X).sep ((blk b (.cells cs 250)).sep ((rowsA encFr 265 8 pl fl).sep ((rowsA encFr 265 8 pr fr).sep (rowsA encIt 254 4 mv rs))))).fp w (.tuple #[]) (gRunL lv d e M).1 (gRunR lv (gRunL lv d e M).1 e (gRunL lv d e M).2).1 (gRunR lv (gRunL lv d e M).1 e (gRunL lv d e M).2).2)):=Lib.hid fun w h=>gatherRuns_c hX hs hz.z1 hI.ca.gd hal hz.z2 hI.cb.gd hbl (by omega) hlv2 ho (by omega) w h
  have HR:Hid (GatR lv d e M (gRunL lv d e M).1 (gRunR lv (gRunL lv d e M).1 e (gRunL lv d e M).2).1 (gRunR lv (gRunL lv d e M).1 e (gRunL lv d e M).2).2):=Lib.hid (by unfold GatR;rw [if_pos ho];exact ⟨rfl,rfl,rfl⟩)
  clear hX hs hI hz hrl hml hsl hal hbl ho hlv
  go_enter Tryz.func148,Tryz.ntmps148
  go_wp2_with (first|refine sL ?_|(refine sS ?_;clear H;intros;rename_i H)|(go_at_call 162;with_reducible refine Calls.mono (HG.out _ ((St.join5 (H.pick5 (A:=pA X) (B:=blk b (.cells cs 250)) (C:=rowsA encFr 265 8 pl fl) (D:=rowsA encFr 265 8 pr fr) (E:=rowsA encIt 254 4 mv rs) pk pk pk pk pk)).sepK HK pk pk)) ?_;rintro e9 wc ⟨X1,cs1,pl1,fl1,il1,kl1,pr1,fr1,ir1,kr1,mv1,rs1,rfl,y1,y2,y3,y4,hb⟩;have HY1:=Lib.hid (And.intro y1 (And.intro y2 (And.intro y3 y4)));clear y1 y2 y3 y4;replace H:=(St.join5 (H.pick5 (A:=pA X) (B:=blk b (.cells cs 250)) (C:=rowsA encFr 265 8 pl fl) (D:=rowsA encFr 265 8 pr fr) (E:=rowsA encIt 254 4 mv rs) pk pk pk pk pk)).call hb;clear hb;simp only [List.cons_append,List.nil_append] at H))
  refine nR ?_
  exact ⟨_,_,_,HR.out,X1,cs1,pl1,fl1,il1,kl1,pr1,fr1,ir1,kr1,mv1,rs1,rfl,HY1.out.1,HY1.out.2.1,HY1.out.2.2.1,HY1.out.2.2.2,H.picks (.cons (A:=pA X1) pk (.cons (A:=blk b (.cells cs1 250)) pk (.cons (A:=rowsA encFr 265 8 pl1 fl1) pk (.cons (A:=rowsA encFr 265 8 pr1 fr1) pk (.cons (A:=rowsA encIt 254 4 mv1 rs1) pk .nil)))))⟩
 ·have tm:(lv:Int).tmod 2=0:=by rw [Int.tmod_eq_emod_of_nonneg (by omega)];omega
  have tm2:(lv:Int)%2=0:=by omega
  have hom:m%2=1:=by omega
  obtain ⟨na,nb,hnum⟩:=numV_val lv
  have hnu:=fun w=>snumber_c lv hlv2 w
  rw [hnum] at hnu
  have HNU:=Lib.hid hnu
  have HG:Hid (∀ w,(((pA X).sep ((blk b (.cells cs 250)).sep ((rowsA encFr 265 8 pl fl).sep ((rowsA encFr 265 8 pr fr).sep (rowsA encIt 254 4 mv rs))))).sep deA).ho w→Calls Tryz.prog 164 #[.pointer (some ⟨b,0,none⟩),.int .i64 lv] w (SpPost X b ((pA X).sep ((blk b (.cells cs 250)).sep ((rowsA encFr 265 8 pl fl).sep ((rowsA encFr 265 8 pr fr).sep (rowsA encIt 254 4 mv rs))))).fp w (.tuple #[]) (gPairL lv d e M).1 e (gPairL lv d e M).2)):=Lib.hid fun w h=>gatherLeft_c hX hs hz.z1 hI.ca.gd hal (by omega) hlv2 (by omega) w h
  obtain ⟨R,hR,hone1,hT,hl1⟩:=hI.mid hom
  rw [← hlv] at hone1 hT hl1
  by_cases ht:isTie lv=true
  ·rw [ht] at HNU hnum
   have HG2:Hid (∀ X1 cs1 pl1 fl1 il1 kl1 pr1 fr1 ir1 kr1 mv1 rs1,PxOk X1→SpIn X1 cs1 pl1 fl1 il1 kl1 pr1 fr1 ir1 kr1 mv1 rs1 (gPairL lv d e M).1 e (gPairL lv d e M).2→∀ w,(((pA X1).sep ((blk b (.cells cs1 250)).sep ((rowsA encFr 265 8 pl1 fl1).sep ((rowsA encFr 265 8 pr1 fr1).sep (rowsA encIt 254 4 mv1 rs1))))).sep deA).ho w→Calls Tryz.prog 165 #[.pointer (some ⟨b,0,none⟩),.int .i64 lv] w fun x w'=>∃ e2 M2,GStr lv e (gPairL lv d e M).2 e2 M2∧SpPost X1 b ((pA X1).sep ((blk b (.cells cs1 250)).sep ((rowsA encFr 265 8 pl1 fl1).sep ((rowsA encFr 265 8 pr1 fr1).sep (rowsA encIt 254 4 mv1 rs1))))).fp w (.tuple #[]) (gPairL lv d e M).1 e2 M2 x w'):=Lib.hid fun X1 cs1 pl1 fl1 il1 kl1 pr1 fr1 ir1 kr1 mv1 rs1 q1 q2 w h=>gatherStretch_c q1 q2 hlv hom ht hI.cb hbl hR hone1.tie rfl (by omega) hlv2 w h
   have HR:Hid (∀ e2 M2,GStr lv e (gPairL lv d e M).2 e2 M2→GatR lv d e M (gPairL lv d e M).1 e2 M2):=Lib.hid fun e2 M2 q=>by unfold GatR;rw [if_neg ho,if_pos ht];exact ⟨rfl,q⟩
   clear hX hs hI hz hrl hml hsl hal hbl ho hlv hom hnum hnu hR hone1 hT hl1 ht
   go_enter Tryz.func148,Tryz.ntmps148
   go_wp2_with (first|refine sL ?_|(refine sS ?_;clear H;intros;rename_i H)|(go_at_call 164;with_reducible refine Calls.mono (HG.out _ ((St.join5 (H.pick5 (A:=pA X) (B:=blk b (.cells cs 250)) (C:=rowsA encFr 265 8 pl fl) (D:=rowsA encFr 265 8 pr fr) (E:=rowsA encIt 254 4 mv rs) pk pk pk pk pk)).sepK HK pk pk)) ?_;rintro e9 wc ⟨X1,cs1,pl1,fl1,il1,kl1,pr1,fr1,ir1,kr1,mv1,rs1,rfl,y1,y2,y3,y4,hb⟩;have HY1:=Lib.hid (And.intro y1 (And.intro y2 (And.intro y3 y4)));clear y1 y2 y3 y4;replace H:=(St.join5 (H.pick5 (A:=pA X) (B:=blk b (.cells cs 250)) (C:=rowsA encFr 265 8 pl fl) (D:=rowsA encFr 265 8 pr fr) (E:=rowsA encIt 254 4 mv rs) pk pk pk pk pk)).call hb;clear hb;simp only [List.cons_append,List.nil_append] at H)|(go_at_call 163;with_reducible refine same (HNU.out _) ?_)|(go_at_call 165;with_reducible refine Calls.mono (HG2.out X1 cs1 pl1 fl1 il1 kl1 pr1 fr1 ir1 kr1 mv1 rs1 HY1.out.2.1 HY1.out.2.2.2 _ ((St.join5 (H.pick5 (A:=pA X1) (B:=blk b (.cells cs1 250)) (C:=rowsA encFr 265 8 pl1 fl1) (D:=rowsA encFr 265 8 pr1 fr1) (E:=rowsA encIt 254 4 mv1 rs1) pk pk pk pk pk)).sepK HK pk pk)) ?_;rintro e9 wc ⟨e2,M2,hgs,X2,cs2,pl2,fl2,il2,kl2,pr2,fr2,ir2,kr2,mv2,rs2,rfl,y1,y2,y3,y4,hb⟩;have HY2:=Lib.hid (And.intro y1 (And.intro y2 (And.intro y3 y4)));clear y1 y2 y3 y4;replace H:=(St.join5 (H.pick5 (A:=pA X1) (B:=blk b (.cells cs1 250)) (C:=rowsA encFr 265 8 pl1 fl1) (D:=rowsA encFr 265 8 pr1 fr1) (E:=rowsA encIt 254 4 mv1 rs1) pk pk pk pk pk)).call hb;clear hb;simp only [List.cons_append,List.nil_append] at H))
   refine nR ?_
   exact ⟨_,_,_,HR.out e2 M2 hgs,X2,cs2,pl2,fl2,il2,kl2,pr2,fr2,ir2,kr2,mv2,rs2,rfl,HY1.out.1.trans HY2.out.1,HY2.out.2.1,HY2.out.2.2.1.trans HY1.out.2.2.1,HY2.out.2.2.2,H.picks (.cons (A:=pA X2) pk (.cons (A:=blk b (.cells cs2 250)) pk (.cons (A:=rowsA encFr 265 8 pl2 fl2) pk (.cons (A:=rowsA encFr 265 8 pr2 fr2) pk (.cons (A:=rowsA encIt 254 4 mv2 rs2) pk .nil)))))⟩
  ·rw [show isTie lv=false by simpa using ht] at HNU hnum
   have HG2:Hid (∀ X1 cs1 pl1 fl1 il1 kl1 pr1 fr1 ir1 kr1 mv1 rs1,PxOk X1→SpIn X1 cs1 pl1 fl1 il1 kl1 pr1 fr1 ir1 kr1 mv1 rs1 (gPairL lv d e M).1 e (gPairL lv d e M).2→∀ w,(((pA X1).sep ((blk b (.cells cs1 250)).sep ((rowsA encFr 265 8 pl1 fl1).sep ((rowsA encFr 265 8 pr1 fr1).sep (rowsA encIt 254 4 mv1 rs1))))).sep deA).ho w→Calls Tryz.prog 166 #[.pointer (some ⟨b,0,none⟩),.int .i64 lv] w (SpPost X1 b ((pA X1).sep ((blk b (.cells cs1 250)).sep ((rowsA encFr 265 8 pl1 fl1).sep ((rowsA encFr 265 8 pr1 fr1).sep (rowsA encIt 254 4 mv1 rs1))))).fp w (.tuple #[]) (gPairL lv d e M).1 (gPairR lv (gPairL lv d e M).1 e (gPairL lv d e M).2).1 (gPairR lv (gPairL lv d e M).1 e (gPairL lv d e M).2).2)):=Lib.hid fun X1 cs1 pl1 fl1 il1 kl1 pr1 fr1 ir1 kr1 mv1 rs1 q1 q2 w h=>gatherRight_c q1 q2 hz.z2 hI.cb.gd hbl (by omega) hlv2 (by have:=q2.its.len;omega) w h
   have HR:Hid (GatR lv d e M (gPairL lv d e M).1 (gPairR lv (gPairL lv d e M).1 e (gPairL lv d e M).2).1 (gPairR lv (gPairL lv d e M).1 e (gPairL lv d e M).2).2):=Lib.hid (by unfold GatR;rw [if_neg ho,if_neg ht];exact ⟨rfl,rfl,rfl⟩)
   clear hX hs hI hz hrl hml hsl hal hbl ho hlv hom hnum hnu hR hone1 hT hl1 ht
   go_enter Tryz.func148,Tryz.ntmps148
   go_wp2_with (first|refine sL ?_|(refine sS ?_;clear H;intros;rename_i H)|(go_at_call 164;with_reducible refine Calls.mono (HG.out _ ((St.join5 (H.pick5 (A:=pA X) (B:=blk b (.cells cs 250)) (C:=rowsA encFr 265 8 pl fl) (D:=rowsA encFr 265 8 pr fr) (E:=rowsA encIt 254 4 mv rs) pk pk pk pk pk)).sepK HK pk pk)) ?_;rintro e9 wc ⟨X1,cs1,pl1,fl1,il1,kl1,pr1,fr1,ir1,kr1,mv1,rs1,rfl,y1,y2,y3,y4,hb⟩;have HY1:=Lib.hid (And.intro y1 (And.intro y2 (And.intro y3 y4)));clear y1 y2 y3 y4;replace H:=(St.join5 (H.pick5 (A:=pA X) (B:=blk b (.cells cs 250)) (C:=rowsA encFr 265 8 pl fl) (D:=rowsA encFr 265 8 pr fr) (E:=rowsA encIt 254 4 mv rs) pk pk pk pk pk)).call hb;clear hb;simp only [List.cons_append,List.nil_append] at H)|(go_at_call 163;with_reducible refine same (HNU.out _) ?_)|(go_at_call 166;with_reducible refine Calls.mono (HG2.out X1 cs1 pl1 fl1 il1 kl1 pr1 fr1 ir1 kr1 mv1 rs1 HY1.out.2.1 HY1.out.2.2.2 _ ((St.join5 (H.pick5 (A:=pA X1) (B:=blk b (.cells cs1 250)) (C:=rowsA encFr 265 8 pl1 fl1) (D:=rowsA encFr 265 8 pr1 fr1) (E:=rowsA encIt 254 4 mv1 rs1) pk pk pk pk pk)).sepK HK pk pk)) ?_;rintro e9 wc ⟨X2,cs2,pl2,fl2,il2,kl2,pr2,fr2,ir2,kr2,mv2,rs2,rfl,y1,y2,y3,y4,hb⟩;have HY2:=Lib.hid (And.intro y1 (And.intro y2 (And.intro y3 y4)));clear y1 y2 y3 y4;replace H:=(St.join5 (H.pick5 (A:=pA X1) (B:=blk b (.cells cs1 250)) (C:=rowsA encFr 265 8 pl1 fl1) (D:=rowsA encFr 265 8 pr1 fr1) (E:=rowsA encIt 254 4 mv1 rs1) pk pk pk pk pk)).call hb;clear hb;simp only [List.cons_append,List.nil_append] at H))
   refine nR ?_
   exact ⟨_,_,_,HR.out,X2,cs2,pl2,fl2,il2,kl2,pr2,fr2,ir2,kr2,mv2,rs2,rfl,HY1.out.1.trans HY2.out.1,HY2.out.2.1,HY2.out.2.2.1.trans HY1.out.2.2.1,HY2.out.2.2.2,H.picks (.cons (A:=pA X2) pk (.cons (A:=blk b (.cells cs2 250)) pk (.cons (A:=rowsA encFr 265 8 pl2 fl2) pk (.cons (A:=rowsA encFr 265 8 pr2 fr2) pk (.cons (A:=rowsA encIt 254 4 mv2 rs2) pk .nil)))))⟩
theorem merge_c {a b':Tr} {s:List Tr} {m lv:Nat} {X:Px} {b il kl ir kr:Nat} {cs:Array Value} {pl pr mv:Value} {fl fr:List Fr} {rs:List ItR} {d e:EndP} {M:List It} (hX:PxOk X) (hs:SpIn X cs pl fl il kl pr fr ir kr mv rs d e M) (hok:GatOk a b' s m d e M) (hg1:a.Gd) (hg2:b'.Gd) (hlv:lv=m+1) (hlv2:lv<1152921504606846976) (hsl:s.length≤1048576∧lenL s≤1048576) (hal:a.lv≤25339) (hbl:b'.lv≤25339) (hroom:X.S.list.length+(expI M).length≤X.S.most) (w:World) (h:((spA X b cs pl fl pr fr mv rs).sep deA).ho w) :
  Calls Tryz.prog 149 #[.pointer (some ⟨b,0,none⟩),.int .i64 lv] w fun x w'=>∃ (X':Px) (cs':Array Value) (pl':Value) (fl':List Fr) (il' kl':Nat) (pr':Value) (fr':List Fr) (ir' kr':Nat) (mv':Value) (rs':List ItR),x=.returned .nilIface∧X.Ext X'∧PxOk X'∧SpIn X' cs' pl' fl' il' kl' pr' fr' ir' kr' mv' rs' (upT false lv d) (upT true lv e) (MrgF lv M)∧X'.S.list.length+(expI (MrgF lv M)).length≤X.S.list.length+(expI M).length∧St w (spA X b cs pl fl pr fr mv rs).fp [pA X',blk b (.cells cs' 250),rowsA encFr 265 8 pl' fl',rowsA encFr 265 8 pr' fr',rowsA encIt 254 4 mv' rs'] w':=by
 rw [sep_ho] at h
 obtain ⟨k1,k2,hdd⟩:=h
 have H:=spA_open (St.one k1)
 have HK:Ks w (spA X b cs pl fl pr fr mv rs).fp [deA]:=⟨by simpa using k2,by simpa using fun b hb hm=>hdd b hm hb⟩
 generalize (spA X b cs pl fl pr fr mv rs).fp=N at *
 clear k1 k2 hdd
 have HX:=Lib.hid hX
 have HS:=Lib.hid hs
 have HSZ:Hid (cs.size=12):=Lib.hid hs.sz
 have HOK:=Lib.hid (And.intro hok (And.intro (And.intro hg1 hal) (And.intro (And.intro hg2 hbl) (show lv<9223372036854775808 by omega))))
 have hc1:(expI M).length≤1048576:=by have:=hok.cnt;have:=seqP_len s m;omega
 have hc2:lenL (expI M)≤maxT:=by have:=hok.len;simp only [maxT];omega
 by_cases ho:lv%2=1
 ·have tm:(lv:Int).tmod 2=1:=by rw [Int.tmod_eq_emod_of_nonneg (by omega)];omega
  have tm2:(lv:Int)%2=1:=by omega
  have hmf:MrgF lv M=mRuns M:=by unfold MrgF;rw [if_pos ho]
  rw [hmf]
  have HMG:Hid (∀ w,(((pA X).sep ((blk b (.cells cs 250)).sep (rowsA encIt 254 4 mv rs))).sep deA).ho w→Calls Tryz.prog 167 #[.pointer (some ⟨b,0,none⟩)] w (MgPost X b cs ((pA X).sep ((blk b (.cells cs 250)).sep (rowsA encIt 254 4 mv rs))).fp w M (mRuns M))):=Lib.hid fun w h=>mergeRuns_c hX hs.c0 hs.c11 hs.its (hok.run (by omega)) hc1 hc2 hroom w h
  clear hX hs hok hg1 hg2 hlv hlv2 hsl hal hbl hroom ho hmf hc1 hc2
  go_enter Tryz.func149,Tryz.ntmps149
  go_wp2_with (first|refine sL ?_|(refine sS ?_;clear H;intros;rename_i H)|(go_at_call 163;with_reducible refine same (HNU.out _) ?_)|(go_at_call 167;with_reducible refine Calls.mono (HMG.out _ ((St.join3 (H.pick3 (A:=pA X) (B:=blk b (.cells cs 250)) (C:=rowsA encIt 254 4 mv rs) pk pk pk)).sepK HK pk pk)) ?_;rintro e9 wc ⟨X2,v2,rs2,rfl,y1,y2,y3,y4,hb⟩;have HY:=Lib.hid (And.intro y1 (And.intro y2 (And.intro y3 y4)));clear y1 y2 y3 y4;replace H:=(St.join3 (H.pick3 (A:=pA X) (B:=blk b (.cells cs 250)) (C:=rowsA encIt 254 4 mv rs) pk pk pk)).call hb;clear hb;simp only [List.cons_append,List.nil_append] at H;obtain ⟨a9,c9,e9,_⟩:=rowsA_shape (H.get (A:=rowsA encIt 254 4 v2 rs2) pk);obtain ⟨l9,hl9⟩:∃ l,rs2.length=l:=⟨_,rfl⟩;rw [hl9] at e9;clear hl9;subst e9)|((with_reducible refine isStore ?_);refine AtStore.cell H rfl rfl rfl rfl rfl (cellTy_size (isCellT_ok rfl)) (cs:=cs) pk (by have:=HSZ.out;omega) rfl ?_;clear H;intro _ H;simp only [Act.put,puA,puB,puC]))
  have hs1:=(HS.out.ext HX.out.ok HY.out.1).setM (mv':=(.slice a9 l9 c9)) HY.out.2.2.1
  obtain ⟨cs1,hcs1⟩:∃ c,(cs.setIfInBounds 11 (.slice a9 l9 c9))=c:=⟨_,rfl⟩
  rw [hcs1] at hs1
  simp only [hcs1] at H
  have HS1:=Lib.hid hs1
  have HUPL:Hid (∀ w,(((pA X2).sep ((blk b (.cells cs1 250)).sep (rowsA encFr 265 8 pl fl))).sep deA).ho w→Calls Tryz.prog 152 #[.pointer (some ⟨b,1,none⟩),.int .i64 lv] w (EndPost X2 false b 1 250 cs1 (upT false lv d) ((pA X2).sep ((blk b (.cells cs1 250)).sep (rowsA encFr 265 8 pl fl))).fp w (.tuple #[]))):=Lib.hid fun w h=>up_c HY.out.2.1 hs1.left HOK.out.1.z1 HOK.out.2.1.1 HOK.out.2.1.2 HOK.out.2.2.2 w h
  clear hs1 hcs1
  go_wp2_with (first|refine sL ?_|(refine sS ?_;clear H;intros;rename_i H)|(go_at_call 152;with_reducible refine Calls.mono (HUPL.out _ ((St.join3 (H.pick3 (A:=pA X2) (B:=blk b (.cells cs1 250)) (C:=rowsA encFr 265 8 pl fl) pk pk pk)).sepK HK pk pk)) ?_;rintro e9 wc ⟨X3,cs3,pl3,fl3,il3,kl3,rfl,y1,y2,y3,y4,y5,hb⟩;have HUL:=Lib.hid (And.intro y1 (And.intro y2 (And.intro y3 (And.intro y4 y5))));clear y1 y2 y3 y4 y5;replace H:=(St.join3 (H.pick3 (A:=pA X2) (B:=blk b (.cells cs1 250)) (C:=rowsA encFr 265 8 pl fl) pk pk pk)).call hb;clear hb;simp only [List.cons_append,List.nil_append] at H))
  have hs3:=HS1.out.afterL HY.out.2.1.ok HUL.out.1 HUL.out.2.2.2.1 HUL.out.2.2.2.2
  have HS3:=Lib.hid hs3
  have HUPR:Hid (∀ w,(((pA X3).sep ((blk b (.cells cs3 250)).sep (rowsA encFr 265 8 pr fr))).sep deA).ho w→Calls Tryz.prog 152 #[.pointer (some ⟨b,6,none⟩),.int .i64 lv] w (EndPost X3 true b 6 250 cs3 (upT true lv e) ((pA X3).sep ((blk b (.cells cs3 250)).sep (rowsA encFr 265 8 pr fr))).fp w (.tuple #[]))):=Lib.hid fun w h=>up_c HUL.out.2.1 hs3.right HOK.out.1.z2 HOK.out.2.2.1.1 HOK.out.2.2.1.2 HOK.out.2.2.2 w h
  clear hs3
  go_wp2_with (first|refine sL ?_|(refine sS ?_;clear H;intros;rename_i H)|(go_at_call 152;with_reducible refine Calls.mono (HUPR.out _ ((St.join3 (H.pick3 (A:=pA X3) (B:=blk b (.cells cs3 250)) (C:=rowsA encFr 265 8 pr fr) pk pk pk)).sepK HK pk pk)) ?_;rintro e9 wc ⟨X4,cs4,pr4,fr4,ir4,kr4,rfl,y1,y2,y3,y4,y5,hb⟩;have HUR:=Lib.hid (And.intro y1 (And.intro y2 (And.intro y3 (And.intro y4 y5))));clear y1 y2 y3 y4 y5;replace H:=(St.join3 (H.pick3 (A:=pA X3) (B:=blk b (.cells cs3 250)) (C:=rowsA encFr 265 8 pr fr) pk pk pk)).call hb;clear hb;simp only [List.cons_append,List.nil_append] at H))
  go_ret
  have h4:=HS3.out.afterR HUL.out.2.1.ok HUR.out.1 HUR.out.2.2.2.1 HUR.out.2.2.2.2
  exact ⟨X4,cs4,pl3,fl3,il3,kl3,pr4,fr4,ir4,kr4,_,rs2,rfl,HY.out.1.trans (HUL.out.1.trans HUR.out.1),HUR.out.2.1,h4,by rw [HUR.out.2.2.1,HUL.out.2.2.1];exact HY.out.2.2.2,H.picks (.cons (A:=pA X4) pk (.cons (A:=blk b (.cells cs4 250)) pk (.cons (A:=rowsA encFr 265 8 pl3 fl3) pk (.cons (A:=rowsA encFr 265 8 pr4 fr4) pk (.cons (A:=rowsA encIt 254 4 (.slice a9 l9 c9) rs2) pk .nil)))))⟩
 ·have tm:(lv:Int).tmod 2=0:=by rw [Int.tmod_eq_emod_of_nonneg (by omega)];omega
  have tm2:(lv:Int)%2=0:=by omega
  have hom:m%2=1:=by omega
  obtain ⟨na,nb,hnum⟩:=numV_val lv
  have hnu:=fun w=>snumber_c lv hlv2 w
  rw [hnum] at hnu
  have HNU:=Lib.hid hnu
  by_cases ht:isTie lv=true
  ·rw [ht] at HNU hnum
   have hmf:MrgF lv M=mStrE (M.foldl mStr1 ([],none)):=by unfold MrgF;rw [if_neg ho,if_pos ht]
   rw [hmf]
   have HMG:Hid (∀ w,(((pA X).sep ((blk b (.cells cs 250)).sep (rowsA encIt 254 4 mv rs))).sep deA).ho w→Calls Tryz.prog 168 #[.pointer (some ⟨b,0,none⟩)] w (MgPost X b cs ((pA X).sep ((blk b (.cells cs 250)).sep (rowsA encIt 254 4 mv rs))).fp w M (mStrE (M.foldl mStr1 ([],none))))):=Lib.hid fun w h=>mergeStretches_c hX hs.c0 hs.c11 hs.its (hok.tie hom (by rw [← hlv];exact ht)) hc1 hc2 hroom w h
   clear hX hs hok hg1 hg2 hlv hlv2 hsl hal hbl hroom ho hom hnum hnu ht hmf hc1 hc2
   go_enter Tryz.func149,Tryz.ntmps149
   go_wp2_with (first|refine sL ?_|(refine sS ?_;clear H;intros;rename_i H)|(go_at_call 163;with_reducible refine same (HNU.out _) ?_)|(go_at_call 168;with_reducible refine Calls.mono (HMG.out _ ((St.join3 (H.pick3 (A:=pA X) (B:=blk b (.cells cs 250)) (C:=rowsA encIt 254 4 mv rs) pk pk pk)).sepK HK pk pk)) ?_;rintro e9 wc ⟨X2,v2,rs2,rfl,y1,y2,y3,y4,hb⟩;have HY:=Lib.hid (And.intro y1 (And.intro y2 (And.intro y3 y4)));clear y1 y2 y3 y4;replace H:=(St.join3 (H.pick3 (A:=pA X) (B:=blk b (.cells cs 250)) (C:=rowsA encIt 254 4 mv rs) pk pk pk)).call hb;clear hb;simp only [List.cons_append,List.nil_append] at H;obtain ⟨a9,c9,e9,_⟩:=rowsA_shape (H.get (A:=rowsA encIt 254 4 v2 rs2) pk);obtain ⟨l9,hl9⟩:∃ l,rs2.length=l:=⟨_,rfl⟩;rw [hl9] at e9;clear hl9;subst e9)|((with_reducible refine isStore ?_);refine AtStore.cell H rfl rfl rfl rfl rfl (cellTy_size (isCellT_ok rfl)) (cs:=cs) pk (by have:=HSZ.out;omega) rfl ?_;clear H;intro _ H;simp only [Act.put,puA,puB,puC]))
   have hs1:=(HS.out.ext HX.out.ok HY.out.1).setM (mv':=(.slice a9 l9 c9)) HY.out.2.2.1
   obtain ⟨cs1,hcs1⟩:∃ c,(cs.setIfInBounds 11 (.slice a9 l9 c9))=c:=⟨_,rfl⟩
   rw [hcs1] at hs1
   simp only [hcs1] at H
   have HS1:=Lib.hid hs1
   have HUPL:Hid (∀ w,(((pA X2).sep ((blk b (.cells cs1 250)).sep (rowsA encFr 265 8 pl fl))).sep deA).ho w→Calls Tryz.prog 152 #[.pointer (some ⟨b,1,none⟩),.int .i64 lv] w (EndPost X2 false b 1 250 cs1 (upT false lv d) ((pA X2).sep ((blk b (.cells cs1 250)).sep (rowsA encFr 265 8 pl fl))).fp w (.tuple #[]))):=Lib.hid fun w h=>up_c HY.out.2.1 hs1.left HOK.out.1.z1 HOK.out.2.1.1 HOK.out.2.1.2 HOK.out.2.2.2 w h
   clear hs1 hcs1
   go_wp2_with (first|refine sL ?_|(refine sS ?_;clear H;intros;rename_i H)|(go_at_call 152;with_reducible refine Calls.mono (HUPL.out _ ((St.join3 (H.pick3 (A:=pA X2) (B:=blk b (.cells cs1 250)) (C:=rowsA encFr 265 8 pl fl) pk pk pk)).sepK HK pk pk)) ?_;rintro e9 wc ⟨X3,cs3,pl3,fl3,il3,kl3,rfl,y1,y2,y3,y4,y5,hb⟩;have HUL:=Lib.hid (And.intro y1 (And.intro y2 (And.intro y3 (And.intro y4 y5))));clear y1 y2 y3 y4 y5;replace H:=(St.join3 (H.pick3 (A:=pA X2) (B:=blk b (.cells cs1 250)) (C:=rowsA encFr 265 8 pl fl) pk pk pk)).call hb;clear hb;simp only [List.cons_append,List.nil_append] at H))
   have hs3:=HS1.out.afterL HY.out.2.1.ok HUL.out.1 HUL.out.2.2.2.1 HUL.out.2.2.2.2
   have HS3:=Lib.hid hs3
   have HUPR:Hid (∀ w,(((pA X3).sep ((blk b (.cells cs3 250)).sep (rowsA encFr 265 8 pr fr))).sep deA).ho w→Calls Tryz.prog 152 #[.pointer (some ⟨b,6,none⟩),.int .i64 lv] w (EndPost X3 true b 6 250 cs3 (upT true lv e) ((pA X3).sep ((blk b (.cells cs3 250)).sep (rowsA encFr 265 8 pr fr))).fp w (.tuple #[]))):=Lib.hid fun w h=>up_c HUL.out.2.1 hs3.right HOK.out.1.z2 HOK.out.2.2.1.1 HOK.out.2.2.1.2 HOK.out.2.2.2 w h
   clear hs3
   go_wp2_with (first|refine sL ?_|(refine sS ?_;clear H;intros;rename_i H)|(go_at_call 152;with_reducible refine Calls.mono (HUPR.out _ ((St.join3 (H.pick3 (A:=pA X3) (B:=blk b (.cells cs3 250)) (C:=rowsA encFr 265 8 pr fr) pk pk pk)).sepK HK pk pk)) ?_;rintro e9 wc ⟨X4,cs4,pr4,fr4,ir4,kr4,rfl,y1,y2,y3,y4,y5,hb⟩;have HUR:=Lib.hid (And.intro y1 (And.intro y2 (And.intro y3 (And.intro y4 y5))));clear y1 y2 y3 y4 y5;replace H:=(St.join3 (H.pick3 (A:=pA X3) (B:=blk b (.cells cs3 250)) (C:=rowsA encFr 265 8 pr fr) pk pk pk)).call hb;clear hb;simp only [List.cons_append,List.nil_append] at H))
   go_ret
   have h4:=HS3.out.afterR HUL.out.2.1.ok HUR.out.1 HUR.out.2.2.2.1 HUR.out.2.2.2.2
   exact ⟨X4,cs4,pl3,fl3,il3,kl3,pr4,fr4,ir4,kr4,_,rs2,rfl,HY.out.1.trans (HUL.out.1.trans HUR.out.1),HUR.out.2.1,h4,by rw [HUR.out.2.2.1,HUL.out.2.2.1];exact HY.out.2.2.2,H.picks (.cons (A:=pA X4) pk (.cons (A:=blk b (.cells cs4 250)) pk (.cons (A:=rowsA encFr 265 8 pl3 fl3) pk (.cons (A:=rowsA encFr 265 8 pr4 fr4) pk (.cons (A:=rowsA encIt 254 4 (.slice a9 l9 c9) rs2) pk .nil)))))⟩
  ·rw [show isTie lv=false by simpa using ht] at HNU hnum
   have hmf:MrgF lv M=mPairs lv [] M:=by unfold MrgF;rw [if_neg ho,if_neg ht]
   rw [hmf]
   have hone:=hok.one hom (by rw [← hlv];simpa using ht)
   have heq:(expI M).length=M.length:=by rw [hone.exp];simp
   have HMG:Hid (∀ w,(((pA X).sep ((blk b (.cells cs 250)).sep (rowsA encIt 254 4 mv rs))).sep deA).ho w→Calls Tryz.prog 169 #[.pointer (some ⟨b,0,none⟩),.int .i64 lv] w (MgPost X b cs ((pA X).sep ((blk b (.cells cs 250)).sep (rowsA encIt 254 4 mv rs))).fp w M (mPairs lv [] M))):=Lib.hid fun w h=>mergePairs_c hX hs.c0 hs.c11 hs.its hone (by omega) hc2 (by omega) hlv2 w h
   clear hX hs hok hg1 hg2 hlv hlv2 hsl hal hbl hroom ho hom hnum hnu ht hmf hc1 hc2 hone heq
   go_enter Tryz.func149,Tryz.ntmps149
   go_wp2_with (first|refine sL ?_|(refine sS ?_;clear H;intros;rename_i H)|(go_at_call 163;with_reducible refine same (HNU.out _) ?_)|(go_at_call 169;with_reducible refine Calls.mono (HMG.out _ ((St.join3 (H.pick3 (A:=pA X) (B:=blk b (.cells cs 250)) (C:=rowsA encIt 254 4 mv rs) pk pk pk)).sepK HK pk pk)) ?_;rintro e9 wc ⟨X2,v2,rs2,rfl,y1,y2,y3,y4,hb⟩;have HY:=Lib.hid (And.intro y1 (And.intro y2 (And.intro y3 y4)));clear y1 y2 y3 y4;replace H:=(St.join3 (H.pick3 (A:=pA X) (B:=blk b (.cells cs 250)) (C:=rowsA encIt 254 4 mv rs) pk pk pk)).call hb;clear hb;simp only [List.cons_append,List.nil_append] at H;obtain ⟨a9,c9,e9,_⟩:=rowsA_shape (H.get (A:=rowsA encIt 254 4 v2 rs2) pk);obtain ⟨l9,hl9⟩:∃ l,rs2.length=l:=⟨_,rfl⟩;rw [hl9] at e9;clear hl9;subst e9)|((with_reducible refine isStore ?_);refine AtStore.cell H rfl rfl rfl rfl rfl (cellTy_size (isCellT_ok rfl)) (cs:=cs) pk (by have:=HSZ.out;omega) rfl ?_;clear H;intro _ H;simp only [Act.put,puA,puB,puC]))
   have hs1:=(HS.out.ext HX.out.ok HY.out.1).setM (mv':=(.slice a9 l9 c9)) HY.out.2.2.1
   obtain ⟨cs1,hcs1⟩:∃ c,(cs.setIfInBounds 11 (.slice a9 l9 c9))=c:=⟨_,rfl⟩
   rw [hcs1] at hs1
   simp only [hcs1] at H
   have HS1:=Lib.hid hs1
   have HUPL:Hid (∀ w,(((pA X2).sep ((blk b (.cells cs1 250)).sep (rowsA encFr 265 8 pl fl))).sep deA).ho w→Calls Tryz.prog 152 #[.pointer (some ⟨b,1,none⟩),.int .i64 lv] w (EndPost X2 false b 1 250 cs1 (upT false lv d) ((pA X2).sep ((blk b (.cells cs1 250)).sep (rowsA encFr 265 8 pl fl))).fp w (.tuple #[]))):=Lib.hid fun w h=>up_c HY.out.2.1 hs1.left HOK.out.1.z1 HOK.out.2.1.1 HOK.out.2.1.2 HOK.out.2.2.2 w h
   clear hs1 hcs1
   go_wp2_with (first|refine sL ?_|(refine sS ?_;clear H;intros;rename_i H)|(go_at_call 152;with_reducible refine Calls.mono (HUPL.out _ ((St.join3 (H.pick3 (A:=pA X2) (B:=blk b (.cells cs1 250)) (C:=rowsA encFr 265 8 pl fl) pk pk pk)).sepK HK pk pk)) ?_;rintro e9 wc ⟨X3,cs3,pl3,fl3,il3,kl3,rfl,y1,y2,y3,y4,y5,hb⟩;have HUL:=Lib.hid (And.intro y1 (And.intro y2 (And.intro y3 (And.intro y4 y5))));clear y1 y2 y3 y4 y5;replace H:=(St.join3 (H.pick3 (A:=pA X2) (B:=blk b (.cells cs1 250)) (C:=rowsA encFr 265 8 pl fl) pk pk pk)).call hb;clear hb;simp only [List.cons_append,List.nil_append] at H))
   have hs3:=HS1.out.afterL HY.out.2.1.ok HUL.out.1 HUL.out.2.2.2.1 HUL.out.2.2.2.2
   have HS3:=Lib.hid hs3
   have HUPR:Hid (∀ w,(((pA X3).sep ((blk b (.cells cs3 250)).sep (rowsA encFr 265 8 pr fr))).sep deA).ho w→Calls Tryz.prog 152 #[.pointer (some ⟨b,6,none⟩),.int .i64 lv] w (EndPost X3 true b 6 250 cs3 (upT true lv e) ((pA X3).sep ((blk b (.cells cs3 250)).sep (rowsA encFr 265 8 pr fr))).fp w (.tuple #[]))):=Lib.hid fun w h=>up_c HUL.out.2.1 hs3.right HOK.out.1.z2 HOK.out.2.2.1.1 HOK.out.2.2.1.2 HOK.out.2.2.2 w h
   clear hs3
   go_wp2_with (first|refine sL ?_|(refine sS ?_;clear H;intros;rename_i H)|(go_at_call 152;with_reducible refine Calls.mono (HUPR.out _ ((St.join3 (H.pick3 (A:=pA X3) (B:=blk b (.cells cs3 250)) (C:=rowsA encFr 265 8 pr fr) pk pk pk)).sepK HK pk pk)) ?_;rintro e9 wc ⟨X4,cs4,pr4,fr4,ir4,kr4,rfl,y1,y2,y3,y4,y5,hb⟩;have HUR:=Lib.hid (And.intro y1 (And.intro y2 (And.intro y3 (And.intro y4 y5))));clear y1 y2 y3 y4 y5;replace H:=(St.join3 (H.pick3 (A:=pA X3) (B:=blk b (.cells cs3 250)) (C:=rowsA encFr 265 8 pr fr) pk pk pk)).call hb;clear hb;simp only [List.cons_append,List.nil_append] at H))
   go_ret
   have h4:=HS3.out.afterR HUL.out.2.1.ok HUR.out.1 HUR.out.2.2.2.1 HUR.out.2.2.2.2
   exact ⟨X4,cs4,pl3,fl3,il3,kl3,pr4,fr4,ir4,kr4,_,rs2,rfl,HY.out.1.trans (HUL.out.1.trans HUR.out.1),HUR.out.2.1,h4,by rw [HUR.out.2.2.1,HUL.out.2.2.1];exact HY.out.2.2.2,H.picks (.cons (A:=pA X4) pk (.cons (A:=blk b (.cells cs4 250)) pk (.cons (A:=rowsA encFr 265 8 pl3 fl3) pk (.cons (A:=rowsA encFr 265 8 pr4 fr4) pk (.cons (A:=rowsA encIt 254 4 (.slice a9 l9 c9) rs2) pk .nil)))))⟩
end
section
open Go.RowKit Go.Maps
attribute [local go_sem] InGr
structure NeIn (X X1:Px) (a:Tr) (bk:Bool) (n:Nat) (cs1:Array Value) (pv1:Value) (fs1:List Fr) (p1:List (Tr×Nat)) (t1:Tr) (id1 n1:Nat):Prop where
 ext:X.Ext X1
 ok:PxOk X1
 same:X1.S=X.S
 sz:cs1.size=5
 at_:EndAt cs1 0 X.p bk pv1 id1 0
 path:PathOf X.S bk p1 fs1
 den:Den X.S id1 t1
 zip:Zip a p1 t1
 pos:1≤n1
 le:n1≤t1.len
 left:bk=false→before 0 p1++(t1.lay 0).take n1=(a.lay 0).take n
 right:bk=true→(t1.lay 0).drop (t1.len-n1)++tl 0 p1=(a.lay 0).drop (a.len-n)
def NeRel (X:Px) (a:Tr) (bk:Bool) (n b8 b9:Nat) (M:List Nat) (w:World) (lv:Nat) (v2 v10 v11:Value) (wr:World):Prop :=
 ∃ (X1:Px) (cs1:Array Value) (pv1:Value) (fs1:List Fr) (p1:List (Tr×Nat)) (t1:Tr) (id1 n1:Nat),v2=.int .i64 (n1:Nat)∧lv=t1.lv∧NeIn X X1 a bk n cs1 pv1 fs1 p1 t1 id1 n1 ∧
  St w M [blk b9 (.cells cs1 246),rowsA encFr 265 8 pv1 fs1,pA X1,blk b8 (.cells #[.pointer none,.bool false,.slice none 0 0,.int .i64 0,.int .u64 0] 246)] wr
abbrev NewPost (X:Px) (a:Tr) (bk:Bool) (n:Nat) (M:List Nat) (w:World) (e:Ending) (w':World):Prop :=
 ∃ (X':Px) (pv':Value) (fs':List Fr) (id' ky':Nat) (d:EndP),e=.returned (.agg #[.pointer (some ⟨X.p,0,none⟩),.bool bk,pv',.int .i64 id',.int .u64 ky'])∧X.Ext X'∧PxOk X'∧X'.S=X.S∧PathOf X'.S bk d.1 fs'∧(match d.2 with|some x=>Den X'.S id' x∧ky'=x.key|none=>id'=0∧ky'=0)∧(bk=false→EndL a 0 d ((a.lay 0).take n))∧(bk=true→EndR a 0 d ((a.lay 0).drop (a.len-n)))∧St w M [pA X',rowsA encFr 265 8 pv' fs'] w'
theorem five_eq {cs:Array Value} {p id ky:Nat} {bk:Bool} {pv:Value} (h:EndAt cs 0 p bk pv id ky) (hs:cs.size=5):cs=#[.pointer (some ⟨p,0,none⟩),.bool bk,pv,.int .i64 id,.int .u64 ky]:=by
 have h0:=h.c0
 have h1:=h.c1
 have h2:=h.c2
 have h3:=h.c3
 have h4:=h.c4
 apply Array.ext_getElem?
 intro i
 match i with
 |0=>rw [h0];rfl
 |1=>rw [h1];rfl
 |2=>rw [h2];rfl
 |3=>rw [h3];rfl
 |4=>rw [h4];rfl
 |i+5=>rw [Array.getElem?_eq_none (by omega),Array.getElem?_eq_none (by simp)]
theorem newEnd_zero {X:Px} {a:Tr} {bk:Bool} {id:Nat} (hX:PxOk X) (ga:a.Gd) (w:World) (h:(pA X).ho w) :
  Calls Tryz.prog 147 #[.pointer (some ⟨X.p,0,none⟩),.int .i64 id,.int .i64 0,.bool bk] w (NewPost X a bk 0 (pA X).fp w):=by
 have H:=St.one h
 have HX:=Lib.hid hX
 generalize (pA X).fp=M at *
 clear h hX
 go_enter Tryz.func147,Tryz.ntmps147
 go_wp2_with (first|refine sL ?_|(refine sS ?_;clear H;intros;rename_i H))
 refine bodyPost_ret (res_row rfl H rfl pk rfl) rfl ?_
 refine ⟨X,.slice none 0 0,[],0,0,([],none),rfl,.refl _,HX.out,rfl,rfl,⟨rfl,rfl⟩,fun _=>⟨rfl,by simp⟩,fun _=>⟨rfl,by rw [← len_lay0 ga];simp⟩,((H.picks (.cons (A:=pA X) pk .nil)).empty (A:=rowsA encFr 265 8 (.slice none 0 0) []) (rowsA_nil _) (by rw [rowsA_fp];rfl)).picks (.cons pk (.cons pk .nil))⟩
theorem den_len_le {S:Sto} (hS:S.Ok) {id:Nat} {t:Tr} (h:Den S id t):t.len≤1152921504606846976:=by
 obtain ⟨i,x,rfl,hx,ht⟩:=den_get h
 have hl:=(tr_len hS i x hx).1
 rw [ht] at hl
 cases rule_of hS hx with
 |letter b hb hr hw h1=>omega
 |pair l r y z _ _ _ _ _ hw hs _=>simp only [maxT] at hs;omega
 |pow l k y _ _ _ _ hw hs _=>simp only [maxT] at hs;omega
theorem farT_eq {bk:Bool} {t c:Tr} (h:(kids t)[if bk then (kids t).length-1 else 0]?=some c):c=farT bk t:=by
 cases t with
 |leaf b=>simp [kids] at h
 |pair l r=>cases bk <;> simp [kids,farT] at h ⊢ <;> exact h.symm
 |pow s k=>exact List.eq_of_mem_replicate (List.mem_of_getElem? h)
structure SizeLater (X X1:Px) (fi fl:Nat):Prop where
 of:∀ {X2:Px},X1.Ext X2→PxOk X2→X2.S=X1.S→Hid (∀ w,(pA X2).ho w→Calls Tryz.prog 92 #[.pointer (some ⟨X.p,0,none⟩),.int .i64 fi] w fun e w'=>e=.returned (.int .i64 (fl:Nat))∧St w [] [] w')
theorem newEnd_c {X:Px} {a:Tr} {bk:Bool} {id n:Nat} (hX:PxOk X) (hd:Den X.S id a) (ga:a.Gd) (hal:a.lv≤25339) (hn1:1≤n) (hna:n≤a.len) (w:World) (h:((pA X).sep deA).ho w) :
  Calls Tryz.prog 147 #[.pointer (some ⟨X.p,0,none⟩),.int .i64 id,.int .i64 (n:Nat),.bool bk] w (NewPost X a bk n (pA X).fp w):=by
 rw [sep_ho] at h
 obtain ⟨k1,k2,hdd⟩:=h
 have H:=St.one k1
 have HK:Ks w (pA X).fp [deA]:=⟨by simpa using k2,by simpa using fun b hb hm=>hdd b hm hb⟩
 generalize (pA X).fp=M at *
 have HX:=Lib.hid hX
 have GA:=Lib.hid (And.intro ga hal)
 have d0:((n:Int)==0)=false:=by simp;omega
 have HIN0:Hid (NeIn X X a bk n #[.pointer (some ⟨X.p,0,none⟩),.bool bk,.slice none 0 0,.int .i64 id,.int .u64 0] (.slice none 0 0) [] [] a id n):=Lib.hid ⟨.refl _,hX,rfl,rfl,⟨Nat.le_refl _,rfl,rfl,rfl,rfl,rfl⟩,rfl,hd,.root,hn1,hna,fun _=>rfl,fun _=>by simp [tl]⟩
 have HN:=Lib.hid (And.intro hn1 hna)
 clear k1 k2 hdd hX ga hal hd hn1 hna
 go_enter Tryz.func147,Tryz.ntmps147
 go_wp2_with (first|refine sL ?_|(refine sS ?_;clear H;intros;rename_i H))
 rename_i b8 _ b9 _ _ _ _ _
 go_loopg [2,10,11] a.lv (fun lv v2 v10 v11 wr=>NeRel X a bk n b8 b9 M w lv v2 v10 v11 wr)
 case atStart=>exact ⟨X,_,.slice none 0 0,[],[],a,id,n,rfl,rfl,HIN0.out,((H.picks (.cons pk (.cons (A:=blk b8 (.cells #[.pointer none,.bool false,.slice none 0 0,.int .i64 0,.int .u64 0] 246)) pk (.cons (A:=pA X) pk .nil)))).empty (A:=rowsA encFr 265 8 (.slice none 0 0) []) (rowsA_nil _) (by rw [rowsA_fp];rfl)).picks (.cons pk (.cons pk (.cons (A:=pA X) pk (.cons (A:=blk b8 (.cells #[.pointer none,.bool false,.slice none 0 0,.int .i64 0,.int .u64 0] 246)) pk .nil))))⟩
 case round =>
  clear H HIN0 d0
  obtain ⟨X1,cs1,pv1,fs1,p1,t1,id1,n1,rfl,rfl,hin,H⟩:=hrel
  have hdn:Den X1.S id1 t1:=by rw [hin.same];exact hin.den
  have hg1:=(hin.zip.gd GA.out.1).1
  have hroom:=hin.zip.room GA.out.1
  have hfl:fs1.length≤1048576:=by have:=hin.path.len;have:=GA.out.2;omega
  obtain ⟨i,en,hi,hx,ht⟩:=den_get hdn
  obtain ⟨a1,ha1⟩:=hg1.1
  obtain ⟨l1,hl1⟩:∃ l1,t1.len=l1:=⟨_,rfl⟩
  have hl1b:l1≤1152921504606846976:=by rw [← hl1];exact den_len_le hin.ok.ok hdn
  have hn1b:n1≤1152921504606846976:=by have:=hin.le;omega
  have HSZ:Hid (∀ w,(pA X1).ho w→Calls Tryz.prog 92 #[.pointer (some ⟨X.p,0,none⟩),.int .i64 id1] w fun e w'=>e=.returned (.int .i64 (l1:Nat))∧St w [] [] w'):=Lib.hid fun w h=>by
   have:=size_p hin.ok hdn w h
   rwa [hin.ext.p,hl1] at this
  have HC0:Hid (cs1[0]?=some (.pointer (some ⟨X.p,0,none⟩))):=Lib.hid hin.at_.c0
  have HC1:Hid (cs1[1]?=some (.bool bk)):=Lib.hid hin.at_.c1
  have HC2:Hid (cs1[2]?=some pv1):=Lib.hid hin.at_.c2
  have HC3:Hid (cs1[3]?=some (.int .i64 id1)):=Lib.hid hin.at_.c3
  have HC5:Hid (cs1.size=5):=Lib.hid hin.sz
  have HIN:=Lib.hid hin
  by_cases hlt:n1<l1
  ·have d1:decide ((n1:Int)<(l1:Int))=true:=by simp;omega
   have d2:decide (n1<l1)=true:=by simp;omega
   have h0:0<(kids t1).length:=by
    have:=kids_two hg1 (by
     refine Nat.pos_of_ne_zero fun h0=>?_
     obtain ⟨b,hb⟩:=hg1.leaf h0
     rw [hb] at hl1
     simp only [Tr.len] at hl1
     have:=hin.pos
     omega)
    omega
   obtain ⟨e1,e2,e3,c,hst⟩:=end_step (bk:=bk) (p:=p1) hg1 hin.pos (by rw [hl1];exact hlt)
   have HOP:Hid (∀ w,((pA X1).sep deA).ho w→((pA X1).sep (blk b9 (.cells cs1 246))).ho w→Calls Tryz.prog 158 #[.pointer (some ⟨b9,0,none⟩)] w (PPost X1 (.agg #[.int .i64 id1,.int .i64 en.r.kind,.int .u8 en.r.letter,.int .i64 en.r.left,.int .i64 en.r.right,.int .i64 en.r.times,.int .i64 a1,.int .i64 (wholeN en.r:Nat)]) (pA X1).fp w)):=Lib.hid fun w h1 h2=>open_c hin.ok hdn ha1 hi hx (fun w h=>by rw [hin.ext.p];exact arr_cell h hin.at_.c0) (fun w h=>arr_cell h hin.at_.c3) w h1 h2
   obtain ⟨fi,hfi⟩:∃ fi,farN bk ⟨id1,en.r,a1,1⟩=fi:=⟨_,rfl⟩
   obtain ⟨cf,hcf,hdf⟩:=far_den (bk:=bk) hin.ok.ok (f:=⟨id1,en.r,a1,1⟩) hdn ⟨i,en,hi,hx,rfl⟩ h0
   rw [hfi,farT_eq hcf] at hdf
   obtain ⟨fl,hfl2⟩:∃ fl,(farT bk t1).len=fl:=⟨_,rfl⟩
   have hflb:fl≤1152921504606846976:=by rw [← hfl2];exact den_len_le hin.ok.ok hdf
   have hflp:1≤fl:=by
    rw [← hfl2]
    obtain ⟨j,y,_,hy,hjt⟩:=den_get hdf
    have:=(tr_len hin.ok.ok j y hy).2
    rw [hjt] at this
    exact pow2_len this
   have HFAR:Hid (∀ w,Calls Tryz.prog 159 #[.agg #[.int .i64 id1,.int .i64 en.r.kind,.int .u8 en.r.letter,.int .i64 en.r.left,.int .i64 en.r.right,.int .i64 en.r.times,.int .i64 a1,.int .i64 1],.bool bk] w fun e w'=>e=.returned (.int .i64 fi)∧St w [] [] w'):=Lib.hid fun w=>by
    have:=far_c ⟨id1,en.r,a1,1⟩ bk w
    rw [hfi] at this
    exact this
   have HSF0:SizeLater X X1 fi fl:=⟨fun {X2} y1 y2 y3=>Lib.hid fun w h=>by
    have:=size_p (X:=X2) (id:=fi) y2 (by rw [y3];exact hdf) w h
    rw [y1.p,hin.ext.p,hfl2] at this
    exact this⟩
   have hkr:=(kids_rule hin.ok.ok hx (t:=t1) (by rw [← hi];exact hdn.2.2) h0).2
   rw [hfl2] at e3 hst
   clear hfi hcf
   by_cases hgt:fl<n1
   ·have d3:decide ((fl:Int)<(n1:Int))=true:=by simp;omega
    have d4:decide (fl<n1)=true:=by simp;omega
    rcases hkr with ⟨kl,kr,ku,kv,hen,hte,_,_⟩|⟨kl,ku,kk,hen,hte,_,_⟩
    ·have d5:((en.r.kind:Int)==3)=false:=by rw [hen];rfl
     have hhv:endHv bk t1 n1=2:=by
      rw [hte] at hfl2 ⊢
      simp only [farT] at hfl2
      simp only [endHv]
      rw [if_pos (by cases bk <;> simp at hfl2 ⊢ <;> omega)]
     obtain ⟨n2,hn2⟩:∃ n2,n1-(endHv bk t1 n1-1)*fl=n2:=⟨_,rfl⟩
     have i5:(n1:Int)-(fl:Int)=(n2:Nat):=by rw [hhv] at hn2;omega
     have hn2b:n2≤1152921504606846976:=by omega
     clear hen hte hfl2 hgt hdf
     obtain ⟨f2,hf2⟩:∃ f2:Fr,f2=⟨id1,en.r,a1,2⟩:=⟨_,rfl⟩
     have hfr2:FrOf X1.S bk (t1,if bk then (kids t1).length-endHv bk t1 n1 else endHv bk t1 n1-1) f2:=by
      rw [hf2]
      refine ⟨hdn,ha1,⟨i,en,hi,hx,rfl⟩,?_,?_⟩
      ·simp only;cases bk <;> simp <;> omega
      ·simp only;rw [hhv] at e1 e2 ⊢;cases bk <;> simp <;> omega
     have HF2:Hid ((#[.int .i64 id1,.int .i64 en.r.kind,.int .u8 en.r.letter,.int .i64 en.r.left,.int .i64 en.r.right,.int .i64 en.r.times,.int .i64 a1,.int .i64 2]:Array Value).toList=flatG encFr [f2]):=Lib.hid (by rw [hf2];simp [flatG,encFr,Fr.cells])
     obtain ⟨c',hc',hdc⟩:=hfr2.child hin.ok.ok
     have hcc:c'=c:=by
      have h5:=hst.kid
      simp only at hc'
      rw [hc'] at h5
      injection h5
     rw [hcc] at hdc hc'
     obtain ⟨ci,hci⟩:∃ ci,childN bk f2=ci:=⟨_,rfl⟩
     rw [hci] at hdc
     have HCH:Hid (∀ w,Calls Tryz.prog 160 #[.agg #[.int .i64 id1,.int .i64 en.r.kind,.int .u8 en.r.letter,.int .i64 en.r.left,.int .i64 en.r.right,.int .i64 en.r.times,.int .i64 a1,.int .i64 2],.bool bk] w fun e w'=>e=.returned (.int .i64 ci)∧St w [] [] w'):=Lib.hid fun w=>by
      have:=child_c f2 bk w
      rw [hci,hf2] at this
      exact this
     have HNX:Hid (∀ (cs3:Array Value) (ad9:Option Addr) (cp9:Nat) (X2:Px),cs3=(cs1.setIfInBounds 2 (.slice ad9 (fs1.length+1) cp9)).setIfInBounds 3 (.int .i64 ci)→X1.Ext X2→PxOk X2→X2.S=X1.S→NeIn X X2 a bk n cs3 (.slice ad9 (fs1.length+1) cp9) (fs1++[f2]) ((t1,if bk then (kids t1).length-endHv bk t1 n1 else endHv bk t1 n1-1)::p1) c ci n2):=Lib.hid fun cs3 ad9 cp9 X2 hcs3 y1 y2 y3=>by
      have hs:X2.S=X.S:=y3.trans hin.same
      have hst':=hst
      rw [hn2] at hst'
      exact ⟨hin.ext.trans y1,y2,hs,by rw [hcs3];simpa using hin.sz,by rw [hcs3];exact (hin.at_.setPath _).setId ci,⟨fs1,f2,rfl,by rw [← hin.same];exact hfr2,hin.path⟩,by rw [← hin.same];exact hdc,hin.zip.down hst'.kid,hst'.pos,hst'.le,fun hb=>(hst'.left hb).symm.trans (hin.left hb),fun hb=>(hst'.right hb).symm.trans (hin.right hb)⟩
     have HCL:Hid (c.lv<t1.lv):=Lib.hid (hg1.kid (List.mem_of_getElem? hst.kid)).2
     clear hin hst hfr2 hf2 hhv hn2 hdc hc' hcc hci hdn hg1 hroom hi hx ht ha1 hl1 e1 e2 e3 h0 hlt
     go_wp2_with (first|refine sL ?_|(refine sS ?_;clear H;intros;rename_i H)|(go_at_call 92;first|(with_reducible refine Calls.mono (HSZ.out _ (H.get (A:=pA X1) pk)) ?_;rintro e wc ⟨rfl,hb⟩;replace H:=H.grew hb.below;clear hb)|(with_reducible refine Calls.mono (HSF.out _ (H.get (A:=pA X2) pk)) ?_;rintro e wc ⟨rfl,hb⟩;replace H:=H.grew hb.below;clear hb))|(go_at_call 158;with_reducible refine Calls.mono (HOP.out _ (H.sepK HK pk pk) (H.sepO pk pk)) ?_;rintro e wc ⟨X2,y1,y2,y3,rfl,hb⟩;have HY:=Lib.hid (And.intro y1 (And.intro y2 y3));clear y1 y2 y3;replace H:=(H.pick (A:=pA X1) pk).call hb;clear hb;simp only [List.cons_append,List.nil_append] at H;have HSF:=HSF0.of HY.out.1 HY.out.2.1 HY.out.2.2)|(go_at_call 159;with_reducible refine Calls.mono (HFAR.out _) ?_;rintro e wc ⟨rfl,hb⟩;replace H:=H.grew hb.below;clear hb)|((with_reducible refine isSlice ?_);refine AtSlice.one H rfl rfl rfl rfl rfl rfl rfl rfl rfl ?_;clear H;intro b _ H;simp only [Act.put,puA,puB,puC])|((with_reducible refine isAppend ?_);refine AtAppend.go (enc:=encFr) H rfl rfl rfl rfl rfl (by decide) (by decide) rfl pk rfl (H.at pk) [f2] rfl HF2.out encFr_len encFr_one (by simp;omega) ?_;clear H;intro ad9 cp9 _ H;simp only [Act.put,puA,puB,puC])|(go_at_call 160;with_reducible refine Calls.mono (HCH.out _) ?_;rintro e wc ⟨rfl,hb⟩;replace H:=H.grew hb.below;clear hb)|((with_reducible refine isStore ?_);refine AtStore.cell H rfl rfl rfl rfl rfl (cellTy_size (isCellT_ok rfl)) (cs:=cs1) pk (by first|(have:=HC5.out;omega)|(simp only [Array.size_setIfInBounds];have:=HC5.out;omega)) rfl ?_;clear H;intro _ H;simp only [Act.put,puA,puB,puC])|((with_reducible refine isStore ?_);refine AtStore.cell H rfl rfl rfl rfl rfl (cellTy_size (isCellT_ok rfl)) (cs:=cs1.setIfInBounds 2 (.slice ad9 (fs1.length+1) cp9)) pk (by first|(have:=HC5.out;omega)|(simp only [Array.size_setIfInBounds];have:=HC5.out;omega)) rfl ?_;clear H;intro _ H;simp only [Act.put,puA,puB,puC]))
     go_roundg c.lv
     case measure=>exact HCL.out
     case rel=>exact ⟨X2,_,_,fs1++[f2],_,c,ci,n2,rfl,rfl,HNX.out _ ad9 cp9 X2 rfl HY.out.1 HY.out.2.1 HY.out.2.2,H.picks (.cons pk (.cons pk (.cons (A:=pA X2) pk (.cons (A:=blk b8 (.cells #[.pointer none,.bool false,.slice none 0 0,.int .i64 0,.int .u64 0] 246)) pk .nil))))⟩
    ·have d5:((en.r.kind:Int)==3)=true:=by rw [hen];rfl
     obtain ⟨q,hq⟩:∃ q,(n1-1)/fl=q:=⟨_,rfl⟩
     have hhv:endHv bk t1 n1=q+1:=by
      rw [hte] at hfl2 ⊢
      simp only [farT] at hfl2
      simp only [endHv,hfl2,hq]
     obtain ⟨nm,hnm⟩:∃ nm,n1-1=nm:=⟨_,rfl⟩
     rw [hnm] at hq
     have i1:(n1:Int)-1=(nm:Nat):=by have:=hin.pos;omega
     have i2:(nm:Int).tdiv (fl:Int)=(q:Nat):=by rw [← hq];rfl
     have i2z:((fl:Int)==0)=false:=by simp;omega
     have hqb:q≤1152921504606846976:=by rw [← hq];have:=Nat.div_le_self nm fl;omega
     obtain ⟨qf,hqf⟩:∃ qf,q*fl=qf:=⟨_,rfl⟩
     have i4:(q:Int)*(fl:Int)=(qf:Nat):=by rw [← hqf];exact (Int.natCast_mul _ _).symm
     obtain ⟨n2,hn2⟩:∃ n2,n1-(endHv bk t1 n1-1)*fl=n2:=⟨_,rfl⟩
     have hqn:qf<n1:=by rw [hhv] at e3;simp only [Nat.add_sub_cancel] at e3;omega
     have i5:(n1:Int)-(qf:Nat)=(n2:Nat):=by rw [hhv] at hn2;simp only [Nat.add_sub_cancel] at hn2;omega
     have hn2b:n2≤1152921504606846976:=by omega
     have hnmb:nm≤1152921504606846976:=by omega
     have hqfb:qf≤1152921504606846976:=by omega
     clear hen hte hfl2 hgt hdf hq hqf hnm
     obtain ⟨f2,hf2⟩:∃ f2:Fr,f2=⟨id1,en.r,a1,q+1⟩:=⟨_,rfl⟩
     have hfr2:FrOf X1.S bk (t1,if bk then (kids t1).length-endHv bk t1 n1 else endHv bk t1 n1-1) f2:=by
      rw [hf2]
      refine ⟨hdn,ha1,⟨i,en,hi,hx,rfl⟩,?_,?_⟩
      ·simp only;cases bk <;> simp <;> omega
      ·simp only;rw [hhv] at e1 e2 ⊢;cases bk <;> simp <;> omega
     have HF2:Hid ((#[.int .i64 id1,.int .i64 en.r.kind,.int .u8 en.r.letter,.int .i64 en.r.left,.int .i64 en.r.right,.int .i64 en.r.times,.int .i64 a1,.int .i64 ((q:Int)+1)]:Array Value).toList=flatG encFr [f2]):=Lib.hid (by rw [hf2];simp [flatG,encFr,Fr.cells])
     obtain ⟨c',hc',hdc⟩:=hfr2.child hin.ok.ok
     have hcc:c'=c:=by
      have h5:=hst.kid
      simp only at hc'
      rw [hc'] at h5
      injection h5
     rw [hcc] at hdc hc'
     obtain ⟨ci,hci⟩:∃ ci,childN bk f2=ci:=⟨_,rfl⟩
     rw [hci] at hdc
     have HCH:Hid (∀ w,Calls Tryz.prog 160 #[.agg #[.int .i64 id1,.int .i64 en.r.kind,.int .u8 en.r.letter,.int .i64 en.r.left,.int .i64 en.r.right,.int .i64 en.r.times,.int .i64 a1,.int .i64 ((q:Int)+1)],.bool bk] w fun e w'=>e=.returned (.int .i64 ci)∧St w [] [] w'):=Lib.hid fun w=>by
      have:=child_c f2 bk w
      rw [hci,hf2] at this
      exact this
     have HNX:Hid (∀ (cs3:Array Value) (ad9:Option Addr) (cp9:Nat) (X2:Px),cs3=(cs1.setIfInBounds 2 (.slice ad9 (fs1.length+1) cp9)).setIfInBounds 3 (.int .i64 ci)→X1.Ext X2→PxOk X2→X2.S=X1.S→NeIn X X2 a bk n cs3 (.slice ad9 (fs1.length+1) cp9) (fs1++[f2]) ((t1,if bk then (kids t1).length-endHv bk t1 n1 else endHv bk t1 n1-1)::p1) c ci n2):=Lib.hid fun cs3 ad9 cp9 X2 hcs3 y1 y2 y3=>by
      have hs:X2.S=X.S:=y3.trans hin.same
      have hst':=hst
      rw [hn2] at hst'
      exact ⟨hin.ext.trans y1,y2,hs,by rw [hcs3];simpa using hin.sz,by rw [hcs3];exact (hin.at_.setPath _).setId ci,⟨fs1,f2,rfl,by rw [← hin.same];exact hfr2,hin.path⟩,by rw [← hin.same];exact hdc,hin.zip.down hst'.kid,hst'.pos,hst'.le,fun hb=>(hst'.left hb).symm.trans (hin.left hb),fun hb=>(hst'.right hb).symm.trans (hin.right hb)⟩
     have HCL:Hid (c.lv<t1.lv):=Lib.hid (hg1.kid (List.mem_of_getElem? hst.kid)).2
     clear hin hst hfr2 hf2 hhv hn2 hdc hc' hcc hci hdn hg1 hroom hi hx ht ha1 hl1 e1 e2 e3 h0 hlt
     go_wp2_with (first|refine sL ?_|(refine sS ?_;clear H;intros;rename_i H)|(go_at_call 92;first|(with_reducible refine Calls.mono (HSZ.out _ (H.get (A:=pA X1) pk)) ?_;rintro e wc ⟨rfl,hb⟩;replace H:=H.grew hb.below;clear hb)|(with_reducible refine Calls.mono (HSF.out _ (H.get (A:=pA X2) pk)) ?_;rintro e wc ⟨rfl,hb⟩;replace H:=H.grew hb.below;clear hb))|(go_at_call 158;with_reducible refine Calls.mono (HOP.out _ (H.sepK HK pk pk) (H.sepO pk pk)) ?_;rintro e wc ⟨X2,y1,y2,y3,rfl,hb⟩;have HY:=Lib.hid (And.intro y1 (And.intro y2 y3));clear y1 y2 y3;replace H:=(H.pick (A:=pA X1) pk).call hb;clear hb;simp only [List.cons_append,List.nil_append] at H;have HSF:=HSF0.of HY.out.1 HY.out.2.1 HY.out.2.2)|(go_at_call 159;with_reducible refine Calls.mono (HFAR.out _) ?_;rintro e wc ⟨rfl,hb⟩;replace H:=H.grew hb.below;clear hb)|((with_reducible refine isSlice ?_);refine AtSlice.one H rfl rfl rfl rfl rfl rfl rfl rfl rfl ?_;clear H;intro b _ H;simp only [Act.put,puA,puB,puC])|((with_reducible refine isAppend ?_);refine AtAppend.go (enc:=encFr) H rfl rfl rfl rfl rfl (by decide) (by decide) rfl pk rfl (H.at pk) [f2] rfl HF2.out encFr_len encFr_one (by simp;omega) ?_;clear H;intro ad9 cp9 _ H;simp only [Act.put,puA,puB,puC])|(go_at_call 160;with_reducible refine Calls.mono (HCH.out _) ?_;rintro e wc ⟨rfl,hb⟩;replace H:=H.grew hb.below;clear hb)|((with_reducible refine isStore ?_);refine AtStore.cell H rfl rfl rfl rfl rfl (cellTy_size (isCellT_ok rfl)) (cs:=cs1) pk (by first|(have:=HC5.out;omega)|(simp only [Array.size_setIfInBounds];have:=HC5.out;omega)) rfl ?_;clear H;intro _ H;simp only [Act.put,puA,puB,puC])|((with_reducible refine isStore ?_);refine AtStore.cell H rfl rfl rfl rfl rfl (cellTy_size (isCellT_ok rfl)) (cs:=cs1.setIfInBounds 2 (.slice ad9 (fs1.length+1) cp9)) pk (by first|(have:=HC5.out;omega)|(simp only [Array.size_setIfInBounds];have:=HC5.out;omega)) rfl ?_;clear H;intro _ H;simp only [Act.put,puA,puB,puC]))
     go_roundg c.lv
     case measure=>exact HCL.out
     case rel=>exact ⟨X2,_,_,fs1++[f2],_,c,ci,n2,rfl,rfl,HNX.out _ ad9 cp9 X2 rfl HY.out.1 HY.out.2.1 HY.out.2.2,H.picks (.cons pk (.cons pk (.cons (A:=pA X2) pk (.cons (A:=blk b8 (.cells #[.pointer none,.bool false,.slice none 0 0,.int .i64 0,.int .u64 0] 246)) pk .nil))))⟩
   ·have d3:decide ((fl:Int)<(n1:Int))=false:=by simp;omega
    have d4:decide (fl<n1)=false:=by simp;omega
    have hhv:endHv bk t1 n1=1:=by
     rcases hkr with ⟨kl,kr,ku,kv,hen,hte,_,_⟩|⟨kl,ku,kk,hen,hte,_,_⟩
     ·rw [hte] at hfl2 ⊢
      simp only [farT] at hfl2
      simp only [endHv]
      rw [if_neg (by cases bk <;> simp at hfl2 ⊢ <;> omega)]
     ·rw [hte] at hfl2 ⊢
      simp only [farT] at hfl2
      simp only [endHv,hfl2]
      rw [Nat.div_eq_of_lt (by have:=hin.pos;omega)]
    have hn2:n1-(endHv bk t1 n1-1)*fl=n1:=by rw [hhv];simp
    clear hkr hfl2 hgt hdf
    obtain ⟨f2,hf2⟩:∃ f2:Fr,f2=⟨id1,en.r,a1,1⟩:=⟨_,rfl⟩
    have hfr2:FrOf X1.S bk (t1,if bk then (kids t1).length-endHv bk t1 n1 else endHv bk t1 n1-1) f2:=by
     rw [hf2]
     refine ⟨hdn,ha1,⟨i,en,hi,hx,rfl⟩,?_,?_⟩
     ·simp only;cases bk <;> simp <;> omega
     ·simp only;rw [hhv] at e1 e2 ⊢;cases bk <;> simp <;> omega
    have HF2:Hid ((#[.int .i64 id1,.int .i64 en.r.kind,.int .u8 en.r.letter,.int .i64 en.r.left,.int .i64 en.r.right,.int .i64 en.r.times,.int .i64 a1,.int .i64 1]:Array Value).toList=flatG encFr [f2]):=Lib.hid (by rw [hf2];simp [flatG,encFr,Fr.cells])
    obtain ⟨c',hc',hdc⟩:=hfr2.child hin.ok.ok
    have hcc:c'=c:=by
     have h5:=hst.kid
     simp only at hc'
     rw [hc'] at h5
     injection h5
    rw [hcc] at hdc hc'
    obtain ⟨ci,hci⟩:∃ ci,childN bk f2=ci:=⟨_,rfl⟩
    rw [hci] at hdc
    have HCH:Hid (∀ w,Calls Tryz.prog 160 #[.agg #[.int .i64 id1,.int .i64 en.r.kind,.int .u8 en.r.letter,.int .i64 en.r.left,.int .i64 en.r.right,.int .i64 en.r.times,.int .i64 a1,.int .i64 1],.bool bk] w fun e w'=>e=.returned (.int .i64 ci)∧St w [] [] w'):=Lib.hid fun w=>by
     have:=child_c f2 bk w
     rw [hci,hf2] at this
     exact this
    have HNX:Hid (∀ (cs3:Array Value) (ad9:Option Addr) (cp9:Nat) (X2:Px),cs3=(cs1.setIfInBounds 2 (.slice ad9 (fs1.length+1) cp9)).setIfInBounds 3 (.int .i64 ci)→X1.Ext X2→PxOk X2→X2.S=X1.S→NeIn X X2 a bk n cs3 (.slice ad9 (fs1.length+1) cp9) (fs1++[f2]) ((t1,if bk then (kids t1).length-endHv bk t1 n1 else endHv bk t1 n1-1)::p1) c ci n1):=Lib.hid fun cs3 ad9 cp9 X2 hcs3 y1 y2 y3=>by
     have hs:X2.S=X.S:=y3.trans hin.same
     have hst':=hst
     rw [hn2] at hst'
     exact ⟨hin.ext.trans y1,y2,hs,by rw [hcs3];simpa using hin.sz,by rw [hcs3];exact (hin.at_.setPath _).setId ci,⟨fs1,f2,rfl,by rw [← hin.same];exact hfr2,hin.path⟩,by rw [← hin.same];exact hdc,hin.zip.down hst'.kid,hst'.pos,hst'.le,fun hb=>(hst'.left hb).symm.trans (hin.left hb),fun hb=>(hst'.right hb).symm.trans (hin.right hb)⟩
    have HCL:Hid (c.lv<t1.lv):=Lib.hid (hg1.kid (List.mem_of_getElem? hst.kid)).2
    clear hin hst hfr2 hf2 hhv hn2 hdc hc' hcc hci hdn hg1 hroom hi hx ht ha1 hl1 e1 e2 e3 h0 hlt
    go_wp2_with (first|refine sL ?_|(refine sS ?_;clear H;intros;rename_i H)|(go_at_call 92;first|(with_reducible refine Calls.mono (HSZ.out _ (H.get (A:=pA X1) pk)) ?_;rintro e wc ⟨rfl,hb⟩;replace H:=H.grew hb.below;clear hb)|(with_reducible refine Calls.mono (HSF.out _ (H.get (A:=pA X2) pk)) ?_;rintro e wc ⟨rfl,hb⟩;replace H:=H.grew hb.below;clear hb))|(go_at_call 158;with_reducible refine Calls.mono (HOP.out _ (H.sepK HK pk pk) (H.sepO pk pk)) ?_;rintro e wc ⟨X2,y1,y2,y3,rfl,hb⟩;have HY:=Lib.hid (And.intro y1 (And.intro y2 y3));clear y1 y2 y3;replace H:=(H.pick (A:=pA X1) pk).call hb;clear hb;simp only [List.cons_append,List.nil_append] at H;have HSF:=HSF0.of HY.out.1 HY.out.2.1 HY.out.2.2)|(go_at_call 159;with_reducible refine Calls.mono (HFAR.out _) ?_;rintro e wc ⟨rfl,hb⟩;replace H:=H.grew hb.below;clear hb)|((with_reducible refine isSlice ?_);refine AtSlice.one H rfl rfl rfl rfl rfl rfl rfl rfl rfl ?_;clear H;intro b _ H;simp only [Act.put,puA,puB,puC])|((with_reducible refine isAppend ?_);refine AtAppend.go (enc:=encFr) H rfl rfl rfl rfl rfl (by decide) (by decide) rfl pk rfl (H.at pk) [f2] rfl HF2.out encFr_len encFr_one (by simp;omega) ?_;clear H;intro ad9 cp9 _ H;simp only [Act.put,puA,puB,puC])|(go_at_call 160;with_reducible refine Calls.mono (HCH.out _) ?_;rintro e wc ⟨rfl,hb⟩;replace H:=H.grew hb.below;clear hb)|((with_reducible refine isStore ?_);refine AtStore.cell H rfl rfl rfl rfl rfl (cellTy_size (isCellT_ok rfl)) (cs:=cs1) pk (by first|(have:=HC5.out;omega)|(simp only [Array.size_setIfInBounds];have:=HC5.out;omega)) rfl ?_;clear H;intro _ H;simp only [Act.put,puA,puB,puC])|((with_reducible refine isStore ?_);refine AtStore.cell H rfl rfl rfl rfl rfl (cellTy_size (isCellT_ok rfl)) (cs:=cs1.setIfInBounds 2 (.slice ad9 (fs1.length+1) cp9)) pk (by first|(have:=HC5.out;omega)|(simp only [Array.size_setIfInBounds];have:=HC5.out;omega)) rfl ?_;clear H;intro _ H;simp only [Act.put,puA,puB,puC]))
    go_roundg c.lv
    case measure=>exact HCL.out
    case rel=>exact ⟨X2,_,_,fs1++[f2],_,c,ci,n1,rfl,rfl,HNX.out _ ad9 cp9 X2 rfl HY.out.1 HY.out.2.1 HY.out.2.2,H.picks (.cons pk (.cons pk (.cons (A:=pA X2) pk (.cons (A:=blk b8 (.cells #[.pointer none,.bool false,.slice none 0 0,.int .i64 0,.int .u64 0] 246)) pk .nil))))⟩
  ·have hnl:n1=l1:=by have:=hin.le;omega
   have d1:decide ((n1:Int)<(l1:Int))=false:=by simp;omega
   have d2:decide (n1<l1)=false:=by simp;omega
   have HDN:Hid (∀ w,(((pA X1).sep ((blk b9 (.cells cs1 246)).sep (rowsA encFr 265 8 pv1 fs1))).sep deA).ho w→Calls Tryz.prog 161 #[.pointer (some ⟨b9,0,none⟩),.int .i64 0] w fun e w'=>∃ (X':Px) (cs':Array Value) (pv':Value) (fs':List Fr) (id':Nat),e=.returned (.tuple #[])∧X1.Ext X'∧PxOk X'∧X'.S=X1.S∧EndAt cs' 0 X.p bk pv' id' (downT bk 0 p1 t1).2.key∧cs'.size=cs1.size∧PathOf X'.S bk (downT bk 0 p1 t1).1 fs'∧Den X'.S id' (downT bk 0 p1 t1).2∧St w ((pA X1).sep ((blk b9 (.cells cs1 246)).sep (rowsA encFr 265 8 pv1 fs1))).fp [pA X',blk b9 (.cells cs' 246),rowsA encFr 265 8 pv' fs'] w'):=Lib.hid fun w h=>by
    have:=down_c (m:=0) hin.ok (by rw [hin.ext.p];exact hin.at_) hdn hg1 (by rw [hin.same];exact hin.path) (lim:=1048576) (by omega) (by have:=GA.out.2;have:=hin.path.len;omega) (by omega) w h
    refine this.mono ?_
    rintro e w' ⟨X',cs',pv',fs',id',y0,y1,y2,y3,y4,y5,y6,y7,hb⟩
    exact ⟨X',cs',pv',fs',id',y0,y1,y2,y3,by rw [← hin.ext.p];exact y4,y5.size,y6,y7,hb⟩
   have HFIN:Hid ((bk=false→EndL a 0 ((downT bk 0 p1 t1).1,some (downT bk 0 p1 t1).2) ((a.lay 0).take n))∧(bk=true→EndR a 0 ((downT bk 0 p1 t1).1,some (downT bk 0 p1 t1).2) ((a.lay 0).drop (a.len-n)))):=Lib.hid (by
    have hab:Above 0 p1:=fun f hf=>by have:=((hin.zip.gd GA.out.1).2 f hf).1;omega
    have hlen:=len_lay0 hg1
    refine ⟨fun hb=>?_,fun hb=>?_⟩
    ·have h1:=hin.left hb
     rw [List.take_of_length_le (by omega)] at h1
     subst hb
     rw [← h1]
     exact downL t1 p1 hin.zip hg1 hab
    ·have h1:=hin.right hb
     rw [show t1.len-n1=0 by omega,List.drop_zero] at h1
     subst hb
     rw [← h1]
     exact downR t1 p1 hin.zip hg1 hab)
   obtain ⟨ky3,hky3⟩:∃ k,(downT bk 0 p1 t1).2.key=k:=⟨_,rfl⟩
   rw [hky3] at HDN
   have HKY3:=Lib.hid hky3
   clear hky3
   have HEX:Hid (X.Ext X1∧X1.S=X.S):=Lib.hid ⟨hin.ext,hin.same⟩
   clear hin hdn hg1 hroom hi hx ht ha1 hl1 hlt hnl
   go_wp2_with (first|refine sL ?_|(refine sS ?_;clear H;intros;rename_i H)|(go_at_call 92;first|(with_reducible refine Calls.mono (HSZ.out _ (H.get (A:=pA X1) pk)) ?_;rintro e wc ⟨rfl,hb⟩;replace H:=H.grew hb.below;clear hb))|(go_at_call 161;with_reducible refine Calls.mono (HDN.out _ ((St.join3 (H.pick3 (A:=pA X1) (B:=blk b9 (.cells cs1 246)) (C:=rowsA encFr 265 8 pv1 fs1) pk pk pk)).sepK HK pk pk)) ?_;rintro e wc ⟨X2,cs3,pv3,fs3,id3,rfl,y1,y2,y3,y4,y5,y6,y7,hb⟩;have e9:=five_eq y4 (y5.trans HC5.out);subst e9;have HY:=Lib.hid (And.intro y1 (And.intro y2 (And.intro y3 (And.intro y6 y7))));clear y1 y2 y3 y4 y5 y6 y7;replace H:=(St.join3 (H.pick3 (A:=pA X1) (B:=blk b9 (.cells cs1 246)) (C:=rowsA encFr 265 8 pv1 fs1) pk pk pk)).call hb;clear hb;simp only [List.cons_append,List.nil_append] at H;obtain ⟨ad3,c3,e3,_⟩:=rowsA_shape (H.get (A:=rowsA encFr 265 8 pv3 fs3) pk);subst e3))
   refine bodyPost_ret (res_row rfl H rfl pk rfl) rfl ?_
   have hy:=HY.out
   exact ⟨X2,_,fs3,id3,ky3,((downT bk 0 p1 t1).1,some (downT bk 0 p1 t1).2),rfl,HEX.out.1.trans hy.1,hy.2.1,hy.2.2.1.trans HEX.out.2,hy.2.2.2.1,⟨hy.2.2.2.2,HKY3.out.symm⟩,HFIN.out.1,HFIN.out.2,H.picks (.cons (A:=pA X2) pk (.cons pk .nil))⟩
end
section
open Go.RowKit Go.Maps
attribute [local go_sem] InGr
def IdIs (S:Sto) (id:Nat) (s:List Tr):Prop:=(s=[]∧id=0)∨∃ T,Den S id T∧Canon T∧T.lay 0=s
theorem IdIs.le {S S':Sto} {id:Nat} {s:List Tr} (h:IdIs S id s) (hS:S.Ok) (hl:S.Le S'):IdIs S' id s:=by
 rcases h with h|⟨T,h1,h2⟩
 ·exact .inl h
 ·exact .inr ⟨T,h1.le hS hl,h2⟩
theorem canon_pos {T:Tr} (h:Canon T):1≤(T.lay 0).length:=lay_pos h.gd.2
theorem canon_high {T:Tr} (h:Canon T) {m:Nat} (hm:T.lv≤m):seqP (T.lay 0) m=[T]:=by rw [h.seq m,lay_low hm]
theorem canon_uniq {T U:Tr} (h:Canon T) (k:Canon U) (e:T.lay 0=U.lay 0):T=U:=by
 have h1:=canon_high h (Nat.le_max_left T.lv U.lv)
 have h2:=canon_high k (Nat.le_max_right T.lv U.lv)
 rw [e,h2] at h1
 injection h1 with h1
 exact h1.symm
theorem canon_lv {T:Tr} (h:Canon T) (hl:(T.lay 0).length≤1152921504606846976):T.lv≤25339:=by
 have h1:=canon_pos h
 obtain ⟨U,u1,u2,u3⟩:=canon_exists h.leaves (fun e=>by rw [e] at h1;simp at h1) hl
 have:=canon_uniq h u1 u2.symm
 subst this
 obtain ⟨a,ha,hb⟩:=u3
 rw [lv_of ha]
 exact hb
theorem IdIs.len {S:Sto} (hS:S.Ok) {id:Nat} {s:List Tr} (h:IdIs S id s):s.length≤1152921504606846976:=by
 rcases h with ⟨rfl,_⟩|⟨T,h1,h2,rfl⟩
 ·simp
 ·rw [len_lay0 h2.gd];exact den_len_le hS h1
theorem IdIs.leaves {S:Sto} {id:Nat} {s:List Tr} (h:IdIs S id s):Leaves s:=by
 rcases h with ⟨rfl,_⟩|⟨T,h1,h2,rfl⟩
 ·intro t ht;simp at ht
 ·exact h2.leaves
theorem IdIs.uniq {S:Sto} (hS:S.Ok) {a b:Nat} {s:List Tr} (h:IdIs S a s) (k:IdIs S b s):a=b:=by
 rcases h with ⟨rfl,rfl⟩|⟨T,h1,h2,rfl⟩
 ·rcases k with ⟨_,rfl⟩|⟨U,_,k2,k3⟩
  ·rfl
  ·have:=canon_pos k2;rw [k3] at this;simp at this
 ·rcases k with ⟨k1,_⟩|⟨U,k1,k2,k3⟩
  ·have:=canon_pos h2;rw [k1] at this;simp at this
  ·have:=canon_uniq h2 k2 k3.symm
   subst this
   exact Den.id_inj hS h1 k1
theorem leaves_lenL:∀ {s:List Tr},Leaves s→lenL s=s.length
 |[],_=>rfl
 |t::s,h=>by
  obtain ⟨b,rfl⟩:=h t (by simp)
  rw [lenL_cons,leaves_lenL (fun u hu=>h u (by simp [hu]))]
  simp [Tr.len];omega
theorem canon_some:∃ D,Canon D∧(D.lay 0).length=1∧D.lv≤25339:=by
 obtain ⟨D,h1,h2,_⟩:=canon_exists (s:=[.leaf 0]) (fun t ht=>by simp at ht;exact ⟨0,ht⟩) (by simp) (by simp)
 exact ⟨D,h1,by rw [h2];rfl,canon_lv h1 (by rw [h2];simp)⟩
theorem side_left {S:Sto} (hS:S.Ok) {id i:Nat} {s:List Tr} (h:IdIs S id s) (hi:i≤s.length):∃ T,Canon T∧T.lv≤25339∧i≤(T.lay 0).length∧(T.lay 0).take i=s.take i∧(1≤i→Den S id T)∧(i=(T.lay 0).length→i=s.length):=by
 have hl:=h.len hS
 rcases h with ⟨rfl,rfl⟩|⟨T,h1,h2,rfl⟩
 ·obtain ⟨D,d1,d2,d3⟩:=canon_some
  have h0:i=0:=by simpa using hi
  subst h0
  exact ⟨D,d1,d3,by omega,by simp,fun h=>by omega,fun h=>by omega⟩
 ·exact ⟨T,h2,canon_lv h2 hl,hi,rfl,fun _=>h1,fun h=>h⟩
theorem side_right {S:Sto} (hS:S.Ok) {id j:Nat} {s:List Tr} (h:IdIs S id s) (hj:j≤s.length):∃ T j',Canon T∧T.lv≤25339∧j'≤(T.lay 0).length∧(T.lay 0).length-j'=s.length-j∧(T.lay 0).drop j'=s.drop j∧(1≤s.length-j→Den S id T)∧(s.length-j=(T.lay 0).length→j=0):=by
 have hl:=h.len hS
 rcases h with ⟨rfl,rfl⟩|⟨T,h1,h2,rfl⟩
 ·obtain ⟨D,d1,d2,d3⟩:=canon_some
  have h0:j=0:=by simpa using hj
  subst h0
  exact ⟨D,1,d1,d3,by omega,by rw [d2];simp,by rw [List.drop_of_length_le (by omega)];simp,fun h=>by simp at h,fun _=>rfl⟩
 ·have:=canon_pos h2
  exact ⟨T,j,h2,canon_lv h2 hl,hj,rfl,rfl,fun _=>h1,fun h=>by omega⟩
theorem size_any {X:Px} {id:Nat} {s:List Tr} (hX:PxOk X) (hd:IdIs X.S id s) (w:World) (h:(pA X).ho w):Calls Tryz.prog 92 #[.pointer (some ⟨X.p,0,none⟩),.int .i64 id] w fun e w'=>e=.returned (.int .i64 (s.length:Nat))∧St w [] [] w':=by
 rcases hd with ⟨rfl,rfl⟩|⟨T,h1,h2,rfl⟩
 ·have HK:=Ks.one h
  have H:=St.nil w []
  have HW:Hid (∀ w,(pA X).ho w→Calls Tryz.prog 40 #[.pointer (some ⟨X.s,0,none⟩),.int .i64 0] w fun e w'=>e=.returned (.tuple #[.agg #[.int .i64 0,.int .i64 En.unit.w.lines,.int .i64 En.unit.w.head,.int .i64 En.unit.w.tail,.int .u64 En.unit.w.val,.int .u64 En.unit.w.scale],.nilIface])∧St w [] [] w'):=Lib.hid fun w h=>by
   exact weight_c (i:=0) rfl w (pA_sto h)
  have HS:Hid (∀ w,(pA X).ho w→Calls Tryz.prog 53 #[.pointer (some ⟨X.p,0,none⟩)] w fun e w'=>e=.returned (.pointer (some ⟨X.s,0,none⟩))∧w'=w):=Lib.hid fun w h=>store_p w h
  clear hX h
  go_enter Tryz.func92,Tryz.ntmps92
  go_wp2_with (first|refine sL ?_|(refine sS ?_;clear H;intros;rename_i H)|(go_at_call 53;refine same (HS.out _ (H.known HK pk)) ?_)|(go_at_call 40;with_reducible refine Calls.mono (HW.out _ (H.known HK pk)) ?_;rintro e wc ⟨rfl,hb⟩;replace H:=H.grew hb.below;clear hb))
  go_ret
  exact ⟨rfl,H.nix⟩
 ·rw [len_lay0 h2.gd]
  exact size_p hX h1 w h
theorem top_any {X:Px} {id:Nat} {s:List Tr} (hX:PxOk X) (hd:IdIs X.S id s):∃ l,l≤25339∧∀ (X1:Px) (w:World),X.Ext X1→PxOk X1→X1.S=X.S→PH X1 w→Calls Tryz.prog 91 #[.pointer (some ⟨X.p,0,none⟩),.int .i64 id] w (PPost X1 (.tuple #[.int .i64 (l:Nat),.nilIface]) (pA X1).fp w):=by
 have hl:=hd.len hX.ok
 rcases hd with ⟨rfl,rfl⟩|⟨T,h1,h2,rfl⟩
 ·refine ⟨0,by omega,fun X1 w q1 q2 q3 h=>?_⟩
  have h:((pA X1).sep deA).ho w:=h
  rw [sep_ho] at h
  have:=top_zero (X:=X1) w h.1
  rw [q1.p] at this
  refine this.mono ?_
  rintro e w' ⟨rfl,rfl⟩
  exact ⟨X1,.refl _,q2,rfl,rfl,St.one h.1⟩
 ·obtain ⟨a,ha⟩:=h2.gd.1
  have hb:a≤25339:=by rw [← lv_of ha];exact canon_lv h2 hl
  refine ⟨a,hb,fun X1 w q1 q2 q3 h=>?_⟩
  have:=top_p (X:=X1) q2 (by rw [q3];exact h1) w h
  rw [q1.p,ha] at this
  exact this
theorem newEnd_any {X:Px} {T:Tr} {bk:Bool} {id n:Nat} (hX:PxOk X) (hd:1≤n→Den X.S id T) (hg:T.Gd) (hl:T.lv≤25339) (hn:n≤(T.lay 0).length) (w:World) (h:((pA X).sep deA).ho w) :
  Calls Tryz.prog 147 #[.pointer (some ⟨X.p,0,none⟩),.int .i64 id,.int .i64 (n:Nat),.bool bk] w (NewPost X T bk n (pA X).fp w):=by
 rcases Nat.eq_zero_or_pos n with rfl|h0
 ·rw [sep_ho] at h
  exact newEnd_zero hX hg w h.1
 ·rw [len_lay0 hg] at hn
  exact newEnd_c hX (hd h0) hg hl h0 hn w h
end
end Go.Proofs.YtgnppnokkdghcaaGreatDoor
