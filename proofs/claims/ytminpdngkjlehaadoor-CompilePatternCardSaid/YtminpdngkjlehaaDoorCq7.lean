/-
  Part 7 of the texts behind the statements of this seat: walks and laws Mg, Mh, Mi, Lv, Mj. Conditions: as each states.
-/
import Derived.Test.YtminpdngkjlehaaDoorCq6
import Derived.Deep.CutBlock
import Derived.Deep.CutRange
import Derived.Deep.DeepCutAuto
import Derived.Deep.LoopGhost
import Derived.Laws.ResultCell
set_option linter.unusedSimpArgs false
set_option linter.unusedVariables false
set_option maxRecDepth 100000
set_option maxHeartbeats 80000000
open Go.Proofs.Tryd renaming func54→xl,ntmps54→x4,prog→z6,underlying34→zF
open List renaming Perm→yd,cons_append→z7,drop_drop→jP,drop_eq_nil_of_le→Zl,drop_succ_cons→wO,drop_zero→y8,foldl_cons→zQ,foldl_nil→zY,getElem?_drop→xN,getElem?_eq_none_iff→yh,getElem?_eq_some_iff→zy,getElem_mem→yt,length_append→zN,length_cons→yZ,length_drop→vW,length_map→zE,length_singleton→qm,length_take→yD,map_append→qQ,map_cons→qU,map_nil→k6,mem_cons→zG,mem_of_getElem?→zc,mem_of_mem_drop→jq,nil_append→z8,setIfInBounds_toArray→zd,set_cons_succ→zk,set_cons_zero→zj,take_of_length_le→zM,take_zero→jG
open Nat renaming le_refl→zp,zero_add→qA,zero_le→zH
namespace Go.Proofs.YtminpdngkjlehaaDoor
section
open Go.RowKit
attribute [local go_sem] jQ jp jK
attribute [local go_sem] strB_len strB_bytes
theorem not_c (s:Nat->Nat) (hs:W64 s) (w:World) :
  Calls z6 87 #[.agg (AV s)] w fun e w'=>e=.returned (.agg (AV (ZH s)))∧Below w.heap.size w w':=by
 go_enter Tryd.func87,Tryd.ntmps87;go_wp2_with (refine qT rfl 34 rfl _ z26 ?_;simp only [Act.put,zd,zj,zk,World.size_alloc])
 go_loopw [3,4] (fun _ i wr=>∃ k:Nat,k<=4∧i=.int .i64 k∧wr=((w.alloc (.cells (AV (Q9 (ZH s) s k)) 34)).alloc (.cells (AV fun _=>0) 34))) (fun _ i _=>4-(intOf i).toNat)
 case atStart=>exact ⟨0,by omega,rfl,by rw [← ZG]⟩
 case round =>
  obtain ⟨k,hk,rfl,rfl⟩:=hrel;by_cases hlt:k<4
  ·have h1:=QX (ZH s) s k hlt
   go_wp2
   go_roundw
   case rel=>exact ⟨k+1,by omega,by go_num,by rw [ZF (ZH s) s k _ (not_form _ (hs k))]⟩
   case measure=>simp [intOf];omega
  ·obtain rfl:k=4:=by omega
   rw [ZE];go_wp2_with (first|(refine wpList_load_row rfl 34 _ rfl _ rfl _ _ _ _ ((yJ _ _ _ (by simp)).trans (qS _ _ _ rfl)) zF rfl (i26 _) ?_;simp only [Act.put,zd,zj,zk])|(refine qr rfl 34 _ _ rfl _ rfl _ rfl _ _ (qS _ _ _ (by simp)) (i26 _) (by rw [qB,qB]) (ws _) ?_;rw [yQ _ _ _ _ _ (by simp)];simp only [Act.put,zd,zj,zk]));exact bodyPost_ret (results_cell_row rfl _ _ _ _ _ _ _ rfl (qS _ _ _ (by simp)) zF rfl (i26 _)) rfl
    ⟨rfl,((Below.refl _ _).alloc (by simp) _).alloc (by simp) _⟩
structure Pst (w0:World) (B:Nat) (s:Nat->Nat) (w:World):Prop where
 res:w.heap[B]?=some (.cells (AV fun _=>0) 34)
 set:w.heap[B+1]?=some (.cells (AV s) 34)
 below:Below B w0 w
 at0:B=w0.heap.size
theorem Pst.size {w0:World} {s:Nat->Nat} {B:Nat} {w:World} (h:Pst w0 B s w):B+2<=w.heap.size:=lt_of_block h.set
theorem Pst.grew {w0:World} {s:Nat->Nat} {B:Nat} {w w':World} (h:Pst w0 B s w) (hg:Below w.heap.size w w'):Pst w0 B s w' :=
 ⟨qE hg h.res,qE hg h.set,h.below.trans (hg.mono (by have:=h.size;omega)),h.at0⟩
theorem Pst.put {w0:World} {s:Nat->Nat} {B:Nat} {w:World} (h:Pst w0 B s w) (t:Nat->Nat):Pst w0 B t (w.setRow (B+1) (AV t)) :=
 ⟨(setRow_other _ _ _ _ (by omega)).trans h.res,setRow_heap _ _ _ _ _ _ h.set,h.below.trans ⟨rfl,rfl,rfl,by simp,fun k hk=>setRow_other _ _ _ _ (by omega)⟩,h.at0⟩
def prsV:Option (Nat->Nat)->Value
 |none=>.tuple #[.agg (AV fun _=>0),.iface 56 (.int .i64 4)]
 |some s=>.tuple #[.agg (AV s),.nilIface]
theorem wN {P:Program} {ops:Array Oper} {rest:List Oper} {o:Oper} {a:Act} {w:World} {Q:Exit->Act->World->Prop} (hgd:o.guard=none) (ty:TypeId) (x y:Operand) (ho:o.op=.store ty x y)
  (g:Nat) (hx:a.eval x=.pointer (some ⟨g,0,none⟩)) (hy:a.eval y=.agg #[.int .u64 0,.int .u64 0,.int .u64 0,.int .u64 0]) (t:TypeId) (s:Nat->Nat)
  (hg:w.heap[g]?=some (.cells (AV s) t)) (hi:(P.info? ty).map (·.size)=some 4)
  (h:wpList P ops Q rest (a.put o.dst undef) (w.setRow g (AV fun _=>0))):wpList P ops Q (o::rest) a w:=by
 refine qr hgd ty x y ho g hx (AV fun _=>0) (by rw [hy,wh];rfl) t (AV s) hg (by rw [qB];exact hi) (by rw [qB,qB]) (ws _) h
theorem vx {w:World} {s:Nat->Nat} {B:Nat} {w0:World} (h:Pst w0 B s w):(w.setRow B (AV fun _=>0)).heap[B]?=some (.cells (AV fun _=>0) 34)∧Below B w0 (w.setRow B (AV fun _=>0)) :=
 ⟨setRow_heap _ _ _ _ _ _ h.res,h.below.trans ⟨rfl,rfl,rfl,by simp,fun k hk=>setRow_other _ _ _ _ (by omega)⟩⟩
theorem Pst.final {w0:World} {s:Nat->Nat} {B:Nat} {w:World} (h:Pst w0 B s w):(w.setRow B (AV s)).heap[B]?=some (.cells (AV s) 34)∧Below B w0 (w.setRow B (AV s)) :=
 ⟨setRow_heap _ _ _ _ _ _ h.res,h.below.trans ⟨rfl,rfl,rfl,by simp,fun k hk=>setRow_other _ _ _ _ (by omega)⟩⟩
theorem XK (L:List Nat) (k:Nat):(strB L).extract k L.length=strB (L.drop k):=by rw [← strB_cut,Qf]
theorem elt_at (L:List Nat) (hl:∀ x∈L,x<256) (k:Nat) (hk:k<=L.length):∃ a n:Nat,Hid (elt (L.drop k)=(a,n))∧a<256∧k+n<=L.length:=by
 have h:=elt_bd (L.drop k) fun x hx=>hl x (jq hx)
 refine ⟨(elt (L.drop k)).1,(elt (L.drop k)).2,zh rfl,h.1,?_⟩;have h2:=h.2.1;rw [vW] at h2;omega
theorem Xd (a:Nat) (ha:a<256) (w:World):Calls z6 60 #[.int .u8 a,.int .u8 a] w fun e w'=>e=.returned (.agg (AV (btw a 1)))∧Below w.heap.size w w':=by
 have:=ZZ a a ha ha w;rwa [show a+1-a=1 by omega] at this
theorem QU {L:List Nat} {k:Nat} (h:k<L.length):L.drop k≠[]:=by intro e;have:=List.drop_eq_nil_iff.1 e;omega
theorem prs_end {L:List Nat} {k:Nat} (h:¬ k<L.length) (s:Nat->Nat):prs (L.drop k) s=some s:=by rw [Zl (by omega),V0]
theorem prs_err0 {L:List Nat} {k a:Nat} (h:k<L.length) (he:elt (L.drop k)=(a,0)) (s:Nat->Nat):prs (L.drop k) s=none:=YD (QU h) (rng_no (by rw [he])) s
theorem V1 {L:List Nat} {k a n:Nat} (h:k<L.length) (he:elt (L.drop k)=(a,n)) (hn:n≠0) (h2:L[k+n]?≠some 45) (s:Nat->Nat):prs (L.drop k) s=prs (L.drop (k+n)) (orW s (btw a 1)):=by
 have h3:=rng_one (l:=L.drop k) (by rw [he];exact hn) (by rw [he,xN];exact h2);rw [he] at h3;rw [YE (QU h) h3,jP,show a+1-a=1 by omega]
theorem J9 {L:List Nat} {k a n b m:Nat} (h:k<L.length) (he:elt (L.drop k)=(a,n)) (hn:n≠0) (h2:L[k+n]?=some 45) (he2:elt (L.drop (k+n+1))=(b,m)) (hb:m=0∨b<a) (s:Nat->Nat):prs (L.drop k) s=none:=by
 refine YD (QU h) (rng_bad (by rw [he];exact hn) (by rw [he,xN];exact h2) ?_) s;rw [he,jP,show k+(n+1)=k+n+1 by omega,he2];exact hb
theorem prs_two {L:List Nat} {k a n b m:Nat} (h:k<L.length) (he:elt (L.drop k)=(a,n)) (hn:n≠0) (h2:L[k+n]?=some 45) (he2:elt (L.drop (k+n+1))=(b,m)) (hb:¬ (m=0∨b<a)) (s:Nat->Nat) :
  prs (L.drop k) s=prs (L.drop (k+n+1+m)) (orW s (btw a (b+1-a))):=by
 have h3:=rng_two (l:=L.drop k) (by rw [he];exact hn) (by rw [he,xN];exact h2) (by rw [he,jP,show k+(n+1)=k+n+1 by omega,he2];exact hb);rw [he,jP,show k+(n+1)=k+n+1 by omega,he2] at h3;rw [YE (QU h) h3,jP];congr 2
 omega
theorem parse_c (L:List Nat) (hl:∀ x∈L,x<256) (hL:L.length<=1000000000000000) (w:World) :
  Calls z6 88 #[.string (strB L)] w fun e w'=>e=.returned (prsV (prs L fun _=>0))∧Below w.heap.size w w':=by
 obtain ⟨B,hBB⟩:∃ B,B=w.heap.size:=⟨_,rfl⟩
 have HBB:=zh hBB;have H0:Hid (Pst w B (fun _=>0) ((w.alloc (.cells (AV fun _=>0) 34)).alloc (.cells (AV fun _=>0) 34))):=zh
  ⟨by rw [yJ _ _ _ (by simp;omega)];exact qS _ _ _ hBB,qS _ _ _ (by simp;omega),by rw [hBB];exact ((Below.refl _ _).alloc (by simp) _).alloc (by simp) _,hBB⟩
 have HL:=zh hl;clear hl;go_enter Tryd.func88,Tryd.ntmps88;go_wp2_with (refine qT rfl 34 rfl _ z26 ?_;simp only [Act.put,zd,zj,zk,World.size_alloc]);rw [← hBB];clear hBB;go_loopg [5] L.length (fun g i wr=>∃ (k:Nat) (s:Nat->Nat),k<=L.length∧g=L.length-k∧i=.int .i64 k∧Hid (prs (L.drop k) s=prs L fun _=>0)∧Hid (W64 s)∧Hid (Pst w B s wr));case atStart=>exact ⟨0,_,by omega,by omega,rfl,zh (by rw [y8]),zh vg,H0⟩
 case round =>
  obtain ⟨k,s,hk,rfl,rfl,HF,HW,HS⟩:=hrel;clear H0;by_cases hlt:k<L.length
  ·obtain ⟨a,n,HE,ha,hn⟩:=elt_at L HL.out k hk;go_wp2_with fail;rw [XK];refine (Yo _ (fun x hx=>HL.out x (jq hx)) _).mono ?_;rw [HE.out];rintro e w1 ⟨rfl,hb1⟩;have HS1:=zh (HS.out.grew hb1);clear hb1 HS;by_cases hn0:n=0
   ·subst hn0;have HR:Hid (prs L (fun _=>0)=none):=zh (by rw [← HF.out];exact prs_err0 hlt HE.out s);go_wp2_with (first|(refine wN rfl 34 _ _ rfl _ rfl rfl _ _ HS1.out.res WT ?_;simp only [Act.put,zd,zj,zk]));have HZ:=vx HS1.out;exact bodyPost_ret (wn rfl _ _ _ _ _ _ _ _ rfl rfl HZ.1 zF rfl (i26 _)) rfl ⟨by rw [HR.out];rfl,by rw [← HBB.out];exact HZ.2⟩
   ·have c0:((n:Int)==0)=false:=beq_eq_false_iff_ne.2 (by omega);have HN0:=zh hn0;have hn1:1<=n:=(by omega);clear hn0;by_cases h45:L[k+n]?=some 45
    ·have HD:=zh h45;have hlt2:k+n<L.length:=(zy.1 h45).1;have i0:=yp L (k+n) 45 (by omega) h45;clear h45;obtain ⟨b,m,HE2,hb,hm⟩:=elt_at L HL.out (k+n+1) (by omega);go_wp2_with fail;rw [XK];refine (Yo _ (fun x hx=>HL.out x (jq hx)) _).mono ?_;rw [HE2.out];rintro e w2 ⟨rfl,hb2⟩;have HS2:=zh (HS1.out.grew hb2);clear hb2 HS1;by_cases hm0:m=0
     ·have HM:=zh hm0;subst hm0;have HR:Hid (prs L (fun _=>0)=none):=zh (by rw [← HF.out];exact J9 hlt HE.out HN0.out HD.out HE2.out (.inl rfl) s);go_wp2_with (first|(refine wN rfl 34 _ _ rfl _ rfl rfl _ _ HS2.out.res WT ?_;simp only [Act.put,zd,zj,zk]));have HZ:=vx HS2.out;exact bodyPost_ret (wn rfl _ _ _ _ _ _ _ _ rfl rfl HZ.1 zF rfl (i26 _)) rfl ⟨by rw [HR.out];rfl,by rw [← HBB.out];exact HZ.2⟩
     ·have c1:((m:Int)==0)=false:=beq_eq_false_iff_ne.2 (by omega);have HM:=zh hm0;have hm1:1<=m:=(by omega);clear hm0;by_cases hba:b<a
      ·have HBA:=zh hba;have HR:Hid (prs L (fun _=>0)=none):=zh (by rw [← HF.out];exact J9 hlt HE.out HN0.out HD.out HE2.out (.inr HBA.out) s);go_wp2_with (first|(refine wN rfl 34 _ _ rfl _ rfl rfl _ _ HS2.out.res WT ?_;simp only [Act.put,zd,zj,zk]));have HZ:=vx HS2.out;exact bodyPost_ret (wn rfl _ _ _ _ _ _ _ _ rfl rfl HZ.1 zF rfl (i26 _)) rfl ⟨by rw [HR.out];rfl,by rw [← HBB.out];exact HZ.2⟩
      ·have hba2:a<=b:=(by omega);have HBA:Hid (¬ (m=0∨b<a)):=zh (by have:=HM.out;omega);clear hba;go_wp2_with fail;refine wq 5 [IsV (.agg (AV s)),IsV (.int .u8 a),IsV (.int .u8 b),IsV (.agg (AV (btw a (b+1-a)))),IsV (.agg (AV (orW s (btw a (b+1-a)))))] []
        [[],[],[],[(1,60),(2,61)],[(0,59),(3,62)]] [(0,59),(1,60),(2,61),(3,62),(4,63)] (by kernel_rfl) (by kernel_rfl) rfl ?stable ⟨?o0,?o1,?o2,?o3,?o4,trivial⟩ ?fin
       case stable=>exact ⟨IsV.stable _,IsV.stable _,IsV.stable _,IsV.stable _,IsV.stable _,trivial⟩
       case o0 =>
        intro vals w' hg hd;clear hd;simp only [xC,zY];exact xA (by rfl) _ _ rfl _ rfl _ _ _ _ (qE hg HS2.out.set) zF rfl (i26 _) (yX _ _)
       case o1 =>
        intro vals w' hg hd;clear hd;simp only [xC,zY];clear hg;go_simp;try go_bits
        exact yX _ _
       case o2 =>
        intro vals w' hg hd;clear hd;simp only [xC,zY];clear hg;go_simp;try go_bits
        exact yX _ _
       case o3 =>
        intro vals w' hg hd;have h1:vals 1=.int .u8 a:=hd.1;have h2:vals 2=.int .u8 b:=hd.2.1;clear hd;simp only [xC,zY,zQ,Act.put,zd,zj,zk,h1,h2];clear hg h1 h2;go_simp;exact (ZZ a b ha hb w').mono fun e w2 ⟨he,hb⟩=>⟨_,he,hb,yX _ _⟩
       case o4 =>
        intro vals w' hg hd;have h0:vals 0=.agg (AV s):=hd.1;have h3:vals 3=.agg (AV (btw a (b+1-a))):=hd.2.1;clear hd;simp only [xC,zY,zQ,Act.put,zd,zj,zk,h0,h3];clear hg h0 h3;go_simp;exact (Wi s _ HW.out (j6 _ _) w').mono fun e w2 ⟨he,hb⟩=>⟨_,he,hb,yX _ _⟩
       case fin =>
        intro vals w' hg hd hfresh;have h0:vals 0=.agg (AV s):=hd.1;have h1:vals 1=.int .u8 a:=hd.2.1;have h2:vals 2=.int .u8 b:=hd.2.2.1;have h3:vals 3=.agg (AV (btw a (b+1-a))):=hd.2.2.2.1;have h4:vals 4=.agg (AV (orW s (btw a (b+1-a)))):=hd.2.2.2.2.1;clear hd;simp only [xC,zY,zQ,Act.put,zd,zj,zk,wO,y8,h0,h1,h2,h3,h4];have HS9:=zh ((HS2.out.grew hg).put (orW s (btw a (b+1-a))));have HG:=zh (HS2.out.grew hg).set;clear hg hfresh h0 h1 h2 h3 h4 HS2;go_wp2_with (first|(refine qr rfl 34 _ _ rfl _ rfl _ rfl _ _ HG.out (i26 _) (by rw [qB,qB]) (ws _) ?_;simp only [Act.put,zd,zj,zk]));go_roundg (L.length-(k+n+1+m));case measure=>omega
        case rel=>exact ⟨k+n+1+m,_,by omega,rfl,by go_num,zh (by rw [← HF.out];exact (prs_two hlt HE.out HN0.out HD.out HE2.out HBA.out s).symm),zh (QY HW.out (j6 _ _)),HS9⟩
    ·have HD:=zh h45;by_cases hlt2:k+n<L.length
     ·obtain ⟨c,hc⟩:∃ c,L[k+n]?=some c:=⟨_,zg hlt2⟩
      have hc2:c<256:=HL.out c (zc hc);have i0:=yp L (k+n) c hc2 hc;have c1:((c:Int)==45)=false:=beq_eq_false_iff_ne.2 (by intro e;apply h45;rw [hc];congr 1;omega);clear h45 hc;go_wp2_with fail;refine wq 5 [IsV (.agg (AV s)),IsV (.int .u8 a),IsV (.int .u8 a),IsV (.agg (AV (btw a 1))),IsV (.agg (AV (orW s (btw a 1))))] []
       [[],[],[],[(1,60),(2,61)],[(0,59),(3,62)]] [(0,59),(1,60),(2,61),(3,62),(4,63)] (by kernel_rfl) (by kernel_rfl) rfl ?stable ⟨?o0,?o1,?o2,?o3,?o4,trivial⟩ ?fin
      case stable=>exact ⟨IsV.stable _,IsV.stable _,IsV.stable _,IsV.stable _,IsV.stable _,trivial⟩
      case o0 =>
       intro vals w' hg hd;clear hd;simp only [xC,zY];exact xA (by rfl) _ _ rfl _ rfl _ _ _ _ (qE hg HS1.out.set) zF rfl (i26 _) (yX _ _)
      case o1 =>
       intro vals w' hg hd;clear hd;simp only [xC,zY];clear hg;go_simp;try go_bits
       exact yX _ _
      case o2 =>
       intro vals w' hg hd;clear hd;simp only [xC,zY];clear hg;go_simp;try go_bits
       exact yX _ _
      case o3 =>
       intro vals w' hg hd;have h1:vals 1=.int .u8 a:=hd.1;have h2:vals 2=.int .u8 a:=hd.2.1;clear hd;simp only [xC,zY,zQ,Act.put,zd,zj,zk,h1,h2];clear hg h1 h2;go_simp;exact (Xd a ha w').mono fun e w2 ⟨he,hb⟩=>⟨_,he,hb,yX _ _⟩
      case o4 =>
       intro vals w' hg hd;have h0:vals 0=.agg (AV s):=hd.1;have h3:vals 3=.agg (AV (btw a 1)):=hd.2.1;clear hd;simp only [xC,zY,zQ,Act.put,zd,zj,zk,h0,h3];clear hg h0 h3;go_simp;exact (Wi s _ HW.out (j6 _ _) w').mono fun e w2 ⟨he,hb⟩=>⟨_,he,hb,yX _ _⟩
      case fin =>
       intro vals w' hg hd hfresh;have h0:vals 0=.agg (AV s):=hd.1;have h1:vals 1=.int .u8 a:=hd.2.1;have h2:vals 2=.int .u8 a:=hd.2.2.1;have h3:vals 3=.agg (AV (btw a 1)):=hd.2.2.2.1;have h4:vals 4=.agg (AV (orW s (btw a 1))):=hd.2.2.2.2.1;clear hd;simp only [xC,zY,zQ,Act.put,zd,zj,zk,wO,y8,h0,h1,h2,h3,h4];have HS9:=zh ((HS1.out.grew hg).put (orW s (btw a 1)));have HG:=zh (HS1.out.grew hg).set;clear hg hfresh h0 h1 h2 h3 h4 HS1;go_wp2_with (first|(refine qr rfl 34 _ _ rfl _ rfl _ rfl _ _ HG.out (i26 _) (by rw [qB,qB]) (ws _) ?_;simp only [Act.put,zd,zj,zk]));go_roundg (L.length-(k+n));case measure=>omega
       case rel=>exact ⟨k+n,_,by omega,rfl,by go_num,zh (by rw [← HF.out];exact (V1 hlt HE.out HN0.out HD.out s).symm),zh (QY HW.out (j6 _ _)),HS9⟩
     ·have hge:L.length<=k+n:=(by omega);clear h45 hlt2;go_wp2_with fail;refine wq 5 [IsV (.agg (AV s)),IsV (.int .u8 a),IsV (.int .u8 a),IsV (.agg (AV (btw a 1))),IsV (.agg (AV (orW s (btw a 1))))] []
       [[],[],[],[(1,60),(2,61)],[(0,59),(3,62)]] [(0,59),(1,60),(2,61),(3,62),(4,63)] (by kernel_rfl) (by kernel_rfl) rfl ?stable ⟨?o0,?o1,?o2,?o3,?o4,trivial⟩ ?fin
      case stable=>exact ⟨IsV.stable _,IsV.stable _,IsV.stable _,IsV.stable _,IsV.stable _,trivial⟩
      case o0 =>
       intro vals w' hg hd;clear hd;simp only [xC,zY];exact xA (by rfl) _ _ rfl _ rfl _ _ _ _ (qE hg HS1.out.set) zF rfl (i26 _) (yX _ _)
      case o1 =>
       intro vals w' hg hd;clear hd;simp only [xC,zY];clear hg;go_simp;try go_bits
       exact yX _ _
      case o2 =>
       intro vals w' hg hd;clear hd;simp only [xC,zY];clear hg;go_simp;try go_bits
       exact yX _ _
      case o3 =>
       intro vals w' hg hd;have h1:vals 1=.int .u8 a:=hd.1;have h2:vals 2=.int .u8 a:=hd.2.1;clear hd;simp only [xC,zY,zQ,Act.put,zd,zj,zk,h1,h2];clear hg h1 h2;go_simp;exact (Xd a ha w').mono fun e w2 ⟨he,hb⟩=>⟨_,he,hb,yX _ _⟩
      case o4 =>
       intro vals w' hg hd;have h0:vals 0=.agg (AV s):=hd.1;have h3:vals 3=.agg (AV (btw a 1)):=hd.2.1;clear hd;simp only [xC,zY,zQ,Act.put,zd,zj,zk,h0,h3];clear hg h0 h3;go_simp;exact (Wi s _ HW.out (j6 _ _) w').mono fun e w2 ⟨he,hb⟩=>⟨_,he,hb,yX _ _⟩
      case fin =>
       intro vals w' hg hd hfresh;have h0:vals 0=.agg (AV s):=hd.1;have h1:vals 1=.int .u8 a:=hd.2.1;have h2:vals 2=.int .u8 a:=hd.2.2.1;have h3:vals 3=.agg (AV (btw a 1)):=hd.2.2.2.1;have h4:vals 4=.agg (AV (orW s (btw a 1))):=hd.2.2.2.2.1;clear hd;simp only [xC,zY,zQ,Act.put,zd,zj,zk,wO,y8,h0,h1,h2,h3,h4];have HS9:=zh ((HS1.out.grew hg).put (orW s (btw a 1)));have HG:=zh (HS1.out.grew hg).set;clear hg hfresh h0 h1 h2 h3 h4 HS1;go_wp2_with (first|(refine qr rfl 34 _ _ rfl _ rfl _ rfl _ _ HG.out (i26 _) (by rw [qB,qB]) (ws _) ?_;simp only [Act.put,zd,zj,zk]));go_roundg (L.length-(k+n));case measure=>omega
       case rel=>exact ⟨k+n,_,by omega,rfl,by go_num,zh (by rw [← HF.out];exact (V1 hlt HE.out HN0.out HD.out s).symm),zh (QY HW.out (j6 _ _)),HS9⟩
  ·have HR:Hid (prs L (fun _=>0)=some s):=zh (by rw [← HF.out];exact prs_end hlt s);go_wp2_with (first|(refine wpList_load_row rfl 34 _ rfl _ rfl _ _ _ _ HS.out.set zF rfl (i26 _) ?_;simp only [Act.put,zd,zj,zk])|(refine qr rfl 34 _ _ rfl _ rfl _ rfl _ _ HS.out.res (i26 _) (by rw [qB,qB]) (ws _) ?_;simp only [Act.put,zd,zj,zk]));have HZ:=HS.out.final;exact bodyPost_ret (wn rfl _ _ _ _ _ _ _ _ rfl rfl HZ.1 zF rfl (i26 _)) rfl ⟨by rw [HR.out];rfl,by rw [← HBB.out];exact HZ.2⟩
end
section
open Go.RowKit Go.Maps
attribute [local go_sem] qM run_panic_i
theorem St.ofBelow {w w':World} (h:Below w.heap.size w w'):St w [] [] w':=(St.nil w []).grew h
theorem XY:∀ (n:Nat) (l:List Nat) (s:Nat->Nat),l.length<=n->W64 s->∀ t,prs l s=some t->W64 t
 |n,l,s,hn,hs,t,h=>by
  by_cases he:l=[]
  ·subst he;rw [V0] at h;cases h;exact hs
  ·cases hr:rng l with
   |none=>rw [YD he hr] at h;cases h
   |some p =>
    obtain ⟨a,b,m⟩:=p;rw [YE he hr] at h;have h1:=V6 hr;have h2:=List.length_pos_iff.2 he;cases n with
    |zero=>omega
    |succ n=>exact XY n (l.drop m) _ (by simp;omega) (QY hs (j6 _ _)) t h
theorem StrL.strB {s:ByteArray} {L:List Nat} (h:StrL s L):s=strB L:=by
 apply ByteArray.ext;apply Array.ext
 ·have:=h.size;rw [ByteArray.size] at this;rw [this];exact (Qf L).symm
 ·intro i h1 h2;have hi:i<L.length:=(by rw [← h.size];exact h1);have hx:=h.idx i _ (zg hi) (default:World);have hs:(i:Int)<s.size:=(by rw [h.size];omega);rw [run_index_string _ _ _ _ _ (by kernel_rfl),dif_pos ⟨by omega,hs⟩] at hx;injection hx with hx _
  injection hx with _ hx
  have e1:s[i].toNat=L[i]:=(by exact_mod_cast hx);have hb:=h.lt _ (yt hi);have e2:=yp L i L[i] hb (zg hi) h2;apply UInt8.toNat_inj.1;exact e1.trans e2.symm
def kG:Nat->Nat:=ZH (ofL [10])
theorem dot_c (w:World):Calls z6 75 #[] w fun e w'=>e=.returned (.agg #[.int .u64 (kG 0:Nat),.int .u64 (kG 1:Nat),.int .u64 (kG 2:Nat),.int .u64 (kG 3:Nat)])∧St w [] [] w':=by
 have H:=St.nil w [];have HK:Ks w [] []:=Ks.nil w _;have HNT:Hid (∀ w,Calls z6 87 #[.agg (AV (ofL [10]))] w fun e w'=>e=.returned (.agg #[.int .u64 (kG 0:Nat),.int .u64 (kG 1:Nat),.int .u64 (kG 2:Nat),.int .u64 (kG 3:Nat)])∧Below w.heap.size w w'):=zh fun w=>by
  have:=not_c (ofL [10]) (wM _) w;rw [wh (ZH (ofL [10]))] at this;exact this
 obtain ⟨o0,ho0⟩:∃ z,kG 0=z:=⟨_,rfl⟩
 obtain ⟨o1,ho1⟩:∃ z,kG 1=z:=⟨_,rfl⟩
 obtain ⟨o2,ho2⟩:∃ z,kG 2=z:=⟨_,rfl⟩
 obtain ⟨o3,ho3⟩:∃ z,kG 3=z:=⟨_,rfl⟩
 rw [ho0,ho1,ho2,ho3] at HNT ⊢;obtain ⟨p0,hp0⟩:∃ z,ofL [10] 0=z:=⟨_,rfl⟩
 obtain ⟨p1,hp1⟩:∃ z,ofL [10] 1=z:=⟨_,rfl⟩
 obtain ⟨p2,hp2⟩:∃ z,ofL [10] 2=z:=⟨_,rfl⟩
 obtain ⟨p3,hp3⟩:∃ z,ofL [10] 3=z:=⟨_,rfl⟩
 have hAV:AV (ofL [10])=#[.int .u64 (p0:Nat),.int .u64 (p1:Nat),.int .u64 (p2:Nat),.int .u64 (p3:Nat)]:=(by rw [wh,hp0,hp1,hp2,hp3]);rw [hAV] at HNT;have HOF:Hid (∀ g w,(blk g (.cells #[.int .u8 10] 5)).ho w->Calls z6 84 #[.slice (some ⟨g,0,none⟩) 1 1] w fun e w'=>e=.returned (.agg #[.int .u64 (p0:Nat),.int .u64 (p1:Nat),.int .u64 (p2:Nat),.int .u64 (p3:Nat)])∧Below w.heap.size w w'):=zh fun g w h=>by
  have hg:=h;rw [yB] at hg;have:=of_c [10] (by simp) (by simp) g 0 1 w (zh fun i hi=>by
   have hi0:i=0:=(by simpa using hi);subst hi0;exact cell_of_row w g 0 _ _ (0,0) hg) (lt_of_block hg)
  rw [hAV] at this;exact this
 clear ho0 ho1 ho2 ho3 hAV hp0 hp1 hp2 hp3;go_enter Tryd.func75,Tryd.ntmps75;go_wp2_with (first|refine sL ?_|(refine sS ?_;clear H;intros;rename_i H)|((with_reducible refine ym ?_);refine AtSlice.one H rfl rfl rfl rfl rfl rfl rfl rfl rfl ?_;clear H;intro b9 _ H;simp only [Act.put,puA,puB,puC])|(go_at_call 84;refine (HOF.out _ _ (H.get pk)).mono ?_;rintro e wc ⟨rfl,hb⟩;replace H:=H.grew hb;clear hb)|(go_at_call 87;refine (HNT.out _).mono ?_;rintro e wc ⟨rfl,hb⟩;replace H:=H.grew hb;clear hb));refine bodyPost_ret (qy rfl H rfl pk rfl) rfl ?_;exact ⟨rfl,H.nix⟩
end
section
open Go.RowKit Go.Maps
attribute [local go_sem] qM run_panic_i
theorem K5 {f:FuncId} {args:Array Value} {v:Value} {w:World} {x:Gr w} (h:Calls z6 f args x.1 fun e w'=>e=.returned v∧St x.1 [] [] w'):Calls z6 f args x.1 fun e w''=>e=.returned v∧∃ y:Gr w,w''=y.1:=quiet_gr (zm h fun e w' hh=>⟨hh.1,hh.2.below⟩)
section
variable {ops:Array Oper} {a:Act} {w w0:World} {M:List Nat} {L:List As} {o:Oper} {Rr:Value->World->Prop}
theorem StStep.allocT {ty:TypeId} (H:St w0 M L w) (hw:Region.wanted o (yielded ops a.tmps)=true) (ho:o.op=.alloc ty) {z:Value} (hz:zO ty=some z) {cs:Array Value} (hc:wH z=some cs)
  (h:∀ b w',St w0 M (blk b (.cells cs ty)::L) w'->Rr (.pointer (some ⟨b,0,none⟩)) w'):StStep z6 ops o a w Rr :=
 StStep.val hw (by unfold execOp;simp only [ho,Instr.alloc,Sem.run_bind,YV hz,Result.andThen_ok,newVar,newRow,vD hc,run_newObj_alloc,Sem.run_pure]) (h _ _ (H.alloc (.cells cs ty)))
end
def clsE:List Nat->Nat->Option Nat
 |[],_=>none
 |[c],a=>if c=93 then some (a+1) else none
 |c::d::t,a=>if c=93 then some (a+1) else if c=92 then clsE t (a+2) else clsE (d::t) (a+1)
theorem XO:∀ {t:List Nat} {a b:Nat},clsE t a=some b->a<b∧b<=a+t.length
 |[],a,b,h=>by rw [clsE] at h;cases h
 |[c],a,b,h=>by
  rw [clsE] at h;split at h
  ·injection h with h
   subst h;simp
  ·cases h
 |c::d::t,a,b,h=>by
  rw [clsE] at h;split at h
  ·injection h with h
   subst h;simp
  ·split at h
   ·have:=XO h;simp only [yZ];omega
   ·have:=XO h;simp only [yZ] at this ⊢;omega
def Jt (L:List Nat) (ng:Bool) (f:Nat):Option ((Nat->Nat)×Nat):=match clsE (L.drop f) f with
 |none=>none
 |some b=>match prs ((L.drop f).take (b-1-f)) (fun _=>0) with
  |none=>none
  |some s=>some (if ng then ZH s else s,b)
def Ju (L:List Nat) (a:Nat):Option ((Nat->Nat)×Nat):=if L[a]?=some 94 then Jt L true (a+1) else Jt L false a
def PoS (w:World) (bp:Nat) (s:ByteArray) (o:Option ((Nat->Nat)×Nat)) (e:Ending) (w':World):Prop :=
 match o with
 |none=>e=xS∧St w [bp] [] w'
 |some (S,a)=>e=.returned (.agg #[.int .u64 (S 0:Nat),.int .u64 (S 1:Nat),.int .u64 (S 2:Nat),.int .u64 (S 3:Nat)])∧St w [bp] [paB bp s a] w'
def CqRel (w:World) (bp f nl b2:Nat) (s:ByteArray) (L:List Nat) (G:Option Nat) (mm:Nat) (wr:World):Prop :=
 ∃ b:Nat,mm=nl-b∧f<=b∧b<=nl∧clsE (L.drop b) b=G∧St w [bp] [paB bp s b,blk b2 (.cells #[.int .u64 0,.int .u64 0,.int .u64 0,.int .u64 0] 34)] wr
attribute [local go_sem] StStep Jj Zi in
theorem class_c {bp a:Nat} {s:ByteArray} {L:List Nat} (hs:StrL s L) (hl:L.length<=262144) (ha:a<=L.length) (w:World) (h:(paB bp s a).ho w) :
  Calls z6 76 #[.pointer (some ⟨bp,0,none⟩)] w (PoS w bp s (Ju L a)):=by
 have H:=St.one h;rw [qi] at H;have HK:Ks w [bp] []:=Ks.nil w _;obtain ⟨ng,hng⟩:∃ z,decide (L[a]?=some 94)=z:=⟨_,rfl⟩
 obtain ⟨f,hf⟩:∃ z,(if L[a]?=some 94 then a+1 else a)=z:=⟨_,rfl⟩
 have hfl:f<=L.length:=by
  rw [← hf];split
  ·rename_i h9;have:=zP h9;omega
  ·exact ha
 have hD:Ju L a=Jt L ng f:=by
  unfold Ju;rw [← hng,← hf];by_cases h9:L[a]?=some 94
  ·simp [h9]
  ·simp [h9]
 rw [hD];have HSK:Hid (∀ w,(paB bp s a).ho w->Calls z6 40 #[.pointer (some ⟨bp,0,none⟩),.int .u8 (94:Nat)] w fun e w'=>e=.returned (.bool ng)∧St w [bp] [paB bp s f] w'):=zh fun w h=>by
  by_cases h9:L[a]?=some 94
  ·have e1:ng=true:=(by rw [← hng];simp [h9]);have e2:f=a+1:=(by rw [← hf,if_pos h9]);subst e1 e2;exact ZP hs hl h9 w h
  ·have e1:ng=false:=(by rw [← hng];simp [h9]);have e2:f=a:=(by rw [← hf,if_neg h9]);subst e1 e2;refine zm (vy hs hl ha h9 w h) ?_;rintro e w' ⟨he,hb⟩;refine ⟨he,?_⟩;have:=(St.one h).grew hb.below;rwa [qi] at this
 obtain ⟨G,hG⟩:∃ z,clsE (L.drop f) f=z:=⟨_,rfl⟩
 obtain ⟨D,hD⟩:∃ z,Jt L ng f=z:=⟨_,rfl⟩
 rw [hD];unfold Jt at hD;rw [hG] at hD;obtain ⟨nl,hnl⟩:∃ z,L.length=z:=⟨_,rfl⟩
 have hsz:=hs.size;rw [hnl] at hsz hl ha hfl;have HL:=zh (za hs (za hnl hD));have HG:=zh hG;clear h hs hnl hD hG hng hf;go_enter Tryd.func76,Tryd.ntmps76;go_wp2_with (first|refine sL ?_|(refine sS ?_;clear H;intros;rename_i H));refine zm (HSK.out _ (H.get pk)) ?_;rintro e wc ⟨rfl,hb⟩;replace H:=H.at1 (bp:=bp) pk hb;simp only [z7,z8] at H;clear hb HSK;go_wp2_with (first|refine sL ?_|(refine sS ?_;clear H;intros;rename_i H));rename_i b2 _ _ _;go_loopg [] (nl-f) (fun mm wr=>CqRel w bp f nl b2 s L G mm wr);case atStart=>exact ⟨f,rfl,zp _,hfl,HG.out,H⟩
 case round =>
  clear H HG;obtain ⟨b,rfl,hfb,hbn,hG,H⟩:=hrel;have HLN:=zh (za HL.out.1 (za HL.out.2.1 hl));cases hc:L[b]? with
  |none =>
   have hbe:b=nl:=by
    have h1:=yh.1 hc;rw [HL.out.2.1] at h1;omega
   have hgn:G=none:=by
    rw [← hG,Zl (by rw [HL.out.2.1];omega),clsE]
   have hd:D=none:=(by rw [← HL.out.2.2,hgn]);subst hd;have HN:=zh (fun w h=>vr (bp:=bp) (a:=b) HL.out.1 (by rw [HL.out.2.1];exact hl) (by have:=HL.out.2.1;omega) w h);clear hG hc hgn;go_wp2_with (first|refine sL ?_|(refine sS ?_;clear H;intros;rename_i H));refine zm (HN.out _ (H.get pk)) ?_;rintro e wc ⟨rfl,hb⟩;replace H:=H.at1 (bp:=bp) pk hb;simp only [xS];go_wp2_with (first|refine sL ?_|(refine sS ?_;clear H;intros;rename_i H));refine zJ rfl ?_;exact ⟨rfl,H.nix⟩
  |some c =>
   have hcl:=HL.out.1.lt c (zc hc);have hbl:b<nl:=(by have:=zP hc;rw [HL.out.2.1] at this;exact this);have HN:=zh (fun w h=>Ze (bp:=bp) HL.out.1 (by rw [HL.out.2.1];exact hl) hc w h);obtain ⟨b1,hb1⟩:∃ z,z=b+1:=⟨_,rfl⟩
   rw [← hb1] at HN;have hix:∀ w,(Instr.index 9 (.string s) (.int .i64 ((b1:Int)-1))).run z6 w=.ok (.int .u8 (c:Nat)) w:=by
    have:=HL.out.1.idx b c hc;rwa [show (b:Int)=(b1:Int)-1 by omega] at this
   have hix2:=HL.out.1.idx b c hc;by_cases r1:c=93
   ·have e1:((c:Int) != 93)=false:=(by simp;omega);have hgn:G=some b1:=by
     rw [← hG,jz hc,hb1];cases hc2:L.drop (b+1) with
     |nil=>rw [clsE,if_pos r1]
     |cons d t=>rw [clsE.eq_def];simp only;rw [if_pos r1]
    have hHD:=HL.out.2.2;rw [hgn] at hHD;simp only at hHD;have hcut:b1-1-f=b-f:=(by omega);rw [hcut] at hHD;obtain ⟨T,hT⟩:∃ z,(L.drop f).take (b-f)=z:=⟨_,rfl⟩
    rw [hT] at hHD;have hex:s.extract f b=strB T:=(by rw [HL.out.1.strB,Wf,hT]);have hTl:∀ x∈T,x<256:=fun x hx=>by
     rw [← hT] at hx;exact HL.out.1.lt x (jq (List.mem_of_mem_take hx))
    have hTn:T.length<=1000000000000000:=by
     rw [← hT,yD,vW,HL.out.2.1];omega
    have HPS:=zh (fun w=>parse_c T hTl hTn w);rw [← hex] at HPS;cases hpr:prs T (fun _=>0) with
    |none =>
     rw [hpr] at hHD HPS;have hd:D=none:=hHD.symm;subst hd;have HP2:Hid (∀ w,Calls z6 88 #[.string (s.extract f b)] w fun e w'=>e=.returned (.tuple #[.agg #[.int .u64 0,.int .u64 0,.int .u64 0,.int .u64 0],.iface 56 (.int .i64 4)])∧St w [] [] w'):=zh fun w=>by
      refine zm (HPS.out w) ?_;rintro e w' ⟨he,hb⟩;exact ⟨by rw [he];show Ending.returned (.tuple #[.agg (AV fun _=>0),_])=_;rw [wh];rfl,St.ofBelow hb⟩
     have HB1:=zh hb1;clear hG hc hgn hpr hcut hex hT hTl hTn hb1 hHD;go_wp2_with (first|refine sL ?_|(refine sS ?_;clear H;intros;rename_i H));refine zm (HN.out _ (H.get pk)) ?_;rintro e wc ⟨rfl,hb⟩;replace H:=H.at1 (bp:=bp) pk hb;simp only [z7,z8] at H;clear hb;go_wp2_with (first|refine sL ?_|(refine sS ?_;clear H;intros;rename_i H));refine wl 17 [⟨[],fun v _=>v=.pointer (some ⟨bp,0,none⟩)⟩,⟨[0],fun v _=>v=.pointer (some ⟨bp,0,none⟩)⟩,⟨[1],fun v _=>v=.pointer (some ⟨bp,0,none⟩)⟩,⟨[2],fun v _=>v=.string s⟩,⟨[],fun v _=>v=.int .i64 f⟩,⟨[],fun v _=>v=.pointer (some ⟨bp,0,none⟩)⟩,⟨[5],fun v _=>v=.pointer (some ⟨bp,0,none⟩)⟩,⟨[6],fun v _=>v=.pointer (some ⟨bp,1,none⟩)⟩,⟨[7],fun v _=>v=.int .i64 b1⟩,⟨[8],fun v _=>v=.int .i64 b⟩,⟨[3,4,9],fun v _=>v=.string (s.extract f b)⟩,⟨[10],fun v _=>v=.tuple #[.agg #[.int .u64 0,.int .u64 0,.int .u64 0,.int .u64 0],.iface 56 (.int .i64 4)]⟩,⟨[11],fun v _=>v=.tuple #[.agg #[.int .u64 0,.int .u64 0,.int .u64 0,.int .u64 0],.iface 56 (.int .i64 4)]⟩,⟨[12],fun v _=>v=.agg #[.int .u64 0,.int .u64 0,.int .u64 0,.int .u64 0]⟩,⟨[12],fun v _=>v=.iface 56 (.int .i64 4)⟩,⟨[],fun _ _=>True⟩,⟨[13],fun _ _=>True⟩] [15,16] [[0,1],[0,1],[0,1],[0,1],[0,1],[0,1],[0,1],[0,1],[0,1],[0,1],[0,1],[0,1],[0,1],[0,1],[0,1,2],[0],[1]] [fun _ wx=>St w [bp] [paB bp s b1,blk b2 (.cells #[.int .u64 0,.int .u64 0,.int .u64 0,.int .u64 0] 34)] wx,fun vals wx=>∃ g:Nat,vals 15=.pointer (some ⟨g,0,none⟩)∧St w [bp] [blk g (.cells #[.int .u64 0,.int .u64 0,.int .u64 0,.int .u64 0] 34),paB bp s b1,blk b2 (.cells #[.int .u64 0,.int .u64 0,.int .u64 0,.int .u64 0] 34)] wx,fun vals wx=>∃ g:Nat,vals 15=.pointer (some ⟨g,0,none⟩)∧St w [bp] [blk g (.cells #[.int .u64 0,.int .u64 0,.int .u64 0,.int .u64 0] 34),paB bp s b1,blk b2 (.cells #[.int .u64 0,.int .u64 0,.int .u64 0,.int .u64 0] 34)] wx]
      [[],[(0,30)],[(1,31)],[(2,32)],[],[],[(5,35)],[(6,36)],[(7,37)],[(8,38)],[(3,33),(4,34),(9,39)],[(10,40)],[(11,41)],[(12,29)],[(12,29)],[],[(13,42),(15,5)]] [(0,30),(1,31),(2,32),(3,33),(4,34),(5,35),(6,36),(7,37),(8,38),(9,39),(10,40),(11,41),(12,29),(13,42),(14,43),(15,5)] (by kernel_rfl) (by kernel_rfl) H.drew ⟨⟨qo,qo,trivial⟩,⟨qo,qo,trivial⟩,⟨qo,qo,trivial⟩,⟨ql,ql,trivial⟩,⟨qo,qo,trivial⟩,⟨qo,qo,trivial⟩,⟨qo,qo,trivial⟩,⟨qo,qo,trivial⟩,⟨ql,ql,trivial⟩,⟨?_,?_,trivial⟩,⟨?_,?_,trivial⟩,⟨?_,?_,trivial⟩,⟨qo,qo,trivial⟩,⟨qo,qo,trivial⟩,⟨qo,qo,qo,trivial⟩,⟨?_,trivial⟩,⟨?_,trivial⟩,trivial⟩ ?_
     ·intro vals wx hd HC;simp only [GF] at hd;have H:=HC;simp only [CA] at H;simp only [PS,hd];have e9:(b1:Int)-1=(b:Int):=(by have:=HB1.out;omega);go_simp;first|exact ⟨rfl,HC⟩|exact ⟨IntWalk.i64_in _ (by omega),HC⟩
     ·intro vals wx hd HC;simp only [GF] at hd;have H:=HC;simp only [CA] at H;obtain ⟨g,hv,H⟩:=H;simp only [PS,hd];have e9:(b1:Int)-1=(b:Int):=(by have:=HB1.out;omega);go_simp;first|exact ⟨rfl,HC⟩|exact ⟨IntWalk.i64_in _ (by omega),HC⟩
     ·intro vals wx hd HC;simp only [GF] at hd;have H:=HC;simp only [CA] at H;simp only [PS,hd];go_simp;first|exact HC|exact ⟨rfl,HC⟩|exact ⟨g,hv,H⟩|exact H
     ·intro vals wx hd HC;simp only [GF] at hd;have H:=HC;simp only [CA] at H;obtain ⟨g,hv,H⟩:=H;simp only [PS,hd];go_simp;first|exact HC|exact ⟨rfl,HC⟩|exact ⟨g,hv,H⟩|exact H
     ·intro vals wx hd HC;simp only [GF] at hd;have H:=HC;simp only [CA] at H;simp only [PS,hd];go_simp;with_reducible refine zm (HP2.out _) ?_
      rintro e wc ⟨rfl,hb⟩;exact ⟨_,rfl,rfl,H.grew hb.below⟩
     ·intro vals wx hd HC;simp only [GF] at hd;have H:=HC;simp only [CA] at H;obtain ⟨g,hv,H⟩:=H;simp only [PS,hd];go_simp;with_reducible refine zm (HP2.out _) ?_
      rintro e wc ⟨rfl,hb⟩;exact ⟨_,rfl,rfl,g,hv,H.grew hb.below⟩
     ·intro vals wx hd HC;clear hd;have H:=HC;simp only [CA] at H;simp only [PS];refine StStep.allocT H rfl rfl rfl rfl ?_;intro g wz H;exact ⟨trivial,g,rfl,H⟩
     ·intro vals wx hd HC;simp only [GF] at hd;have H:=HC;simp only [CA] at H;obtain ⟨g,hv,H⟩:=H;simp only [PS,hd,hv];refine StStep.storeT rfl rfl rfl rfl rfl rfl H rfl ?_;intro wz H;exact ⟨trivial,g,hv,H⟩
     intro vals wx hd HC;simp only [CA] at HC;obtain ⟨g,hv,H⟩:=HC;simp only [GF] at hd;simp only [PS,hd];clear hd;simp only [hv];go_wp2_with (first|refine sL ?_|(refine sS ?_;clear H;intros;rename_i H));refine zJ rfl ?_;exact ⟨rfl,H.nix⟩
    |some S =>
     rw [hpr] at hHD HPS;simp only at hHD;have hSW:W64 S:=XY T.length T _ (zp _) vg S hpr;subst hHD;obtain ⟨o0,ho0⟩:∃ z,S 0=z:=⟨_,rfl⟩
     obtain ⟨o1,ho1⟩:∃ z,S 1=z:=⟨_,rfl⟩
     obtain ⟨o2,ho2⟩:∃ z,S 2=z:=⟨_,rfl⟩
     obtain ⟨o3,ho3⟩:∃ z,S 3=z:=⟨_,rfl⟩
     have hAV:AV S=#[.int .u64 (o0:Nat),.int .u64 (o1:Nat),.int .u64 (o2:Nat),.int .u64 (o3:Nat)]:=(by rw [wh,ho0,ho1,ho2,ho3]);have HP2:Hid (∀ w,Calls z6 88 #[.string (s.extract f b)] w fun e w'=>e=.returned (.tuple #[.agg #[.int .u64 (o0:Nat),.int .u64 (o1:Nat),.int .u64 (o2:Nat),.int .u64 (o3:Nat)],.nilIface])∧St w [] [] w'):=zh fun w=>by
      refine zm (HPS.out w) ?_;rintro e w' ⟨he,hb⟩;exact ⟨by rw [he,← hAV];rfl,St.ofBelow hb⟩
     have HNT:Hid (∀ w,Calls z6 87 #[.agg #[.int .u64 (o0:Nat),.int .u64 (o1:Nat),.int .u64 (o2:Nat),.int .u64 (o3:Nat)]] w fun e w'=>e=.returned (.agg #[.int .u64 (ZH S 0:Nat),.int .u64 (ZH S 1:Nat),.int .u64 (ZH S 2:Nat),.int .u64 (ZH S 3:Nat)])∧Below w.heap.size w w'):=zh fun w=>by
      have:=not_c S hSW w;rw [hAV,wh (ZH S)] at this;exact this
     have HO:=zh (za ho0 (za ho1 (za ho2 ho3)));clear ho0 ho1 ho2 ho3 hAV hSW;have HB1:=zh hb1;clear hG hc hgn hpr hcut hex hT hTl hTn hb1;go_wp2_with (first|refine sL ?_|(refine sS ?_;clear H;intros;rename_i H));refine zm (HN.out _ (H.get pk)) ?_;rintro e wc ⟨rfl,hb⟩;replace H:=H.at1 (bp:=bp) pk hb;simp only [z7,z8] at H;clear hb;go_wp2_with (first|refine sL ?_|(refine sS ?_;clear H;intros;rename_i H));refine wl 17 [⟨[],fun v _=>v=.pointer (some ⟨bp,0,none⟩)⟩,⟨[0],fun v _=>v=.pointer (some ⟨bp,0,none⟩)⟩,⟨[1],fun v _=>v=.pointer (some ⟨bp,0,none⟩)⟩,⟨[2],fun v _=>v=.string s⟩,⟨[],fun v _=>v=.int .i64 f⟩,⟨[],fun v _=>v=.pointer (some ⟨bp,0,none⟩)⟩,⟨[5],fun v _=>v=.pointer (some ⟨bp,0,none⟩)⟩,⟨[6],fun v _=>v=.pointer (some ⟨bp,1,none⟩)⟩,⟨[7],fun v _=>v=.int .i64 b1⟩,⟨[8],fun v _=>v=.int .i64 b⟩,⟨[3,4,9],fun v _=>v=.string (s.extract f b)⟩,⟨[10],fun v _=>v=.tuple #[.agg #[.int .u64 (o0:Nat),.int .u64 (o1:Nat),.int .u64 (o2:Nat),.int .u64 (o3:Nat)],.nilIface]⟩,⟨[11],fun v _=>v=.tuple #[.agg #[.int .u64 (o0:Nat),.int .u64 (o1:Nat),.int .u64 (o2:Nat),.int .u64 (o3:Nat)],.nilIface]⟩,⟨[12],fun v _=>v=.agg #[.int .u64 (o0:Nat),.int .u64 (o1:Nat),.int .u64 (o2:Nat),.int .u64 (o3:Nat)]⟩,⟨[12],fun v _=>v=.nilIface⟩,⟨[],fun _ _=>True⟩,⟨[13],fun _ _=>True⟩] [15,16] [[0,1],[0,1],[0,1],[0,1],[0,1],[0,1],[0,1],[0,1],[0,1],[0,1],[0,1],[0,1],[0,1],[0,1],[0,1,2],[0],[1]] [fun _ wx=>St w [bp] [paB bp s b1,blk b2 (.cells #[.int .u64 0,.int .u64 0,.int .u64 0,.int .u64 0] 34)] wx,fun vals wx=>∃ g:Nat,vals 15=.pointer (some ⟨g,0,none⟩)∧St w [bp] [blk g (.cells #[.int .u64 0,.int .u64 0,.int .u64 0,.int .u64 0] 34),paB bp s b1,blk b2 (.cells #[.int .u64 0,.int .u64 0,.int .u64 0,.int .u64 0] 34)] wx,fun vals wx=>∃ g:Nat,vals 15=.pointer (some ⟨g,0,none⟩)∧St w [bp] [blk g (.cells #[.int .u64 (o0:Nat),.int .u64 (o1:Nat),.int .u64 (o2:Nat),.int .u64 (o3:Nat)] 34),paB bp s b1,blk b2 (.cells #[.int .u64 0,.int .u64 0,.int .u64 0,.int .u64 0] 34)] wx]
      [[],[(0,30)],[(1,31)],[(2,32)],[],[],[(5,35)],[(6,36)],[(7,37)],[(8,38)],[(3,33),(4,34),(9,39)],[(10,40)],[(11,41)],[(12,29)],[(12,29)],[],[(13,42),(15,5)]] [(0,30),(1,31),(2,32),(3,33),(4,34),(5,35),(6,36),(7,37),(8,38),(9,39),(10,40),(11,41),(12,29),(13,42),(14,43),(15,5)] (by kernel_rfl) (by kernel_rfl) H.drew ⟨⟨qo,qo,trivial⟩,⟨qo,qo,trivial⟩,⟨qo,qo,trivial⟩,⟨ql,ql,trivial⟩,⟨qo,qo,trivial⟩,⟨qo,qo,trivial⟩,⟨qo,qo,trivial⟩,⟨qo,qo,trivial⟩,⟨ql,ql,trivial⟩,⟨?_,?_,trivial⟩,⟨?_,?_,trivial⟩,⟨?_,?_,trivial⟩,⟨qo,qo,trivial⟩,⟨qo,qo,trivial⟩,⟨qo,qo,qo,trivial⟩,⟨?_,trivial⟩,⟨?_,trivial⟩,trivial⟩ ?_
     ·intro vals wx hd HC;simp only [GF] at hd;have H:=HC;simp only [CA] at H;simp only [PS,hd];have e9:(b1:Int)-1=(b:Int):=(by have:=HB1.out;omega);go_simp;first|exact ⟨rfl,HC⟩|exact ⟨IntWalk.i64_in _ (by omega),HC⟩
     ·intro vals wx hd HC;simp only [GF] at hd;have H:=HC;simp only [CA] at H;obtain ⟨g,hv,H⟩:=H;simp only [PS,hd];have e9:(b1:Int)-1=(b:Int):=(by have:=HB1.out;omega);go_simp;first|exact ⟨rfl,HC⟩|exact ⟨IntWalk.i64_in _ (by omega),HC⟩
     ·intro vals wx hd HC;simp only [GF] at hd;have H:=HC;simp only [CA] at H;simp only [PS,hd];go_simp;first|exact HC|exact ⟨rfl,HC⟩|exact ⟨g,hv,H⟩|exact H
     ·intro vals wx hd HC;simp only [GF] at hd;have H:=HC;simp only [CA] at H;obtain ⟨g,hv,H⟩:=H;simp only [PS,hd];go_simp;first|exact HC|exact ⟨rfl,HC⟩|exact ⟨g,hv,H⟩|exact H
     ·intro vals wx hd HC;simp only [GF] at hd;have H:=HC;simp only [CA] at H;simp only [PS,hd];go_simp;with_reducible refine zm (HP2.out _) ?_
      rintro e wc ⟨rfl,hb⟩;exact ⟨_,rfl,rfl,H.grew hb.below⟩
     ·intro vals wx hd HC;simp only [GF] at hd;have H:=HC;simp only [CA] at H;obtain ⟨g,hv,H⟩:=H;simp only [PS,hd];go_simp;with_reducible refine zm (HP2.out _) ?_
      rintro e wc ⟨rfl,hb⟩;exact ⟨_,rfl,rfl,g,hv,H.grew hb.below⟩
     ·intro vals wx hd HC;clear hd;have H:=HC;simp only [CA] at H;simp only [PS];refine StStep.allocT H rfl rfl rfl rfl ?_;intro g wz H;exact ⟨trivial,g,rfl,H⟩
     ·intro vals wx hd HC;simp only [GF] at hd;have H:=HC;simp only [CA] at H;obtain ⟨g,hv,H⟩:=H;simp only [PS,hd,hv];refine StStep.storeT rfl rfl rfl rfl rfl rfl H rfl ?_;intro wz H;exact ⟨trivial,g,hv,H⟩
     intro vals wx hd HC;simp only [CA] at HC;obtain ⟨g,hv,H⟩:=HC;simp only [GF] at hd;simp only [PS,hd];clear hd;simp only [hv];cases ng with
     |true =>
      go_wp2_with (first|refine sL ?_|(refine sS ?_;clear H;intros;rename_i H)|(go_at_call 87;refine (HNT.out _).mono ?_;rintro e wc ⟨rfl,hb⟩;replace H:=H.grew hb;clear hb));refine bodyPost_ret (qy rfl H rfl pk rfl) rfl ?_;exact ⟨rfl,H.picks (.cons pk .nil)⟩
     |false =>
      go_wp2_with (first|refine sL ?_|(refine sS ?_;clear H;intros;rename_i H));refine bodyPost_ret (qy rfl H rfl pk rfl) rfl ?_;have ho:=HO.out;exact ⟨by show _=Ending.returned (.agg #[.int .u64 ((S 0:Nat):Int),.int .u64 ((S 1:Nat):Int),.int .u64 ((S 2:Nat):Int),.int .u64 ((S 3:Nat):Int)]);rw [ho.1,ho.2.1,ho.2.2.1,ho.2.2.2],H.picks (.cons pk .nil)⟩
   ·have e1:((c:Int) != 93)=true:=(by simp;omega);by_cases r2:c=92
    ·have e2:((c:Int)==92)=true:=(by simp;omega);cases hc2:L[b1]? with
     |none =>
      have hbe:b1=nl:=by
       have h1:=yh.1 hc2;rw [HL.out.2.1] at h1;omega
      have hgn:G=none:=by
       rw [← hG,jz hc,Zl (by rw [HL.out.2.1];omega),clsE,if_neg r1]
      have hd:D=none:=(by rw [← HL.out.2.2,hgn]);subst hd;have HM:=zh (fun w h=>vr (bp:=bp) (a:=b1) HL.out.1 (by rw [HL.out.2.1];exact hl) (by have:=HL.out.2.1;omega) w h);clear hG hc hgn hc2;go_wp2_with (first|refine sL ?_|(refine sS ?_;clear H;intros;rename_i H));refine zm (HN.out _ (H.get pk)) ?_;rintro e wc ⟨rfl,hb⟩;replace H:=H.at1 (bp:=bp) pk hb;simp only [z7,z8] at H;clear hb;go_wp2_with (first|refine sL ?_|(refine sS ?_;clear H;intros;rename_i H));refine zr H 11 [] [] (by kernel_rfl) (by kernel_rfl) ?_;apply Exists.intro;refine ⟨fun w1 hw1 HX=>?_,fun bs wr Hr=>?_⟩
      ·refine sG ?_;repeat (first|go_big_quiet_skip|refine sQ ?_|fail|go_big_quiet_step (fail))
       exact wpQuiet_nil rfl
      clear H;have H:=Hr;clear Hr;replace H:=sH H;refine sT ?_;go_wp2_with (first|refine sL ?_|(refine sS ?_;clear H;intros;rename_i H));refine zm (HM.out _ (H.get pk)) ?_;rintro e wc ⟨rfl,hb⟩;replace H:=H.at1 (bp:=bp) pk hb;simp only [xS];go_wp2_with (first|refine sL ?_|(refine sS ?_;clear H;intros;rename_i H));refine zJ rfl ?_;exact ⟨rfl,H.nix⟩
     |some c2 =>
      have hb2l:=zP hc2;rw [HL.out.2.1] at hb2l;have hgn:clsE (L.drop (b1+1)) (b1+1)=G:=by
       rw [← hG,jz hc,← hb1,jz hc2,clsE,if_neg r1,if_pos r2];rw [show b+2=b1+1 by omega]
      have HGN:=zh hgn;have HM:=zh (fun w h=>Ze (bp:=bp) HL.out.1 (by rw [HL.out.2.1];exact hl) hc2 w h);clear hG hc hgn hc2;go_wp2_with (first|refine sL ?_|(refine sS ?_;clear H;intros;rename_i H));refine zm (HN.out _ (H.get pk)) ?_;rintro e wc ⟨rfl,hb⟩;replace H:=H.at1 (bp:=bp) pk hb;simp only [z7,z8] at H;clear hb;go_wp2_with (first|refine sL ?_|(refine sS ?_;clear H;intros;rename_i H));refine zr H 11 [] [] (by kernel_rfl) (by kernel_rfl) ?_;apply Exists.intro;refine ⟨fun w1 hw1 HX=>?_,fun bs wr Hr=>?_⟩
      ·refine sG ?_;repeat (first|go_big_quiet_skip|refine sQ ?_|fail|go_big_quiet_step (fail))
       exact wpQuiet_nil rfl
      clear H;have H:=Hr;clear Hr;replace H:=sH H;refine sT ?_;go_wp2_with (first|refine sL ?_|(refine sS ?_;clear H;intros;rename_i H));refine zm (HM.out _ (H.get pk)) ?_;rintro e wc ⟨rfl,hb⟩;replace H:=H.at1 (bp:=bp) pk hb;simp only [z7,z8] at H;clear hb;go_wp2_with (first|refine sL ?_|(refine sS ?_;clear H;intros;rename_i H));go_roundg (nl-(b1+1));case measure=>omega
      case rel=>exact ⟨b1+1,rfl,by omega,by omega,HGN.out,H.picks (.cons pk (.cons pk .nil))⟩
    ·have e2:((c:Int)==92)=false:=(by simp;omega);have hgn:clsE (L.drop b1) b1=G:=by
      rw [← hG,jz hc,← hb1];cases hc2:L.drop b1 with
      |nil=>rw [clsE,clsE,if_neg r1]
      |cons d t=>rw [clsE.eq_def (c::d::t)];simp only;rw [if_neg r1,if_neg r2,← hb1]
     have HGN:=zh hgn;clear hG hc hgn;go_wp2_with (first|refine sL ?_|(refine sS ?_;clear H;intros;rename_i H));refine zm (HN.out _ (H.get pk)) ?_;rintro e wc ⟨rfl,hb⟩;replace H:=H.at1 (bp:=bp) pk hb;simp only [z7,z8] at H;clear hb;go_wp2_with (first|refine sL ?_|(refine sS ?_;clear H;intros;rename_i H));refine zr H 11 [] [] (by kernel_rfl) (by kernel_rfl) ?_;apply Exists.intro;refine ⟨fun w1 hw1 HX=>?_,fun bs wr Hr=>?_⟩
     ·refine sG ?_;repeat (first|go_big_quiet_skip|refine sQ ?_|fail|go_big_quiet_step (fail))
      exact wpQuiet_nil rfl
     clear H;have H:=Hr;clear Hr;replace H:=sH H;refine sT ?_;go_wp2_with (first|refine sL ?_|(refine sS ?_;clear H;intros;rename_i H));go_roundg (nl-b1);case measure=>omega
     case rel=>exact ⟨b1,rfl,by omega,by omega,HGN.out,H.picks (.cons pk (.cons pk .nil))⟩
end
section
open Go.RowKit Go.Maps
attribute [local go_sem] qM
def qp (x:Hd×SlT):List Value:=xE ⟨x.1,slV x.2⟩
theorem yC (x:Hd×SlT):(qp x).length=8:=rfl
theorem Q4 (x:Hd×SlT):∀ u∈qp x,u.oneCell'=true:=by
 intro u hu;simp only [qp,xE,slV,zG,List.not_mem_nil,or_false] at hu;rcases hu with rfl|rfl|rfl|rfl|rfl|rfl|rfl|rfl <;> rfl
def vq (c:Nat):Hd:=⟨2,b4 c 0,b4 c 1,b4 c 2,b4 c 3,0,0⟩
def ltr (c:Nat):Hd×SlT:=(vq c,(none,0,0))
theorem V7 (n:Nat) (h1:2<=n) (h2:n<=262144) (ad:Option Addr) (cp:Nat) (w:World) :
  Calls z6 56 #[.slice ad n cp] w fun e w'=>e=.returned (.agg #[.int .i64 3,.int .u64 0,.int .u64 0,.int .u64 0,.int .u64 0,.int .i64 0,.int .i64 0,.slice ad n cp])∧St w [] [] w':=by
 have H:=St.nil w [];have HK:Ks w [] []:=Ks.nil w _;have e1:((n:Int)==0)=false:=(by simp;omega);have e2:((n:Int)==1)=false:=(by simp;omega);go_enter Tryd.func56,Tryd.ntmps56;go_wp2_with (first|refine sL ?_|(refine sS ?_;clear H;intros;rename_i H));refine bodyPost_ret (qy rfl H rfl pk rfl) rfl ?_;exact ⟨rfl,H.nix⟩
def CtRel (w:World) (bp b2 b4_ a c:Nat) (s:ByteArray) (v3:Value) (xs:List (Hd×SlT)) (mm:Nat) (v7:Value) (wr:World):Prop :=
 mm=0∧St w [bp] [blk b4_ (.cells #[.int .i64 2,.int .u64 (b4 c 0:Nat),.int .u64 (b4 c 1:Nat),.int .u64 (b4 c 2:Nat),.int .u64 (b4 c 3:Nat),.int .i64 0,.int .i64 0,.slice none 0 0] 37),blk bp (.cells #[.string s,.int .i64 (a:Nat)] 58),blk b2 (.cells #[.int .i64 0,.int .u64 0,.int .u64 0,.int .u64 0,.int .u64 0,.int .i64 0,.int .i64 0,.slice none 0 0] 37),zi qp 37 8 v3 xs] wr
def TmRel (w:World) (bp b2 n:Nat) (s:ByteArray) (L:List Nat) (mm:Nat) (v3:Value) (wr:World):Prop :=
 ∃ a:Nat,mm=n-a∧a<=n∧St w [bp] [blk bp (.cells #[.string s,.int .i64 (a:Nat)] 58),blk b2 (.cells #[.int .i64 0,.int .u64 0,.int .u64 0,.int .u64 0,.int .u64 0,.int .i64 0,.int .i64 0,.slice none 0 0] 37),zi qp 37 8 v3 ((L.take a).map ltr)] wr
theorem terms_c {bp:Nat} {s:ByteArray} {L:List Nat} (hs:StrL s L) (h2:2<=L.length) (hl:L.length<=262144) (hp:∀ c∈L,Y6 c) (w:World) (h:(blk bp (.cells #[.string s,.int .i64 ((0:Nat):Int)] 58)).ho w) :
  Calls z6 39 #[.pointer (some ⟨bp,0,none⟩)] w fun e w'=>∃ v,e=.returned (.agg #[.int .i64 3,.int .u64 0,.int .u64 0,.int .u64 0,.int .u64 0,.int .i64 0,.int .i64 0,v])∧St w [bp] [blk bp (.cells #[.string s,.int .i64 (L.length:Nat)] 58),zi qp 37 8 v (L.map ltr)] w':=by
 have H:=St.one h;rw [qi] at H;have HK:Ks w [bp] []:=Ks.nil w _;obtain ⟨n,hn⟩:∃ z,L.length=z:=⟨_,rfl⟩
 have hsz:=hs.size;have HL:=zh (za hs (za hp (za hl hn)));rw [hn] at hsz hl h2 ⊢;have HSQ:=zh (fun ad cp w=>V7 n h2 hl ad cp w);clear hs hp h hn;go_enter Tryd.func39,Tryd.ntmps39;go_wp2_with (first|refine sL ?_|(refine sS ?_;clear H;intros;rename_i H));rename_i b2 _ _ _;replace H:=H.empty (A:=zi qp 37 8 (.slice none 0 0) []) (yS _) (by rw [q9];rfl);go_loopg [3] n (fun mm v3 wr=>TmRel w bp b2 n s L mm v3 wr);case atStart=>exact ⟨0,rfl,zH _,H.picks (.cons pk (.cons pk (.cons pk .nil)))⟩
 case round =>
  clear H;obtain ⟨a,rfl,ha,H⟩:=hrel;obtain ⟨ad3,c3,rfl,_⟩:=zW (H.get (A:=zi qp 37 8 _ ((L.take a).map ltr)) pk);have hta:((L.take a).map ltr).length=a:=(by rw [zE,yD,HL.out.2.2.2];omega);rw [hta] at H ⊢;have HTA:=zh hta;clear hta;by_cases hlt:a<n
  ·have e1:decide ((a:Int)<(n:Int))=true:=(by simp;omega);have e1n:decide (a<n)=true:=(by simp;omega);obtain ⟨c,hc⟩:∃ c,L[a]?=some c:=⟨_,zg (by rw [HL.out.2.2.2];exact hlt)⟩
   have hpc:=HL.out.2.1 c (zc hc);have hix:=HL.out.1.idx a c hc;obtain ⟨_,_,_,_,_,_,p124,p41,_⟩:=id hpc;have q1:((c:Int) != 124)=true:=(by simp;omega);have q2:((c:Int) != 41)=true:=(by simp;omega);have HTM:=zh (fun w h=>term_c (bp:=bp) HL.out.1 HL.out.2.2.1 hc hpc w h);have HCN:Hid (∀ w,(blk bp (.cells #[.string s,.int .i64 ((a+1:Nat):Int)] 58)).ho w->Calls z6 55 #[.pointer (some ⟨bp,0,none⟩)] w fun e w'=>e=.returned (.tuple #[.int .i64 0,.int .i64 0,.bool false])∧St w [] [] w'):=zh fun w h=>Jw HL.out.1 HL.out.2.2.1 (by rw [HL.out.2.2.2];omega) (fun b hb hh=>by
    obtain ⟨_,_,_,_,_,_,_,_,r1,r2,r3,r4⟩:=HL.out.2.1 b (zc hh);omega) w h
   have hsn:(L.take (a+1)).map ltr=(L.take a).map ltr++[ltr c]:=(by rw [yK hc,qQ];rfl);have HSN:=zh hsn;clear hc hpc p124 p41 hsn;go_wp2_with (first|refine sL ?_|(refine sS ?_;clear H;intros;rename_i H));refine zr H 34 [] [] (by kernel_rfl) (by kernel_rfl) ?_;apply Exists.intro;refine ⟨fun w1 hw1 HX=>?_,fun bs wr Hr=>?_⟩
   ·refine sG ?_;repeat (first|go_big_quiet_skip|refine sQ ?_|fail|go_big_quiet_step (fail))
    exact wpQuiet_nil rfl
   clear H;have H:=Hr;clear Hr;replace H:=sH H;refine sT ?_;go_wp2_with (first|refine sL ?_|(refine sS ?_;clear H;intros;rename_i H));refine zm (HTM.out _ (H.get pk)) ?_;rintro e wc ⟨rfl,hb⟩;rw [← qi bp (.cells #[.string s,.int .i64 (a:Nat)] 58)] at hb;replace H:=(H.pick pk).call hb;simp only [z7,z8] at H;clear hb;go_wp2_with (first|refine sL ?_|(refine sS ?_;clear H;intros;rename_i H));rename_i bt _ _ _ _;replace H:=H.picks (.cons (A:=blk bt (.cells #[.int .i64 2,.int .u64 (b4 c 0:Nat),.int .u64 (b4 c 1:Nat),.int .u64 (b4 c 2:Nat),.int .u64 (b4 c 3:Nat),.int .i64 0,.int .i64 0,.slice none 0 0] 37)) pk (.cons (A:=blk bp (.cells #[.string s,.int .i64 ((a+1:Nat):Int)] 58)) pk (.cons pk (.cons (A:=zi qp 37 8 (.slice ad3 a c3) ((L.take a).map ltr)) pk .nil))));go_loopg [7] 0 (fun mm v7 wr=>CtRel w bp b2 bt (a+1) c s (.slice ad3 a c3) ((L.take a).map ltr) mm v7 wr);case atStart=>exact ⟨rfl,H⟩
   case round =>
    clear H;obtain ⟨rfl,H⟩:=hrel;go_wp2_with (first|refine sL ?_|(refine sS ?_;clear H;intros;rename_i H)|(go_at_call 55;with_reducible refine zm (HCN.out _ (H.get pk)) ?_;rintro e wc ⟨rfl,hb⟩;replace H:=H.grew hb.below;clear hb)|((with_reducible refine ym ?_);refine AtSlice.one H rfl rfl rfl rfl rfl rfl rfl rfl rfl ?_;clear H;intro b99 _ H;simp only [Act.put,puA,puB,puC])|((with_reducible refine xm ?_);refine AtAppend.goN (enc:=qp) H rfl rfl rfl rfl rfl (by decide) (by decide) rfl (xs:=(L.take a).map ltr) pk rfl (H.at pk) [ltr c] rfl (by simp [zX,qp,xE,ltr,vq,slV]) yC Q4 (by have:=HTA.out;simp only [zN,qm];omega) HTA.out ?_;clear H;intro ad9 cp9 _ H;simp only [Act.put,puA,puB,puC]));rw [← HSN.out] at H;go_roundg (n-(a+1));case measure=>omega
    case rel=>exact ⟨a+1,rfl,by omega,H.picks (.cons pk (.cons pk (.cons pk .nil)))⟩
  ·have e1:decide ((a:Int)<(n:Int))=false:=(by simp;omega);have e1n:decide (a<n)=false:=(by simp;omega);obtain rfl:n=a:=by omega
   have htl:L.take n=L:=zM (by rw [HL.out.2.2.2];exact zp _);rw [htl] at H;clear htl;go_wp2_with (first|refine sL ?_|(refine sS ?_;clear H;intros;rename_i H));refine zr H 34 [] [] (by kernel_rfl) (by kernel_rfl) ?_;apply Exists.intro;refine ⟨fun w1 hw1 HX=>?_,fun bs wr Hr=>?_⟩
   ·refine sG ?_;repeat (first|go_big_quiet_skip|refine sQ ?_|fail|go_big_quiet_step (fail))
    exact wpQuiet_nil rfl
   clear H;have H:=Hr;clear Hr;replace H:=sH H;refine sT ?_;go_wp2_with (first|refine sL ?_|(refine sS ?_;clear H;intros;rename_i H)|(go_at_call 56;with_reducible refine zm (HSQ.out _ _ _) ?_;rintro e wc ⟨rfl,hb⟩;replace H:=H.grew hb.below;clear hb));refine bodyPost_ret (qy rfl H rfl pk rfl) rfl ?_;exact ⟨_,rfl,H.picks (.cons pk (.cons pk .nil))⟩
def ExRel (w:World) (bp b2 b9 n:Nat) (s:ByteArray) (adv:Option Addr) (cv:Nat) (L:List Nat) (mm:Nat) (v3:Value) (wr:World):Prop :=
 mm=0∧v3=.slice (some ⟨b9,0,none⟩) 1 1∧St w [bp] [blk b9 (.cells #[.int .i64 3,.int .u64 0,.int .u64 0,.int .u64 0,.int .u64 0,.int .i64 0,.int .i64 0,.slice adv n cv] 37),blk bp (.cells #[.string s,.int .i64 (n:Nat)] 58),zi qp 37 8 (.slice adv n cv) (L.map ltr),blk b2 (.cells #[.int .i64 0,.int .u64 0,.int .u64 0,.int .u64 0,.int .u64 0,.int .i64 0,.int .i64 0,.slice none 0 0] 37)] wr
theorem expr_c {bp:Nat} {s:ByteArray} {L:List Nat} (hs:StrL s L) (h2:2<=L.length) (hl:L.length<=262144) (hp:∀ c∈L,Y6 c) (w:World) (h:(blk bp (.cells #[.string s,.int .i64 ((0:Nat):Int)] 58)).ho w) :
  Calls z6 22 #[.pointer (some ⟨bp,0,none⟩)] w fun e w'=>∃ ad cp,e=.returned (.agg #[.int .i64 3,.int .u64 0,.int .u64 0,.int .u64 0,.int .u64 0,.int .i64 0,.int .i64 0,.slice ad L.length cp])∧St w [bp] [blk bp (.cells #[.string s,.int .i64 (L.length:Nat)] 58),zi qp 37 8 (.slice ad L.length cp) (L.map ltr)] w':=by
 have H:=St.one h;rw [qi] at H;have HK:Ks w [bp] []:=Ks.nil w _;have HTM:=zh (fun w h=>terms_c (bp:=bp) hs h2 hl hp w h);have HSK:Hid (∀ w,(blk bp (.cells #[.string s,.int .i64 (L.length:Nat)] 58)).ho w->Calls z6 40 #[.pointer (some ⟨bp,0,none⟩),.int .u8 (124:Nat)] w fun e w'=>e=.returned (.bool false)∧St w [] [] w'):=zh fun w h=>Ji hs rfl hl w h
 obtain ⟨n,hn⟩:∃ z,L.length=z:=⟨_,rfl⟩
 have HN:=zh hn;rw [hn] at HTM HSK ⊢;clear hs hp h hn h2 hl;go_enter Tryd.func22,Tryd.ntmps22;go_wp2_with (first|refine sL ?_|(refine sS ?_;clear H;intros;rename_i H));refine zm (HTM.out _ (H.get pk)) ?_;rintro e wc ⟨v,rfl,hb⟩;rw [← qi bp (.cells #[.string s,.int .i64 ((0:Nat):Int)] 58)] at hb;replace H:=(H.pick pk).call hb;simp only [z7,z8] at H;clear hb;obtain ⟨adv,cv,rfl,_⟩:=zW (H.get (A:=zi qp 37 8 v (L.map ltr)) pk);rw [zE,HN.out] at H ⊢;go_wp2_with (first|refine sL ?_|(refine sS ?_;clear H;intros;rename_i H)|((with_reducible refine ym ?_);refine AtSlice.one H rfl rfl rfl rfl rfl rfl rfl rfl rfl ?_;clear H;intro b99 _ H;simp only [Act.put,puA,puB,puC]));rename_i b2 _ _ _ _ _;go_loopg [3] 0 (fun mm v3 wr=>ExRel w bp b2 b99 n s adv cv L mm v3 wr);case atStart=>exact ⟨rfl,rfl,H⟩
 case round =>
  clear H;obtain ⟨rfl,rfl,H⟩:=hrel;go_wp2_with (first|refine sL ?_|(refine sS ?_;clear H;intros;rename_i H)|(go_at_call 40;with_reducible refine zm (HSK.out _ (H.get pk)) ?_;rintro e wc ⟨rfl,hb⟩;replace H:=H.grew hb.below;clear hb));refine bodyPost_ret (qy rfl H rfl pk rfl) rfl ?_;exact ⟨adv,cv,rfl,H.picks (.cons pk (.cons pk .nil))⟩
end
section
open Go.RowKit Go.Maps
attribute [local go_sem] qM run_panic_i
def YN (S:Nat->Nat):Rx:=.mk ⟨2,S 0,S 1,S 2,S 3,0,0⟩ []
def YR (L:List Nat) (E:Nat->Option (Rx×Nat)) (a:Nat):Option (Rx×Nat):=match L[a]? with
 |none=>none
 |some c=>if c=92 then (match XT L (a+1) with|none=>none|some (b,a2)=>some (YN (ofL [b]),a2))
  else if c=46 then some (YN kG,a+1)
  else if c=91 then (match Ju L (a+1) with|none=>none|some (S,a2)=>some (YN S,a2))
  else if c=40 then (match E (a+1) with|none=>none|some (r,a2)=>if L[a2]?=some 41 then some (r,a2+1) else none)
  else if 0<=Lib.indexByte [92,46,91,93,40,41,123,125,124,42,43,63] c.toUInt8 then none else some (YN (ofL [c]),a+1)
def Qr (L:List Nat):Nat->Nat->Rx->Option (Rx×Nat)
 |0,_,_=>none
 |f+1,a,t=>match XP L a with
  |none=>none
  |some (none,b)=>some (t,b)
  |some (some (lo,hi),b)=>Qr L f b (.mk ⟨5,0,0,0,0,lo,hi⟩ [t])
def Ka:List Rx->Rx
 |[]=>.mk ⟨1,0,0,0,0,0,0⟩ []
 |[r]=>r
 |l=>.mk ⟨3,0,0,0,0,0,0⟩ l
def altR:List Rx->Rx
 |[r]=>r
 |l=>.mk ⟨4,0,0,0,0,0,0⟩ l
def QN (L:List Nat) (E:Nat->Option (Rx×Nat)):Nat->Nat->List Rx->Option (Rx×Nat)
 |0,_,_=>none
 |f+1,a,l=>match L[a]? with
  |none=>some (Ka l,a)
  |some c=>if c=124∨c=41 then some (Ka l,a) else
   match YR L E a with
   |none=>none
   |some (t,b)=>match Qr L (L.length+1) b t with
    |none=>none
    |some (t',b')=>QN L E f b' (l++[t'])
def Ye (L:List Nat) (E:Nat->Option (Rx×Nat)):Nat->Nat->List Rx->Option (Rx×Nat)
 |0,_,_=>none
 |f+1,a,l=>if L[a]?=some 124 then (match QN L E (L.length+1) (a+1) [] with
   |none=>none
   |some (t,b)=>Ye L E f b (l++[t])) else some (altR l,a)
def kl (L:List Nat):Nat->Nat->Option (Rx×Nat)
 |0,_=>none
 |d+1,a=>match QN L (kl L d) (L.length+1) a [] with
  |none=>none
  |some (t,b)=>Ye L (kl L d) (L.length+1) b [t]
theorem escP_le {L:List Nat} {a b a2:Nat} (hL:∀ c∈L,c<256) (h:XT L a=some (b,a2)):b<256∧a<a2∧a2<=L.length:=by
 unfold XT at h;split at h
 ·cases h
 ·rename_i c hc;have hal:=zP hc;have hcl:=hL c (zc hc);split at h
  ·injection h with h;injection h with h1 h2;omega
  ·split at h
   ·injection h with h;injection h with h1 h2;omega
   ·split at h
    ·injection h with h;injection h with h1 h2;omega
    ·split at h
     ·split at h
      ·cases h
      ·rename_i hh q1 hd;split at h
       ·cases h
       ·rename_i ll q2 hd2;obtain ⟨g1,g2,g3⟩:=vE hd;obtain ⟨k1,k2,k3⟩:=vE hd2;injection h with h;injection h with h1 h2;omega
     ·split at h
      ·injection h with h;injection h with h1 h2;omega
      ·cases h
theorem clsQ_le {L:List Nat} {a b:Nat} {S:Nat->Nat} (h:Ju L a=some (S,b)) (ha:a<=L.length):a<b∧b<=L.length∧W64 S:=by
 have key:∀ {ng:Bool} {f:Nat},f<=L.length->Jt L ng f=some (S,b)->f<b∧b<=L.length∧W64 S:=by
  intro ng f hf hg;unfold Jt at hg;split at hg
  ·cases hg
  ·rename_i b' hb;split at hg
   ·cases hg
   ·rename_i s hs;have h1:=XO hb;rw [vW] at h1;have hw:=XY _ _ _ (zp _) vg s hs;injection hg with hg
    injection hg with g1 g2
    subst g1 g2;refine ⟨h1.1,by omega,?_⟩;cases ng
    ·exact hw
    ·exact J2 s
 unfold Ju at h;split at h
 ·rename_i h9;have:=zP h9;have:=key (by omega) h;exact ⟨by omega,this.2.1,this.2.2⟩
 ·exact key ha h
def PoX (w:World) (bp:Nat) (s:ByteArray) (L:List Nat) (a q:Nat) (o:Option (Rx×Nat)) (e:Ending) (w':World):Prop :=
 match o with
 |none=>e=xS∧St w [bp] [] w'
 |some (r,b)=>∃ (k:Int) (s0 s1 s2 s3:Nat) (lo hi:Int) (ad:Option Addr) (n c:Nat) (P:zT),e=.returned (.agg #[.int .i64 k,.int .u64 (s0:Nat),.int .u64 (s1:Nat),.int .u64 (s2:Nat),.int .u64 (s3:Nat),.int .i64 lo,.int .i64 hi,.slice ad n c])∧RxIn P ⟨⟨k,s0,s1,s2,s3,lo,hi⟩,.slice ad n c⟩ r∧16*a+(xq P).length+q<=16*b∧b<=L.length∧St w [bp] [paB bp s b,zw P] w'
def ExC (s:ByteArray) (L:List Nat) (E:Nat->Option (Rx×Nat)) (lo:Nat):Prop:=∀ a,lo<a->a<=L.length->∀ (bp:Nat) (w:World),(paB bp s a).ho w ->
 Calls z6 22 #[.pointer (some ⟨bp,0,none⟩)] w (PoX w bp s L a 0 (E a))
theorem Wd {P:zT} {S:Nat->Nat} (h:W64 S):RxIn P ⟨⟨2,S 0,S 1,S 2,S 3,0,0⟩,.slice none 0 0⟩ (YN S) :=
 .mk ⟨⟨2,S 0,S 1,S 2,S 3,0,0⟩,.slice none 0 0⟩ [] [] ⟨h 0,h 1,h 2,h 3⟩ ⟨none,0,rfl,by simp,fun h=>by simp at h⟩ rfl fun i r p h=>by simp at h
theorem St.nilG {w0 w:World} {M:List Nat} {R:List As} (h:St w0 M R w):St w0 M (zw []::R) w:=h.empty (VL _) (by rw [kz];rfl)
theorem term_x {bp a:Nat} {s:ByteArray} {L:List Nat} {E:Nat->Option (Rx×Nat)} (hs:StrL s L) (hl:L.length<=262144) (ha:a<=L.length) (hE:ExC s L E a) (w:World) (h:(paB bp s a).ho w) :
  Calls z6 54 #[.pointer (some ⟨bp,0,none⟩)] w (PoX w bp s L a 8 (YR L E a)):=by
 have H:=St.one h;rw [qi] at H;have HK:Ks w [bp] []:=Ks.nil w _;obtain ⟨D,hD⟩:∃ z,YR L E a=z:=⟨_,rfl⟩
 rw [hD];unfold YR at hD;cases hc:L[a]? with
 |none =>
  rw [hc] at hD;have hae:a=L.length:=by
   have:=yh.1 hc;omega
  have hd:D=none:=hD.symm;subst hd;have HN:=zh (fun w h=>vr (bp:=bp) hs hl hae w h);clear h hs hc hae hl ha hD hE;go_enter xl,x4;go_wp2_with (first|refine sL ?_|(refine sS ?_;clear H;intros;rename_i H));refine zm (HN.out _ (H.get pk)) ?_;rintro e wc ⟨rfl,hb⟩;replace H:=H.at1 (bp:=bp) pk hb;simp only [xS];refine zJ rfl ?_;exact ⟨rfl,H.nix⟩
 |some c =>
  rw [hc] at hD;simp only at hD;have hcl:=hs.lt c (zc hc);have hal:=zP hc;have HD:=zh hD;have HN:=zh (fun w h=>Ze (bp:=bp) hs hl hc w h);have HX:=zh (za hs (za hl hE));obtain ⟨a1,ha1⟩:∃ z,z=a+1:=⟨_,rfl⟩
  rw [← ha1] at HN HD;have HA:=zh ha1;have hal1:a1<=L.length:=(by omega);have ha2:a<a1:=(by omega);clear h hs hc ha hD hE ha1;by_cases r1:c=92
  ·rw [if_pos r1] at HD;have e1:((c:Int)==92)=true:=(by simp;omega);have HG:=zh (fun w h=>esc_c (bp:=bp) HX.out.1 HX.out.2.1 hal1 w h);cases hg:XT L a1 with
   |none =>
    rw [hg] at HG HD;have hd:D=none:=HD.out.symm;subst hd;clear hg;go_enter xl,x4;go_wp2_with (first|refine sL ?_|(refine sS ?_;clear H;intros;rename_i H));refine zm (HN.out _ (H.get pk)) ?_;rintro e wc ⟨rfl,hb⟩;replace H:=H.at1 (bp:=bp) pk hb;simp only [z7,z8] at H;clear hb;go_wp2_with (first|refine sL ?_|(refine sS ?_;clear H;intros;rename_i H));refine zm (HG.out _ (H.get pk)) ?_;rintro e wc ⟨rfl,hb⟩;replace H:=H.at1 (bp:=bp) pk hb;simp only [xS];refine zJ rfl ?_;exact ⟨rfl,H.nix⟩
   |some q =>
    obtain ⟨b,a2⟩:=q;obtain ⟨hb1,hb2,hb3⟩:=escP_le HX.out.1.lt hg;rw [hg] at HG HD;have hd:D=some (YN (ofL [b]),a2):=HD.out.symm;subst hd;have HW:=zh (wM [b]);have HON:=zh (fun w=>one_c hb1 w);simp only [b4] at HON;clear hg;go_enter xl,x4;go_wp2_with (first|refine sL ?_|(refine sS ?_;clear H;intros;rename_i H));refine zm (HN.out _ (H.get pk)) ?_;rintro e wc ⟨rfl,hb⟩;replace H:=H.at1 (bp:=bp) pk hb;simp only [z7,z8] at H;clear hb;go_wp2_with (first|refine sL ?_|(refine sS ?_;clear H;intros;rename_i H));refine zm (HG.out _ (H.get pk)) ?_;rintro e wc ⟨rfl,hb⟩;replace H:=H.at1 (bp:=bp) pk hb;simp only [z7,z8] at H;clear hb;go_wp2_with (first|refine sL ?_|(refine sS ?_;clear H;intros;rename_i H)|(go_at_call 73;with_reducible refine zm (HON.out _) ?_;rintro e wc ⟨rfl,hb⟩;replace H:=H.grew hb.below;clear hb));refine bodyPost_ret (qy rfl H rfl pk rfl) rfl ?_;exact ⟨2,ofL [b] 0,ofL [b] 1,ofL [b] 2,ofL [b] 3,0,0,none,0,0,[],rfl,Wd HW.out,by simp [xq];omega,by omega,(H.picks (.cons (A:=paB bp s (a2)) pk .nil)).nilG.perm (yd.swap ..)⟩
  have e1:((c:Int)==92)=false:=(by simp;omega);rw [if_neg r1] at HD;by_cases r2:c=46
  ·rw [if_pos r2] at HD;have e2:((c:Int)==46)=true:=(by simp;omega);have hd:D=some (YN kG,a1):=HD.out.symm;subst hd;have HW:Hid (W64 kG):=zh (J2 _);have HON:=zh (fun w=>dot_c w);go_enter xl,x4;go_wp2_with (first|refine sL ?_|(refine sS ?_;clear H;intros;rename_i H));refine zm (HN.out _ (H.get pk)) ?_;rintro e wc ⟨rfl,hb⟩;replace H:=H.at1 (bp:=bp) pk hb;simp only [z7,z8] at H;clear hb;go_wp2_with (first|refine sL ?_|(refine sS ?_;clear H;intros;rename_i H)|(go_at_call 75;with_reducible refine zm (HON.out _) ?_;rintro e wc ⟨rfl,hb⟩;replace H:=H.grew hb.below;clear hb));refine bodyPost_ret (qy rfl H rfl pk rfl) rfl ?_;exact ⟨2,kG 0,kG 1,kG 2,kG 3,0,0,none,0,0,[],rfl,Wd HW.out,by simp [xq];omega,by omega,(H.picks (.cons (A:=paB bp s (a1)) pk .nil)).nilG.perm (yd.swap ..)⟩
  have e2:((c:Int)==46)=false:=(by simp;omega);rw [if_neg r2] at HD;by_cases r3:c=91
  ·rw [if_pos r3] at HD;have e3:((c:Int)==91)=true:=(by simp;omega);have HG:=zh (fun w h=>class_c (bp:=bp) HX.out.1 HX.out.2.1 hal1 w h);cases hg:Ju L a1 with
   |none =>
    rw [hg] at HG HD;have hd:D=none:=HD.out.symm;subst hd;clear hg;go_enter xl,x4;go_wp2_with (first|refine sL ?_|(refine sS ?_;clear H;intros;rename_i H));refine zm (HN.out _ (H.get pk)) ?_;rintro e wc ⟨rfl,hb⟩;replace H:=H.at1 (bp:=bp) pk hb;simp only [z7,z8] at H;clear hb;go_wp2_with (first|refine sL ?_|(refine sS ?_;clear H;intros;rename_i H));refine zm (HG.out _ (H.get pk)) ?_;rintro e wc ⟨rfl,hb⟩;replace H:=H.at1 (bp:=bp) pk hb;simp only [xS];refine zJ rfl ?_;exact ⟨rfl,H.nix⟩
   |some q =>
    obtain ⟨S,a2⟩:=q;obtain ⟨hb2,hb3,hSW⟩:=clsQ_le hg hal1;have HW:=zh hSW;rw [hg] at HG HD;have hd:D=some (YN S,a2):=HD.out.symm;subst hd;clear hg hSW;go_enter xl,x4;go_wp2_with (first|refine sL ?_|(refine sS ?_;clear H;intros;rename_i H));refine zm (HN.out _ (H.get pk)) ?_;rintro e wc ⟨rfl,hb⟩;replace H:=H.at1 (bp:=bp) pk hb;simp only [z7,z8] at H;clear hb;go_wp2_with (first|refine sL ?_|(refine sS ?_;clear H;intros;rename_i H));refine zm (HG.out _ (H.get pk)) ?_;rintro e wc ⟨rfl,hb⟩;replace H:=H.at1 (bp:=bp) pk hb;simp only [z7,z8] at H;clear hb;go_wp2_with (first|refine sL ?_|(refine sS ?_;clear H;intros;rename_i H));refine bodyPost_ret (qy rfl H rfl pk rfl) rfl ?_;exact ⟨2,S 0,S 1,S 2,S 3,0,0,none,0,0,[],rfl,Wd HW.out,by simp [xq];omega,by omega,(H.picks (.cons (A:=paB bp s (a2)) pk .nil)).nilG.perm (yd.swap ..)⟩
  have e3:((c:Int)==91)=false:=(by simp;omega);rw [if_neg r3] at HD;by_cases r4:c=40
  ·rw [if_pos r4] at HD;have e4:((c:Int)==40)=true:=(by simp;omega);have HG:=zh (HX.out.2.2 a1 ha2 hal1 bp);cases hg:E a1 with
   |none =>
    rw [hg] at HG HD;have hd:D=none:=HD.out.symm;subst hd;clear hg;go_enter xl,x4;go_wp2_with (first|refine sL ?_|(refine sS ?_;clear H;intros;rename_i H));refine zm (HN.out _ (H.get pk)) ?_;rintro e wc ⟨rfl,hb⟩;replace H:=H.at1 (bp:=bp) pk hb;simp only [z7,z8] at H;clear hb;go_wp2_with (first|refine sL ?_|(refine sS ?_;clear H;intros;rename_i H));refine zm (HG.out _ (H.get pk)) ?_;rintro e wc ⟨rfl,hb⟩;replace H:=H.at1 (bp:=bp) pk hb;simp only [xS];refine zJ rfl ?_;exact ⟨rfl,H.nix⟩
   |some q =>
    obtain ⟨r,a2⟩:=q;rw [hg] at HG HD;simp only at HD;clear hg;by_cases r41:L[a2]?=some 41
    ·have hd:D=some (r,a2+1):=(by rw [← HD.out,if_pos r41]);subst hd;have hl2:=zP r41;have Y:=zh (fun w h=>ZP (bp:=bp) HX.out.1 HX.out.2.1 r41 w h);clear r41;go_enter xl,x4;go_wp2_with (first|refine sL ?_|(refine sS ?_;clear H;intros;rename_i H));refine zm (HN.out _ (H.get pk)) ?_;rintro e wc ⟨rfl,hb⟩;replace H:=H.at1 (bp:=bp) pk hb;simp only [z7,z8] at H;clear hb;go_wp2_with (first|refine sL ?_|(refine sS ?_;clear H;intros;rename_i H));refine zm (HG.out _ (H.get pk)) ?_;rintro e wc ⟨k,s0,s1,s2,s3,lo,hi,ad,n,cp,P,rfl,hrx,hadr,hb9,hb⟩;replace H:=H.at1 (bp:=bp) pk hb;simp only [z7,z8] at H;have HR:=zh hrx;clear hb hrx;go_wp2_with (first|refine sL ?_|(refine sS ?_;clear H;intros;rename_i H));refine zm (Y.out _ (H.get (A:=paB bp s (a2)) pk)) ?_;rintro e wc ⟨rfl,hb⟩;replace H:=H.at1 (bp:=bp) pk hb;simp only [z7,z8] at H;clear hb;go_wp2_with (first|refine sL ?_|(refine sS ?_;clear H;intros;rename_i H));refine bodyPost_ret (qy rfl H rfl pk rfl) rfl ?_;exact ⟨k,s0,s1,s2,s3,lo,hi,ad,n,cp,P,rfl,HR.out,by omega,by omega,H.picks (.cons pk (.cons pk .nil))⟩
    ·have hd:D=none:=(by rw [← HD.out,if_neg r41]);subst hd;have HS9:=zh r41;clear r41;go_enter xl,x4;go_wp2_with (first|refine sL ?_|(refine sS ?_;clear H;intros;rename_i H));refine zm (HN.out _ (H.get pk)) ?_;rintro e wc ⟨rfl,hb⟩;replace H:=H.at1 (bp:=bp) pk hb;simp only [z7,z8] at H;clear hb;go_wp2_with (first|refine sL ?_|(refine sS ?_;clear H;intros;rename_i H));refine zm (HG.out _ (H.get pk)) ?_;rintro e wc ⟨k,s0,s1,s2,s3,lo,hi,ad,n,cp,P,rfl,hrx,hadr,hb9,hb⟩;replace H:=H.at1 (bp:=bp) pk hb;simp only [z7,z8] at H;have HR:=zh hrx;clear hb hrx;have Y:=zh (fun w h=>vy (bp:=bp) HX.out.1 HX.out.2.1 hb9 HS9.out w h);go_wp2_with (first|refine sL ?_|(refine sS ?_;clear H;intros;rename_i H)|(go_at_call 40;with_reducible refine zm (Y.out _ (H.get (A:=paB bp s a2) pk)) ?_;rintro e wc ⟨rfl,hb⟩;replace H:=H.grew hb.below;clear hb));refine zJ rfl ?_;exact ⟨rfl,H.nix⟩
  have e4:((c:Int)==40)=false:=(by simp;omega);rw [if_neg r4] at HD;obtain ⟨ix,hix⟩:∃ z,Lib.indexByte [92,46,91,93,40,41,123,125,124,42,43,63] c.toUInt8=z:=⟨_,rfl⟩
  rw [hix] at HD;have HIB:Hid (∀ w,Calls z6 77 #[.string ⟨#[92,46,91,93,40,41,123,125,124,42,43,63]⟩,.int .u8 (c:Nat)] w fun e w'=>e=.returned (.int .i64 ix)∧w'=w):=zh fun w=>by
   have:=Tryd.strings_IndexByte ⟨#[92,46,91,93,40,41,123,125,124,42,43,63]⟩ (c:Int) w;rw [Int.toNat_natCast] at this;have e:Lib.indexByte (ByteArray.mk #[92,46,91,93,40,41,123,125,124,42,43,63]).data.toList c.toUInt8=ix:=hix;rw [e] at this;exact this
  clear hix;by_cases r5:0<=ix
  ·rw [if_pos r5] at HD;have e5:decide ((0:Int)<=ix)=true:=(by simp;omega);have hd:D=none:=HD.out.symm;subst hd;go_enter xl,x4;go_wp2_with (first|refine sL ?_|(refine sS ?_;clear H;intros;rename_i H));refine zm (HN.out _ (H.get pk)) ?_;rintro e wc ⟨rfl,hb⟩;replace H:=H.at1 (bp:=bp) pk hb;simp only [z7,z8] at H;clear hb;go_wp2_with (first|refine sL ?_|(refine sS ?_;clear H;intros;rename_i H)|(go_at_call 77;with_reducible refine zm (HIB.out _) ?_;rintro e wc ⟨rfl,rfl⟩));refine zJ rfl ?_;exact ⟨rfl,H.nix⟩
  ·rw [if_neg r5] at HD;have e5:decide ((0:Int)<=ix)=false:=(by simp;omega);have hd:D=some (YN (ofL [c]),a1):=HD.out.symm;subst hd;have HW:=zh (wM [c]);have HON:=zh (fun w=>one_c hcl w);simp only [b4] at HON;go_enter xl,x4;go_wp2_with (first|refine sL ?_|(refine sS ?_;clear H;intros;rename_i H));refine zm (HN.out _ (H.get pk)) ?_;rintro e wc ⟨rfl,hb⟩;replace H:=H.at1 (bp:=bp) pk hb;simp only [z7,z8] at H;clear hb;go_wp2_with (first|refine sL ?_|(refine sS ?_;clear H;intros;rename_i H)|(go_at_call 77;with_reducible refine zm (HIB.out _) ?_;rintro e wc ⟨rfl,rfl⟩)|(go_at_call 73;with_reducible refine zm (HON.out _) ?_;rintro e wc ⟨rfl,hb⟩;replace H:=H.grew hb.below;clear hb));refine bodyPost_ret (qy rfl H rfl pk rfl) rfl ?_;exact ⟨2,ofL [c] 0,ofL [c] 1,ofL [c] 2,ofL [c] 3,0,0,none,0,0,[],rfl,Wd HW.out,by simp [xq];omega,by omega,(H.picks (.cons (A:=paB bp s (a1)) pk .nil)).nilG.perm (yd.swap ..)⟩
end
end Go.Proofs.YtminpdngkjlehaaDoor
