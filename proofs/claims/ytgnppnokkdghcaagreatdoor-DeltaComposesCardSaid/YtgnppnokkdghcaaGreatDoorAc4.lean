/-
  Part 4 of the texts behind the statements of this seat: walks and laws Gg, Fm, Fz, Gh, Gi, Dl, Fn. Conditions: as each states.
-/
import Derived.Test.YtgnppnokkdghcaaGreatDoorAc3
import Derived.ChangeMaps5
import Derived.ChangeOld
import Derived.Deep.Slices
import Derived.LaidMore
import Derived.Laws.Rows
import Derived.Lib.SmallJoins
import Derived.OpenShut
import Derived.ProofKit
import Derived.SevenTiedAt
import Derived.ShutString
import Derived.SizedLaws
import Derived.Stop.Joined
import Derived.Test.YtgnppnokkdghcaaGreatDoorCards
import Derived.Test.YtgnppnokkdghcaaGreatDoorTie
set_option linter.unusedSimpArgs false
set_option linter.unusedVariables false
set_option maxRecDepth 100000
set_option maxHeartbeats 80000000
namespace Go.Proofs.YtgnppnokkdghcaaGreatDoor
section
open Go.RowKit Go.Maps
attribute [local go_sem] InGr strB_size
theorem drop_take_snoc {α:Type} (L:List α) (x:α) (f n:Nat):((L++[x]).drop f).take n=if f<=L.length∧L.length<f+n then (L.drop f).take n++[x] else (L.drop f).take n:=by
 split
 ·rename_i h;rw [List.drop_append_of_le_length h.1,List.take_of_length_le (by simp;omega),List.take_of_length_le (by simp;omega)]
 ·rename_i h;by_cases h1:f<=L.length
  ·rw [List.drop_append_of_le_length h1,List.take_append_of_le_length (by simp;omega)]
  ·rw [List.drop_eq_nil_of_le (by simp;omega),List.drop_eq_nil_of_le (by omega)]
def ltL (qs:List Pz):List Pz:=qs.flatMap fun q=>lts q 0 (szP q)
theorem ltL_len:∀ qs:List Pz,(ltL qs).length=szL qs
 |[]=>rfl
 |q::r=>by
  have:=ltL_len r;unfold ltL szL at this ⊢;simp [lts_len,this]
theorem ltL_take_succ {qs:List Pz} {i:Nat} {q:Pz} (h:qs[i]?=some q):ltL (qs.take (i+1))=ltL (qs.take i)++lts q 0 (szP q):=by
 unfold ltL;rw [List.take_add_one,h];simp
theorem prt_ltL (qs:List Pz) (f n:Nat):prt qs f n=((ltL qs).drop f).take n:=rfl
def PaRel (w:World) (qs:List Pz) (f0 n0 n m:Nat) (v1 v2 v3:Value) (wr:World):Prop :=
 ∃ (i:Nat) (out:List Pz),m=n-i∧i<=n∧v2=.int .i64 (szL (qs.take i):Nat)∧v3=.int .i64 i∧out=((ltL (qs.take i)).drop f0).take n0∧St w [] [rowsA encR 106 4 v1 out] wr
def PaIn (w:World) (qs:List Pz) (q:Pz) (i f0 n0 T sz m:Nat) (v1 v2 v3:Value) (wr:World):Prop :=
 ∃ (k:Nat) (out:List Pz),m=sz-k∧k<=sz∧v2=.int .i64 (T+k:Nat)∧v3=.int .i64 k∧out=((ltL (qs.take i)++lts q 0 k).drop f0).take n0∧St w [] [rowsA encR 106 4 v1 out] wr
theorem part_c {P:PoolT} {qs:List Pz} {v:Value} {s f0 n0:Nat} (hr:RowIn P encR 4 v qs) (hs:s<=1048576) (hall:∀ q∈qs,chkP s q=0) (hn:qs.length<=1024) (hsl:szL qs<=1048576) (hf:f0+n0<=1048576) (w:World) (hp:(poolA P).ho w) :
  Calls Tryz.prog 67 #[v,.int .i64 (f0:Nat),.int .i64 (n0:Nat)] w fun e w'=>∃ v',e=.returned v'∧St w [] [rowsA encR 106 4 v' (prt qs f0 n0)] w':=by
 have H:=St.nil w [];have HK:=Ks.one hp;obtain ⟨n,hnn⟩:∃ n,qs.length=n:=⟨_,rfl⟩
 obtain ⟨ad,c,rfl,hmx9⟩:=hr.shape;have HCL:Hid (∀ (i:Nat) (q:Pz),qs[i]?=some q->∃ g o,ad=some ⟨g,o,none⟩∧(∀ w,(poolA P).ho w->w.cell? ⟨g,o+i*4,none⟩=some (.bool q.c)∧w.cell? ⟨g,o+i*4+1,none⟩=some (.int .i64 q.f)∧w.cell? ⟨g,o+i*4+2,none⟩=some (.int .i64 q.n)∧w.cell? ⟨g,o+i*4+3,none⟩=some (.string (strB q.t)))∧∀ w,(poolA P).ho w->w.rangeAt g (o+i*4) [.bool q.c,.int .i64 q.f,.int .i64 q.n,.string (strB q.t)]):=zh fun i q hq=>by
  obtain ⟨ad',c',e1,_,h3⟩:=id hr;obtain ⟨g,o,rfl,_⟩:=h3 (by have:=gelt hq;omega);injection e1 with e1 _ _
  subst e1;exact ⟨g,o,rfl,row_cells hr hq,fun w h=>hr.rng h encR_len hq⟩
 rw [hnn] at hn ⊢;have HIN:Hid (qs.length=n∧(∀ q∈qs,chkP s q=0)∧s<=1048576∧szL qs<=1048576∧∀ i,szL (qs.take i)<=szL qs):=zh ⟨hnn,hall,hs,hsl,szL_take qs⟩;clear hr hnn hp hmx9 hall hs hsl;go_enter Tryz.func67,Tryz.ntmps67;go_wp2_with (first|refine sL ?_|(refine sS ?_;clear H;intros;rename_i H));replace H:=H.empty (A:=rowsA encR 106 4 (.slice none 0 0) []) (rowsA_nil _) (by rw [rowsA_fp'];rfl);go_loopg [7,8,9] n (fun m v1 v2 v3 wr=>PaRel w qs f0 n0 n m v1 v2 v3 wr);case atStart=>exact ⟨0,[],rfl,Nat.zero_le _,by simp [szL],rfl,by simp [ltL],H⟩
 case round =>
  clear H;obtain ⟨i,out,rfl,hik,rfl,rfl,hout,H⟩:=hrel;have HO:=zh hout;by_cases hlt:i<n
  ·obtain ⟨q,hq⟩:∃ a,qs[i]?=some a:=⟨_,zg (by rw [HIN.out.1];exact hlt)⟩
   obtain ⟨g,o,rfl,hcell,hrng⟩:=HCL.out i q hq;have d5:decide ((i:Int)<(n:Int))=true:=(by simp;omega);have d5n:decide (i<n)=true:=(by simp;omega);have hck:=HIN.out.2.1 q (List.mem_of_getElem? hq);have hps:=chk_pos hck;have HTK:=zh (ltL_take_succ hq);have HTS:=zh (szL_take_succ hq);have HLL:=zh (ltL_len (qs.take i));have hT2:=HIN.out.2.2.2.2 (i+1);have hts:=szL_take_succ hq;obtain ⟨T,hT⟩:∃ k,szL (qs.take i)=k:=⟨_,rfl⟩
   obtain ⟨sz,hsz⟩:∃ k,szP q=k:=⟨_,rfl⟩
   obtain ⟨lt,hlt9⟩:∃ k,q.t.length=k:=⟨_,rfl⟩
   have z1:(strB q.t).size=lt:=(by rw [strB_size];exact hlt9);have hqn:q.n+(lt:Int)=(sz:Int):=by
    rw [← hlt9,← hsz];unfold szP;unfold chkP at hck;split
    ·rename_i h9;rw [if_pos h9] at hck;have:q.t=[]:=by
      by_cases h8:q.t=[]
      ·exact h8
      ·rw [if_pos (.inl h8)] at hck;cases hck
     rw [this];simp;omega
    ·rename_i h9;rw [if_neg h9] at hck;by_cases h8:q.f≠0∨q.n≠0∨q.t=[]
     ·rw [if_pos h8] at hck;cases hck
     ·have:q.n=0:=by omega
      omega
   rw [hT] at hts HTS HLL ⊢;have hb1:T+sz<=1048576:=(by have:=HIN.out.2.2.2.1;omega);have HEQ:Hid (szL (qs.take i)=T∧szP q=sz∧q.t.length=lt):=zh ⟨hT,hsz,hlt9⟩;have hqn0:0<=q.n:=hps.1;have HCK:=zh (za hck hps.2);clear hout hq hck hT hsz hlt9 hts hT2 hps;obtain ⟨qc,qf,qn,qt⟩:=q;simp only at hcell hqn hqn0 z1;obtain ⟨qm,rfl⟩:∃ m:Nat,qn=m:=⟨qn.toNat,by omega⟩
   have hqb:qm<=1048576:=(by omega);have HC0:Hid (∀ w,(poolA P).ho w->w.cell? ⟨g,o+i*4,none⟩=some (.bool qc)):=zh fun w h=>(hcell w h).1
   have HC1:Hid (∀ w,(poolA P).ho w->w.cell? ⟨g,o+i*4+1,none⟩=some (.int .i64 qf)):=zh fun w h=>(hcell w h).2.1
   have HC2:Hid (∀ w,(poolA P).ho w->w.cell? ⟨g,o+i*4+2,none⟩=some (.int .i64 (qm:Nat))):=zh fun w h=>(hcell w h).2.2.1
   have HC3:Hid (∀ w,(poolA P).ho w->w.cell? ⟨g,o+i*4+3,none⟩=some (.string (strB qt))):=zh fun w h=>(hcell w h).2.2.2
   clear hcell hrng hqn0;go_wp2_with (first|refine sL ?_|(refine sS ?_;clear H;intros;rename_i H));refine wp_region_h H 13 [] [] (by kernel_rfl) (by kernel_rfl) ?_;apply Exists.intro;refine ⟨fun w1 hw1 HX=>?_,fun bs wr Hr=>?_⟩
   ·refine sG ?_;repeat (first|go_big_quiet_skip|refine sQ ?_|go_big_quiet_step (fail))
    exact wpQuiet_nil rfl
   clear H;have H:=Hr;clear Hr;replace H:=sH H;refine sT ?_;go_wp2_with (first|refine sL ?_|(refine sS ?_;clear H;intros;rename_i H));go_loopg [7,8,11] sz (fun m v1 v2 v3 wr=>PaIn w qs ⟨qc,qf,(qm:Int),qt⟩ i f0 n0 T sz m v1 v2 v3 wr);case atStart=>exact ⟨0,out,rfl,Nat.zero_le _,rfl,rfl,by rw [HO.out];simp [lts],H⟩
   case round =>
    clear H HO;obtain ⟨k,out,rfl,hik2,rfl,rfl,hout,H⟩:=hrel;have HO:=zh hout;have hol:out.length<=1048576:=(by rw [hout,List.length_take];omega);clear hout;obtain ⟨ad2,c2,rfl,_⟩:=rowsA_shape (H.get (A:=rowsA encR 106 4 _ out) pk);by_cases hlk:k<sz
    ·have d6:decide ((k:Int)<(sz:Int))=true:=(by simp;omega);have d6n:decide (k<sz)=true:=(by simp;omega);obtain ⟨p,hp⟩:∃ p,T+k=p:=⟨_,rfl⟩
     have HNX:Hid (((ltL (qs.take i)++lts ⟨qc,qf,(qm:Int),qt⟩ 0 (k+1)).drop f0).take n0=if f0<=p∧p<f0+n0 then out++[sgP ⟨qc,qf,(qm:Int),qt⟩ k 1] else out):=zh (by
      rw [lts_succ,Nat.zero_add,← List.append_assoc,drop_take_snoc,HO.out,List.length_append,HLL.out,lts_len,hp])
     rw [hp];have hpb:p<=1048576:=(by omega);have hp1:T+(k+1)=p+1:=(by omega);have HP1:=zh hp1;by_cases hin:f0<=p∧p<f0+n0
     ·have d7:decide ((f0:Int)<=(p:Int))=true:=(by simp;omega);have d8:decide ((p:Int)<(f0:Int)+(n0:Int))=true:=(by simp;omega);rw [if_pos hin] at HNX;have hq1:=hin.1;have hq2:=hin.2;cases qc with
      |true =>
       obtain ⟨e3,e4,e5⟩:=HCK.out.2 rfl;try simp only at e3 e4 e5
       obtain ⟨f1,rfl⟩:∃ f:Nat,qf=f:=⟨qf.toNat,by omega⟩
       have hfb:f1<=1048576:=(by have:=HIN.out.2.2.1;omega);clear e3 e4 e5 hp hp1;go_wp2_with (first|refine sL ?_|(refine sS ?_;clear H;intros;rename_i H)|((with_reducible refine isSlice ?_);refine AtSlice.one H rfl rfl rfl rfl rfl rfl rfl rfl rfl ?_;clear H;intro b8 _ H;simp only [Act.put,puA,puB,puC])|((with_reducible refine isAppend ?_);refine AtAppend.go (enc:=encR) H rfl rfl rfl rfl rfl (by decide) (by decide) rfl pk rfl (H.at pk) [(⟨true,(f1:Int)+(k:Int),1,[]⟩:Pz)] rfl (by simp [flatG,encR,strB_nil]) encR_len encR_one (by simp;omega) ?_;clear H;intro ad9 cp9 _ H;simp only [Act.put,puA,puB,puC]));go_roundg (sz-(k+1));case measure=>omega
       case rel =>
        have h2:=HP1.out;exact ⟨k+1,out++[⟨true,(f1:Int)+(k:Int),1,[]⟩],rfl,by omega,by rw [h2];go_num,by go_num,by rw [HNX.out];simp [sgP],H.picks (.cons pk .nil)⟩
      |false =>
       obtain ⟨e3,e4⟩:=chk_text HCK.out.1;have hkl:k+1<=lt:=(by omega);have hlb:lt<=1048576:=(by omega);have z4:(strB qt).extract k (k+1)=strB ((qt.drop k).take 1):=(by rw [strB_extract,show k+1-k=1 by omega]);obtain ⟨pc,hpc⟩:∃ l,(qt.drop k).take 1=l:=⟨_,rfl⟩
       rw [hpc] at z4;have HPC:=zh hpc;clear e3 e4 hp hp1 hpc;go_wp2_with (first|refine sL ?_|(refine sS ?_;clear H;intros;rename_i H)|((with_reducible refine isSlice ?_);refine AtSlice.one H rfl rfl rfl rfl rfl rfl rfl rfl rfl ?_;clear H;intro b8 _ H;simp only [Act.put,puA,puB,puC])|((with_reducible refine isAppend ?_);refine AtAppend.go (enc:=encR) H rfl rfl rfl rfl rfl (by decide) (by decide) rfl pk rfl (H.at pk) [(⟨false,0,0,pc⟩:Pz)] rfl (by simp [flatG,encR,strB_nil]) encR_len encR_one (by simp;omega) ?_;clear H;intro ad9 cp9 _ H;simp only [Act.put,puA,puB,puC]));go_roundg (sz-(k+1));case measure=>omega
       case rel =>
        have h2:=HP1.out;exact ⟨k+1,out++[⟨false,0,0,pc⟩],rfl,by omega,by rw [h2];go_num,by go_num,by rw [HNX.out,← HPC.out];simp [sgP],H.picks (.cons pk .nil)⟩
     ·rw [if_neg hin] at HNX;by_cases h7:f0<=p
      ·have d7:decide ((f0:Int)<=(p:Int))=true:=(by simp;omega);have d8:decide ((p:Int)<(f0:Int)+(n0:Int))=false:=(by simp;omega);clear hp hp1;go_wp2_with (first|refine sL ?_|(refine sS ?_;clear H;intros;rename_i H));go_roundg (sz-(k+1));case measure=>omega
       case rel =>
        have h2:=HP1.out;exact ⟨k+1,out,rfl,by omega,by rw [h2];go_num,by go_num,by rw [HNX.out],H.picks (.cons pk .nil)⟩
      ·have d7:decide ((f0:Int)<=(p:Int))=false:=(by simp;omega);clear hp hp1;go_wp2_with (first|refine sL ?_|(refine sS ?_;clear H;intros;rename_i H));go_roundg (sz-(k+1));case measure=>omega
       case rel =>
        have h2:=HP1.out;exact ⟨k+1,out,rfl,by omega,by rw [h2];go_num,by go_num,by rw [HNX.out],H.picks (.cons pk .nil)⟩
    ·have d6:decide ((k:Int)<(sz:Int))=false:=(by simp;omega);have d6n:decide (k<sz)=false:=(by simp;omega);have hks:sz=k:=(by omega);subst hks;go_wp2_with (first|refine sL ?_|(refine sS ?_;clear H;intros;rename_i H));go_roundg (n-(i+1));case measure=>omega
     case rel =>
      have h1:=HEQ.out.2.1;exact ⟨i+1,out,rfl,by omega,by rw [HTS.out,h1],by go_num,by rw [HO.out,HTK.out,h1],H.picks (.cons pk .nil)⟩
  ·have d5:decide ((i:Int)<(n:Int))=false:=(by simp;omega);have d5n:decide (i<n)=false:=(by simp;omega);have hin:n=i:=(by omega);subst hin;clear hout;go_wp2_with (first|refine sL ?_|(refine sS ?_;clear H;intros;rename_i H));go_ret;refine ⟨_,rfl,?_⟩;have hq9:qs.take n=qs:=List.take_of_length_le (by rw [HIN.out.1];exact Nat.le_refl _);rw [hq9] at HO;rw [prt_ltL,← HO.out];exact H
def RcmRel (w:World) (qs es:List Pz) (k m:Nat) (v1 v2:Value) (wr:World):Prop :=
 ∃ (j:Nat) (out:List Pz),m=k-j∧j<=k∧v2=.int .i64 j∧out=cmpL qs (es.take j)∧St w [] [rowsA encR 106 4 v1 out] wr
attribute [local go_sem] StStep stAt stUpon in
theorem rcompose_c {P P2:PoolT} {qs es:List Pz} {u v2:Value} {s:Nat} (hr:RowIn P encR 4 u qs) (hr2:RowIn P2 encR 4 v2 es) (hs:s<=1048576) (hall:∀ q∈qs,chkP s q=0) (hall2:∀ q∈es,chkP (szL qs) q=0) (hn:qs.length<=1024) (hsl:szL qs<=1048576) (hsl2:szL es<=1024) (w:World) (hp:(poolA P).ho w) (hp2:(poolA P2).ho w) :
  Calls Tryz.prog 30 #[u,v2] w fun e w'=>∃ v',e=.returned v'∧St w [] [rowsA encR 106 4 v' (nrm (cmpL qs es))] w':=by
 have H:=St.nil w [];have HK:Ks w [] [poolA P,poolA P2]:=Ks.two hp hp2;obtain ⟨k,hkk⟩:∃ n,es.length=n:=⟨_,rfl⟩
 obtain ⟨am,cm,rfl,hmx9⟩:=hr2.shape;have HCL:Hid (∀ (i:Nat) (q:Pz),es[i]?=some q->∃ g o,am=some ⟨g,o,none⟩∧(∀ w,(poolA P2).ho w->w.cell? ⟨g,o+i*4,none⟩=some (.bool q.c)∧w.cell? ⟨g,o+i*4+1,none⟩=some (.int .i64 q.f)∧w.cell? ⟨g,o+i*4+2,none⟩=some (.int .i64 q.n)∧w.cell? ⟨g,o+i*4+3,none⟩=some (.string (strB q.t)))∧∀ w,(poolA P2).ho w->w.rangeAt g (o+i*4) [.bool q.c,.int .i64 q.f,.int .i64 q.n,.string (strB q.t)]):=zh fun i q hq=>by
  obtain ⟨ad',c',e1,_,h3⟩:=id hr2;obtain ⟨g,o,rfl,_⟩:=h3 (by have:=gelt hq;omega);injection e1 with e1 _ _
  subst e1;exact ⟨g,o,rfl,row_cells hr2 hq,fun w h=>hr2.rng h encR_len hq⟩
 rw [hkk] at hmx9 ⊢;have hkb:k<=1048576:=by
  have h1:∀ {l:List Pz},(∀ q∈l,chkP (szL qs) q=0)->l.length<=szL l:=by
   intro l hl;induction l with
   |nil=>simp
   |cons x r ih =>
    have:=ih fun y hy=>hl y (by simp [hy])
    have:=chk_one (hl x (by simp));have:szL (x::r)=szP x+szL r:=by simp [szL]
    simp only [List.length_cons];omega
  have:=h1 hall2;omega
 have HPT:Hid (∀ f0 n0:Nat,f0+n0<=1048576->∀ w,(poolA P).ho w->Calls Tryz.prog 67 #[u,.int .i64 (f0:Nat),.int .i64 (n0:Nat)] w fun e w'=>∃ v',e=.returned v'∧St w [] [rowsA encR 106 4 v' (prt qs f0 n0)] w'):=zh fun f0 n0 hf w h=>part_c hr hs hall hn hsl hf w h
 have HNM:Hid (∀ v9 w,(rowsA encR 106 4 v9 (cmpL qs es)).ho w->Calls Tryz.prog 27 #[v9] w fun e w'=>∃ v',e=.returned v'∧St w [] [rowsA encR 106 4 v' (nrm (cmpL qs es))] w'):=zh fun v9 w h=>by
  obtain ⟨P3,r1,r2,r3⟩:=rowsA_pool h encR_len;obtain ⟨l1,l2⟩:=cmpL_len (qs:=qs) hall2;exact rnormal_c r1 hs (cmpL_chk hall hall2) (by omega) (by omega) w r2
 have HIN:Hid (es.length=k∧(∀ q∈qs,chkP s q=0)∧(∀ q∈es,chkP (szL qs) q=0)∧szL es<=1024∧szL qs<=1048576):=zh ⟨hkk,hall,hall2,hsl2,hsl⟩;clear hr hr2 hkk hp hp2 hmx9 hall hall2 hs hsl hsl2 hn;go_enter Tryz.func30,Tryz.ntmps30;go_wp2_with (first|refine sL ?_|(refine sS ?_;clear H;intros;rename_i H));replace H:=H.empty (A:=rowsA encR 106 4 (.slice none 0 0) []) (rowsA_nil _) (by rw [rowsA_fp'];rfl);go_loopg [5,6] k (fun m v1 v2 wr=>RcmRel w qs es k m v1 v2 wr);case atStart=>exact ⟨0,[],rfl,Nat.zero_le _,rfl,by simp [cmpL],H⟩
 case round =>
  clear H;obtain ⟨j,out,rfl,hjk,rfl,hout,H⟩:=hrel;have HO:=zh hout;have hol:out.length<=1024:=by
   obtain ⟨l1,l2⟩:=cmpL_len (qs:=qs) (es:=es.take j) (s:=szL qs) fun e he=>HIN.out.2.2.1 e (List.mem_of_mem_take he)
   have h2:=szL_take es j;have h3:=HIN.out.2.2.2.1;rw [hout];omega
  clear hout;obtain ⟨ad2,c2,rfl,_⟩:=rowsA_shape (H.get (A:=rowsA encR 106 4 _ out) pk);by_cases hlt:j<k
  ·obtain ⟨q,hq⟩:∃ a,es[j]?=some a:=⟨_,zg (by rw [HIN.out.1];exact hlt)⟩
   obtain ⟨g,o,rfl,hcell,hrng⟩:=HCL.out j q hq;have d5:decide ((j:Int)<(k:Int))=true:=(by simp;omega);have d5n:decide (j<k)=true:=(by simp;omega);have HCK:=zh (HIN.out.2.2.1 q (List.mem_of_getElem? hq));have HTK:=zh (cmpL_take_succ (qs:=qs) hq);have HRX:=zh hrng;obtain ⟨qc,qf,qn,qt⟩:=q;simp only at hcell HRX;have HC0:Hid (∀ w,(poolA P2).ho w->w.cell? ⟨g,o+j*4,none⟩=some (.bool qc)):=zh fun w h=>(hcell w h).1
   have HC1:Hid (∀ w,(poolA P2).ho w->w.cell? ⟨g,o+j*4+1,none⟩=some (.int .i64 qf)):=zh fun w h=>(hcell w h).2.1
   have HC2:Hid (∀ w,(poolA P2).ho w->w.cell? ⟨g,o+j*4+2,none⟩=some (.int .i64 qn)):=zh fun w h=>(hcell w h).2.2.1
   clear hcell hrng hq;cases qc with
   |true =>
    obtain ⟨e1,e2⟩:=chk_pos HCK.out;obtain ⟨e3,e4,e5⟩:=e2 rfl;simp only at e1 e3 e4 e5;obtain ⟨f1,rfl⟩:∃ f:Nat,qf=f:=⟨qf.toNat,by omega⟩
    obtain ⟨m1,rfl⟩:∃ f:Nat,qn=f:=⟨qn.toNat,by omega⟩
    have HFM:Hid (f1+m1<=1048576):=zh (by have:=HIN.out.2.2.2.2;omega);obtain ⟨pl,hpl⟩:∃ l,prt qs f1 m1=l:=⟨_,rfl⟩
    have hll:pl.length=m1:=(by rw [← hpl,prt_ltL,List.length_take,List.length_drop,ltL_len];omega);have hm1:0<pl.length:=(by omega);have hm2:pl.length<=1048576:=(by have:=HIN.out.2.2.2.2;omega);have HPL:=zh hpl;have HPX:=zh (HPT.out f1 m1 HFM.out);rw [hpl] at HPX;clear e1 e2 e3 e4 e5 hpl hll;go_wp2_with (first|refine sL ?_|(refine sS ?_;clear H;intros;rename_i H));refine wp_region_sgx 13 [⟨[],fun v _=>v=.slice ad2 out.length c2⟩,⟨[],fun v _=>v=u⟩,⟨[],fun v _=>v=.slice (some ⟨g,o,none⟩) k cm⟩,⟨[],fun v _=>v=.int .i64 j⟩,⟨[2,3],fun v _=>v=.pointer (some ⟨g,o+j*4,none⟩)⟩,⟨[4],fun v _=>v=.pointer (some ⟨g,o+j*4+1,none⟩)⟩,⟨[5],fun v _=>v=.int .i64 (f1:Nat)⟩,⟨[],fun v _=>v=.slice (some ⟨g,o,none⟩) k cm⟩,⟨[],fun v _=>v=.int .i64 j⟩,⟨[7,8],fun v _=>v=.pointer (some ⟨g,o+j*4,none⟩)⟩,⟨[9],fun v _=>v=.pointer (some ⟨g,o+j*4+2,none⟩)⟩,⟨[10],fun v _=>v=.int .i64 (m1:Nat)⟩,⟨[1,6,11],fun _ _=>True⟩] [12] [[0,1],[0],[0],[0],[0],[0],[0],[0],[0],[0],[0],[0],[0]] [fun _ wx=>St w [] [rowsA encR 106 4 (.slice ad2 out.length c2) out] wx,fun vals wx=>St w [] [rowsA encR 106 4 (vals 12) pl,rowsA encR 106 4 (.slice ad2 out.length c2) out] wx]
     [[],[],[],[],[(2,20),(3,21)],[(4,22)],[(5,23)],[],[],[(7,25),(8,26)],[(9,27)],[(10,28)],[(1,19),(6,24),(11,29)]] [(0,18),(1,19),(2,20),(3,21),(4,22),(5,23),(6,24),(7,25),(8,26),(9,27),(10,28),(11,29),(12,30)] (by kernel_rfl) (by kernel_rfl) H.drew ⟨⟨qo,qo,trivial⟩,⟨qo,trivial⟩,⟨qo,trivial⟩,⟨qo,trivial⟩,⟨?_,trivial⟩,⟨qo,trivial⟩,⟨ql,trivial⟩,⟨qo,trivial⟩,⟨qo,trivial⟩,⟨?_,trivial⟩,⟨qo,trivial⟩,⟨ql,trivial⟩,⟨?_,trivial⟩,trivial⟩ ?_
    ·intro vals wx hd HC;simp only [GF] at hd;have H:=HC;simp only [CA] at H;simp only [PS,hd];go_simp;first|exact HC|exact ⟨rfl,HC⟩|(rw [if_pos hlt];exact ⟨rfl,HC⟩)
    ·intro vals wx hd HC;simp only [GF] at hd;have H:=HC;simp only [CA] at H;simp only [PS,hd];go_simp;first|exact HC|exact ⟨rfl,HC⟩|(rw [if_pos hlt];exact ⟨rfl,HC⟩)
    ·intro vals wx hd HC;simp only [GF] at hd;obtain ⟨h1,h6,h11⟩:=hd;have H:=HC;simp only [CA] at H;simp only [PS,h1,h6,h11];clear h1 h6 h11 HC;go_simp;with_reducible refine zm (HPX.out _ (H.known HK pk)) ?_
     rintro e wz ⟨v5,rfl,hb⟩;have H2:=H.call0 hb;exact ⟨_,rfl,H2⟩
    intro vals wx hd HC;simp only [CA] at HC;have H:=HC;clear HC;simp only [GF] at hd;simp only [PS,hd];clear hd;obtain ⟨v5,hv5⟩:∃ v,vals 12=v:=⟨_,rfl⟩
    rw [hv5] at H ⊢;clear hv5;obtain ⟨P5,r1,r2,_⟩:=rowsA_pool (H.get (A:=rowsA encR 106 4 v5 pl) pk) encR_len;go_wp2_with (first|refine sL ?_|(refine sS ?_;clear H;intros;rename_i H)|((with_reducible refine isAppend ?_);refine AtAppend.pool (enc:=encR) (P:=P5) (u:=v5) (ys:=pl) H rfl rfl rfl rfl rfl (by decide) (by decide) rfl (xs:=out) pk rfl r1 r2 encR_len encR_one (by omega) hm1 ?_;clear H r1 r2;intro ad9 cp9 _ H;simp only [Act.put,puA,puB,puC]));go_roundg (k-(j+1));case measure=>omega
    case rel=>exact ⟨j+1,out++pl,rfl,by omega,by go_num,by rw [HTK.out,← HO.out,← HPL.out];simp,H.picks (.cons pk .nil)⟩
   |false =>
    go_wp2_with (first|refine sL ?_|(refine sS ?_;clear H;intros;rename_i H)|((with_reducible refine isLoad ?_);refine AtLoad.rngT rfl rfl rfl (HRX.out _ (H.known HK pk)) rfl ?_;simp only [Act.put,puA,puB,puC])|((with_reducible refine isSlice ?_);refine AtSlice.one H rfl rfl rfl rfl rfl rfl rfl rfl rfl ?_;clear H;intro b8 _ H;simp only [Act.put,puA,puB,puC])|((with_reducible refine isAppend ?_);refine AtAppend.go (enc:=encR) H rfl rfl rfl rfl rfl (by decide) (by decide) rfl pk rfl (H.at pk) [(⟨false,qf,qn,qt⟩:Pz)] rfl (by simp [flatG,encR]) encR_len encR_one (by simp;omega) ?_;clear H;intro ad9 cp9 _ H;simp only [Act.put,puA,puB,puC]));go_roundg (k-(j+1));case measure=>omega
    case rel=>exact ⟨j+1,out++[⟨false,qf,qn,qt⟩],rfl,by omega,by go_num,by rw [HTK.out,← HO.out];simp,H.picks (.cons pk .nil)⟩
  ·have d5:decide ((j:Int)<(k:Int))=false:=(by simp;omega);have d5n:decide (j<k)=false:=(by simp;omega);have hjk9:k=j:=(by omega);subst hjk9;have hq9:es.take k=es:=List.take_of_length_le (by rw [HIN.out.1];exact Nat.le_refl _);rw [hq9] at HO;have HNX:=zh (HNM.out (.slice ad2 out.length c2));rw [← HO.out] at HNX;clear hq9;go_wp2_with (first|refine sL ?_|(refine sS ?_;clear H;intros;rename_i H)|(go_at_call 27;with_reducible refine zm (HNX.out _ (H.get pk)) ?_;rintro e9 wc ⟨v5,rfl,hb⟩;replace H:=zn (H.call0 hb);clear hb));go_ret;rw [← HO.out];exact ⟨v5,rfl,H.picks (.cons pk .nil)⟩
end
section
open Go.RowKit Go.Maps
attribute [local go_sem] InGr strB_size
theorem szL_sh {bl:Nat} (hb:bl<=400):∀ {qs:List Pz},(∀ q∈qs,chkP bl q=0)->szL qs<=shL qs
 |[],_=>by simp [szL,shL]
 |q::r,h=>by
  have h1:=szL_sh hb (qs:=r) fun x hx=>h x (by simp [hx])
  have h2:=chk_pos (h q (by simp));have h3:szP q<=shQ q:=by
   unfold szP shQ;split
   ·rename_i hc;have:=h2.2 hc;rw [if_pos ⟨hc,by omega⟩];omega
   ·omega
  unfold szL shL at h1 ⊢;simp only [List.map_cons,List.sum_cons];omega
theorem txL_sh:∀ qs:List Pz,txL qs<=shL qs
 |[]=>by simp [txL,shL]
 |q::r=>by
  have:=txL_sh r;unfold txL shL at this ⊢;simp only [List.map_cons,List.sum_cons];have:q.t.length<=shQ q:=by unfold shQ;omega
  omega
end
section
open Go.RowKit Go.Maps
attribute [local go_sem] InGr strB_size
theorem PiL.uniq {S:Sto} (hS:S.Ok):∀ {a b:List Pi} {u:List Pz},PiL S a u->PiL S b u->a=b
 |[],[],[],_,_=>rfl
 |x::a,y::b,t::u,h,k=>by
  have h1:=h.1;have k1:=k.1;obtain ⟨xc,xf,xn,xi⟩:=x;obtain ⟨yc,yf,yn,yi⟩:=y;have e1:xc=yc:=h1.c.trans k1.c.symm;have e2:xf=yf:=h1.f.trans k1.f.symm;have e3:xn=yn:=h1.n.trans k1.n.symm;have e4:xi=yi:=IdIs.uniq hS h1.id k1.id;rw [PiL.uniq hS h.2 k.2,e1,e2,e3,e4]
 |[],_::_,[],_,k=>k.elim
 |_::_,[],[],h,_=>h.elim
 |[],_,_::_,h,_=>h.elim
 |_::_,[],_::_,_,k=>k.elim
 |_::_,_::_,[],h,_=>h.elim
theorem equal_c {X:Px} {ps:List Pi} {qs:List Pz} {v1 v2:Value} (hX:PxOk X) (hps:PiL X.S ps qs) (hb:∀ q∈qs,∀ x∈q.t,x<256) (hn:qs.length<=1024) (htx:txL qs<=65536) (hroom:X.S.list.length+2*txL qs<X.S.most) (w:World) (h:PH X w) (h1:((pA X).sep (rowsA encPi 98 4 v1 ps)).ho w) (h2:((pA X).sep (rowsA encR 106 4 v2 qs)).ho w) :
  Calls Tryz.prog 26 #[.pointer (some ⟨X.p,0,none⟩),v1,v2] w fun e w'=>∃ X':Px,e=.returned (.bool true)∧X.Ext X'∧PxOk X'∧X'.S.list.length<=X.S.list.length+2*txL qs∧St w (pA X).fp [pA X'] w':=by
 have h:((pA X).sep deA).ho w:=h;rw [sep_ho] at h h1 h2;have H:=St.one h.1;have HK:Ks w (pA X).fp [deA,rowsA encPi 98 4 v1 ps,rowsA encR 106 4 v2 qs]:=⟨fun A hA=>by
   simp at hA;rcases hA with rfl|rfl|rfl
   ·exact h.2.1
   ·exact h1.2.1
   ·exact h2.2.1,fun A hA b hbA hm=>by
   simp at hA;rcases hA with rfl|rfl|rfl
   ·exact h.2.2 b hm hbA
   ·exact h1.2.2 b hm hbA
   ·exact h2.2.2 b hm hbA⟩
 have HPC:Hid (∀ w,((pA X).sep deA).ho w->((pA X).sep (rowsA encR 106 4 v2 qs)).ho w->Calls Tryz.prog 16 #[.pointer (some ⟨X.p,0,none⟩),v2] w (PcsPost X qs (pA X).fp w)):=zh fun w h h2=>by
  rw [sep_ho] at h2;obtain ⟨P,r1,r2,r3⟩:=rowsA_pool h2.2.1 encR_len;exact pieces_c hX r1 hb hn htx hroom w h (by rw [sep_ho];exact ⟨h2.1,r2,fun b hb hc=>h2.2.2 b hb (r3 b hc)⟩)
 have hnl:=hps.len;have HSA:Hid (∀ (v3:Value) w,(rowsA encPi 98 4 v1 ps).ho w->(rowsA encPi 98 4 v3 ps).ho w->Calls Tryz.prog 28 #[v1,v3] w fun e w'=>e=.returned (.bool true)∧St w [] [] w'):=zh fun v3 w h1 h2=>same_c (by omega) w h1 h2
 have HIN:Hid (PxOk X∧PiL X.S ps qs):=zh ⟨hX,hps⟩;generalize (pA X).fp=N at H HK ⊢;clear h h1 h2 hX hps hb hn htx hroom hnl;go_enter Tryz.func26,Tryz.ntmps26;go_wp2_with (first|refine sL ?_|(refine sS ?_;clear H;intros;rename_i H)|(go_at_call 16;with_reducible refine zm (HPC.out _ (H.sepK HK pk pk) (H.sepK HK pk pk)) ?_;rintro e9 wc ⟨X2,v3,ps2,rfl,y1,y2,y3,y4,hb⟩;have HZ:=zh (za y1 (za y2 (za y3 y4)));clear y1 y2 y3 y4;replace H:=zn ((H.pick pk).call hb);clear hb));have hpe:ps2=ps:=PiL.uniq HZ.out.2.1.ok HZ.out.2.2.1 (HIN.out.2.le HIN.out.1.ok HZ.out.1.le);subst hpe;go_wp2_with (first|refine sL ?_|(refine sS ?_;clear H;intros;rename_i H)|(go_at_call 28;with_reducible refine zm (HSA.out v3 _ (H.known HK pk) (H.get pk)) ?_;rintro e9 wc ⟨rfl,hb⟩;replace H:=H.grew hb.below;clear hb));go_ret;exact ⟨X2,rfl,HZ.out.1,HZ.out.2.1,HZ.out.2.2.2,H.picks (.cons pk .nil)⟩
end
section
open Go.RowKit Go.Maps
attribute [local go_sem] InGr strB_size
theorem compose_no1 {X:Px} {b:Nat} {base:List Nat} {ps ms:List Pi} {qs es:List Pz} {ad am:Option Addr} {c cm n k:Nat} (hX:PxOk X) (hd:IdIs X.S b (base.map Tr.leaf)) (hps:PiL X.S ps qs) (hms:PiL X.S ms es) (hnn:ps.length=n) (hkk:ms.length=k) (hn:n<=1024) (hk:k<=1024) (hs:base.length<=1048576) (hz:chkL base.length qs≠0) (w:World) (h:PH X w) (hr:((pA X).sep (rowsA encPi 98 4 (.slice ad n c) ps)).ho w) (hm:((pA X).sep (rowsA encPi 98 4 (.slice am k cm) ms)).ho w) :
  Calls Tryz.prog 29 #[.pointer (some ⟨X.p,0,none⟩),.int .i64 b,.slice ad n c,.slice am k cm] w (PPost X (.tuple #[.slice none 0 0,.iface 73 (.int .i64 (chkL base.length qs:Nat))]) (pA X).fp w):=by
 have h:((pA X).sep deA).ho w:=h;rw [sep_ho] at h hr hm;have H:=St.one h.1;have HK:Ks w (pA X).fp [deA,rowsA encPi 98 4 (.slice ad n c) ps,rowsA encPi 98 4 (.slice am k cm) ms]:=⟨fun A hA=>by
   simp at hA;rcases hA with rfl|rfl|rfl
   ·exact h.2.1
   ·exact hr.2.1
   ·exact hm.2.1,fun A hA b hbA hm9=>by
   simp at hA;rcases hA with rfl|rfl|rfl
   ·exact h.2.2 b hm9 hbA
   ·exact hr.2.2 b hm9 hbA
   ·exact hm.2.2 b hm9 hbA⟩
 generalize (pA X).fp=N at *;clear h hr hm;obtain ⟨e0,he0⟩:∃ e,chkL base.length qs=e:=⟨_,rfl⟩
 rw [he0];have HAP:Hid (∀ w,((pA X).sep deA).ho w->((pA X).sep (rowsA encPi 98 4 (.slice ad n c) ps)).ho w->Calls Tryz.prog 18 #[.pointer (some ⟨X.p,0,none⟩),.int .i64 b,.slice ad n c] w (PPost X (.tuple #[.int .i64 0,.iface 73 (.int .i64 (e0:Nat))]) (pA X).fp w)):=zh fun w h h2=>by
  rw [← hnn] at h2 ⊢;have:=apply_no hX hd hps (by omega) (by simp;omega) (by rw [List.length_map];exact hz) w h h2;rwa [List.length_map,he0] at this
 clear hX hd hps hms hnn hkk hs hz he0;go_enter Tryz.func29,Tryz.ntmps29;go_wp2_with (first|refine sL ?_|(refine sS ?_;clear H;intros;rename_i H)|(go_at_call 18;with_reducible refine zm (HAP.out _ (H.sepK HK pk pk) (H.sepK HK pk pk)) ?_;rintro e9 wc ⟨X0,y1,y2,y3,rfl,hb⟩;have HZ0:=zh (za y1 (za y2 y3));clear y1 y2 y3;replace H:=zn ((H.pick pk).call hb);clear hb));go_ret2;exact ⟨X0,HZ0.out.1,HZ0.out.2.1,HZ0.out.2.2,rfl,H.picks (.cons pk .nil)⟩
theorem compose_no2 {X:Px} {b:Nat} {base:List Nat} {ps ms:List Pi} {qs es:List Pz} {ad am:Option Addr} {c cm n k C1:Nat} (hX:PxOk X) (hd:IdIs X.S b (base.map Tr.leaf)) (hps:PiL X.S ps qs) (hms:PiL X.S ms es) (hnn:ps.length=n) (hkk:ms.length=k) (hn:n<=1024) (hk:k<=1024) (hs:base.length<=1048576) (hz:chkL base.length qs=0) (hz2:chkL (apL base qs).length es≠0) (htot:szL qs<=1048576) (hC1:n*(2*base.length)+n*szL qs<=C1) (hroom:X.S.list.length+C1<=X.S.most) (w:World) (h:PH X w) (hr:((pA X).sep (rowsA encPi 98 4 (.slice ad n c) ps)).ho w) (hm:((pA X).sep (rowsA encPi 98 4 (.slice am k cm) ms)).ho w) :
  Calls Tryz.prog 29 #[.pointer (some ⟨X.p,0,none⟩),.int .i64 b,.slice ad n c,.slice am k cm] w fun e w'=>∃ X':Px,e=.returned (.tuple #[.slice none 0 0,.iface 73 (.int .i64 (chkL (apL base qs).length es:Nat))])∧X.Ext X'∧PxOk X'∧St w (pA X).fp [pA X'] w':=by
 have h:((pA X).sep deA).ho w:=h;rw [sep_ho] at h hr hm;have H:=St.one h.1;have HK:Ks w (pA X).fp [deA,rowsA encPi 98 4 (.slice ad n c) ps,rowsA encPi 98 4 (.slice am k cm) ms]:=⟨fun A hA=>by
   simp at hA;rcases hA with rfl|rfl|rfl
   ·exact h.2.1
   ·exact hr.2.1
   ·exact hm.2.1,fun A hA b hbA hm9=>by
   simp at hA;rcases hA with rfl|rfl|rfl
   ·exact h.2.2 b hm9 hbA
   ·exact hr.2.2 b hm9 hbA
   ·exact hm.2.2 b hm9 hbA⟩
 generalize (pA X).fp=N at *;clear h hr hm;have hall:=chkL_zero.1 hz;obtain ⟨e0,he0⟩:∃ e,chkL (apL base qs).length es=e:=⟨_,rfl⟩
 rw [he0];have HAP:Hid (∀ w,((pA X).sep deA).ho w->((pA X).sep (rowsA encPi 98 4 (.slice ad n c) ps)).ho w->Calls Tryz.prog 18 #[.pointer (some ⟨X.p,0,none⟩),.int .i64 b,.slice ad n c] w (IdPost X ((apL base qs).map Tr.leaf) C1 (pA X).fp w)):=zh fun w h h2=>by
  rw [← hnn] at h2 ⊢;have:=apply_c hX hd hps (by omega) hs hz htot (by rw [hnn];omega) w h h2;refine this.mono ?_;rintro e w' ⟨X',id,rfl,y1,y2,y3,y4,y5⟩;exact ⟨X',id,rfl,y1,y2,y3,by rw [hnn] at y4;omega,y5⟩
 have HCK:Hid (∀ (X1:Px) (y:Nat),X.Ext X1->PxOk X1->IdIs X1.S y ((apL base qs).map Tr.leaf)->∀ w,((pA X1).sep deA).ho w->((pA X1).sep (rowsA encPi 98 4 (.slice am k cm) ms)).ho w->Calls Tryz.prog 21 #[.pointer (some ⟨X.p,0,none⟩),.int .i64 y,.slice am k cm] w (PPost X1 (.iface 73 (.int .i64 (e0:Nat))) (pA X1).fp w)):=zh fun X1 y q1 q2 q3 w h h2=>by
  rw [← hkk] at h2 ⊢;have hap:(apL base qs).length=szL qs:=apL_len hall;have:=check_d q2 q3 (hms.le hX.ok q1.le) (by omega) (by simp;omega) (fun h=>by rw [List.length_map] at h;exact absurd h hz2) w h h2;rw [List.length_map,he0,q1.p] at this;have he9:e0≠0:=(by rw [← he0];exact hz2);simpa [erN,he9] using this
 clear hX hd hps hms hnn hkk hs hz hz2 htot hC1 hroom hall he0;go_enter Tryz.func29,Tryz.ntmps29;go_wp2_with (first|refine sL ?_|(refine sS ?_;clear H;intros;rename_i H)|(go_at_call 18;with_reducible refine zm (HAP.out _ (H.sepK HK pk pk) (H.sepK HK pk pk)) ?_;rintro e9 wc ⟨X0,id0,rfl,y1,y2,y3,y4,hb⟩;have HZ0:=zh (za y1 (za y2 (za y3 y4)));clear y1 y2 y3 y4;replace H:=zn ((H.pick pk).call hb);clear hb)|(go_at_call 21;with_reducible refine zm (HCK.out X0 id0 HZ0.out.1 HZ0.out.2.1 HZ0.out.2.2.1 _ (H.sepK HK pk pk) (H.sepK HK pk pk)) ?_;rintro e9 wc ⟨X1,y1,y2,y3,rfl,hb⟩;have HZ1:=zh (za y1 (za y2 y3));clear y1 y2 y3;replace H:=zn ((H.pick pk).call hb);clear hb));go_ret2;exact ⟨X1,rfl,HZ0.out.1.trans HZ1.out.1,HZ1.out.2.1,H.picks (.cons pk .nil)⟩
end
section
open Go.RowKit Go.Maps
attribute [local go_sem] InGr strB_size
theorem cmpNq {s s':Nat} {qs es:List Pz} (h:∀ q∈qs,chkP s q=0) (h2:∀ e∈es,chkP s' e=0) (hb:∀ q∈qs,∀ x∈q.t,x<256) (hb2:∀ q∈es,∀ x∈q.t,x<256) {m:Nat} (hm:szL es<=m):(nrm (cmpW qs es)).length<=m∧txL (nrm (cmpW qs es))<=m∧∀ q∈nrm (cmpW qs es),∀ x∈q.t,x<256:=by
 obtain ⟨l1,l2⟩:=cmp_len (qs:=qs) h2;have l3:=nrm_len (cmpW qs es);rw [nrm_tx (cmp_chk h h2)];exact ⟨by omega,by omega,nrm_lt (cmp_lt hb hb2)⟩
theorem composes_law {P P2:PoolT} {qs es:List Pz} {v u:Value} {base:List Nat} (hr:RowIn P encR 4 v qs) (hr2:RowIn P2 encR 4 u es) (hb:∀ x∈base,x<256) (hbq:∀ q∈qs,∀ x∈q.t,x<256) (hbe:∀ q∈es,∀ x∈q.t,x<256) (hbl:base.length<=1152921504606846976) (htl:∀ q∈qs,q.t.length<=1152921504606846976) (htl2:∀ q∈es,q.t.length<=1152921504606846976) (hf:∀ q∈qs,q.n<=9223372036854775807) (hf2:∀ q∈es,q.n<=9223372036854775807) (w:World) (hde:deA.ho w) (hp:(poolA P).ho w) (hp2:(poolA P2).ho w) :
  Calls Tryz.prog 5 #[.string (strB base),v,u] w fun e w'=>e=.returned (.bool true)∧St w [] [] w':=by
 have H:=St.nil w [];have HK:Ks w [] [deA,poolA P,poolA P2]:=(Ks.two hde hp).three hp2;have HAL:Hid (∀ w,deA.ho w->Calls Tryz.prog 13 #[] w fun e w'=>e=.returned (.bool true)∧St w [] [] w'):=zh fun w h=>alive_c w h
 have HSH:=zh (fun w h=>short_c (v:=v) hr hbl htl hf w h);have HSE:=zh (fun w h=>short_c (v:=u) (base:=[]) hr2 (by simp) htl2 hf2 w h);rw [strB_nil] at HSE;have HIN:Hid (RowIn P encR 4 v qs∧(∀ x∈base,x<256)∧(∀ q∈qs,∀ x∈q.t,x<256)∧RowIn P2 encR 4 u es∧∀ q∈es,∀ x∈q.t,x<256):=zh ⟨hr,hb,hbq,hr2,hbe⟩;clear hr hb hbq hbl htl hf hde hp hr2 hbe htl2 hf2 hp2;go_enter Tryz.func5,Tryz.ntmps5;go_wp2_with (first|refine sL ?_|(refine sS ?_;clear H;intros;rename_i H)|(go_at_call 13;with_reducible refine zm (HAL.out _ (H.known HK pk)) ?_;rintro e9 wc ⟨rfl,hb⟩;replace H:=H.grew hb.below;clear hb));go_at_call 14
 with_reducible refine zm (HSH.out _ (H.known HK pk)) ?_
 rintro e9 wc ⟨bs,rfl,hsh,hb⟩;replace H:=H.grew hb.below;clear hb HSH HAL;cases bs with
 |false =>
  clear hsh;go_wp2_with (first|refine sL ?_|(refine sS ?_;clear H;intros;rename_i H));go_ret;exact ⟨rfl,H.nix⟩
 |true =>
  obtain ⟨hs1,hs2⟩:=hsh rfl;have HS:=zh (za hs1 hs2);clear hs1 hs2 hsh;go_wp2_with (first|refine sL ?_|(refine sS ?_;clear H;intros;rename_i H));with_reducible refine zm (HSE.out _ (H.known HK pk)) ?_
  rintro e9 wc ⟨bs2,rfl,hsh,hb⟩;replace H:=H.grew hb.below;clear hb HSE;cases bs2 with
  |false =>
   clear hsh;go_wp2_with (first|refine sL ?_|(refine sS ?_;clear H;intros;rename_i H));go_ret;exact ⟨rfl,H.nix⟩
  |true =>
   obtain ⟨hs3,hs4⟩:=hsh rfl;simp only [List.length_nil,Nat.zero_add] at hs3;obtain ⟨hs1,hs2⟩:=HS.out;obtain ⟨bl,hbl⟩:∃ n,base.length=n:=⟨_,rfl⟩
   obtain ⟨n,hn⟩:∃ n,qs.length=n:=⟨_,rfl⟩
   obtain ⟨k,hk⟩:∃ n,es.length=n:=⟨_,rfl⟩
   have htx:=txL_sh qs;have htx2:=txL_sh es;rw [hbl] at hs1;rw [hn] at hs2;rw [hk] at hs4;have HLM:Hid (base.length=bl∧bl<=400∧qs.length=n∧n<=40∧txL qs<=400∧shL qs<=400∧es.length=k∧k<=40∧txL es<=400∧shL es<=400):=zh ⟨hbl,by omega,hn,by omega,by omega,by omega,hk,by omega,by omega,by omega⟩;have HPA:Hid (∀ w,deA.ho w->Calls Tryz.prog 15 #[.string (strB base)] w (ParsePost base w)):=zh fun w h=>parse_c HIN.out.2.1 (by omega) w h
   have HPI:Hid (∀ X:Px,PxOk X->X.S.most=1048576->X.S.list.length<=2*base.length->∀ w,((pA X).sep deA).ho w->((pA X).sep (poolA P)).ho w->Calls Tryz.prog 16 #[.pointer (some ⟨X.p,0,none⟩),v] w (PcsPost X qs (pA X).fp w)):=zh fun X q1 q2 q3 w h1 h2=>pieces_c q1 HIN.out.1 HIN.out.2.2.1 (by omega) (by omega) (by omega) w h1 h2
   have HPE:Hid (∀ X X2:Px,X.p=X2.p->PxOk X2->X2.S.most=1048576->X2.S.list.length<=1600->∀ w,((pA X2).sep deA).ho w->((pA X2).sep (poolA P2)).ho w->Calls Tryz.prog 16 #[.pointer (some ⟨X.p,0,none⟩),u] w (PcsPost X2 es (pA X2).fp w)):=zh fun X X2 q0 q1 q2 q3 w h1 h2=>by
    have:=pieces_c q1 HIN.out.2.2.2.1 HIN.out.2.2.2.2 (by omega) (by omega) (by omega) w h1 h2;rwa [← q0] at this
   clear hsh hs1 hs2 hs3 hs4 hbl hn hk htx htx2;go_wp2_with (first|refine sL ?_|(refine sS ?_;clear H;intros;rename_i H)|(go_at_call 15;with_reducible refine zm (HPA.out _ (H.known HK pk)) ?_;rintro e9 wc ⟨X,id1,rfl,y1,y2,y3,y4,hb⟩;have HX:=zh (za y1 (za y2 (za y3 y4)));clear y1 y2 y3 y4;replace H:=zn (H.call0 hb);clear hb));go_at_call 16
   with_reducible refine zm (HPI.out X HX.out.1 HX.out.2.1 HX.out.2.2.2 _ (H.sepK HK pk pk) (H.sepK HK pk pk)) ?_
   rintro e9 wc ⟨X2,v2,ps,rfl,y1,y2,y3,y4,hb⟩;have HY:=zh (za y1 (za y2 (za y3 y4)));clear y1 y2 y3 y4;replace H:=zn ((H.pick pk).call hb);clear hb;have HM2:Hid (X2.S.most=1048576∧X2.S.list.length<=1600∧X.p=X2.p):=zh ⟨by rw [HY.out.1.le.1,HX.out.2.1],by have h1:=HY.out.2.2.2;have h2:=HX.out.2.2.2;have h3:=HLM.out;omega,HY.out.1.p.symm⟩;go_wp2_with (first|refine sL ?_|(refine sS ?_;clear H;intros;rename_i H)|(go_at_call 16;with_reducible refine zm (HPE.out X X2 HM2.out.2.2 HY.out.2.1 HM2.out.1 HM2.out.2.1 _ (H.sepK HK pk pk) (H.sepK HK pk pk)) ?_;rintro e9 wc ⟨X3,v3,ms,rfl,y1,y2,y3,y4,hb⟩;have HW:=zh (za y1 (za y2 (za y3 y4)));clear y1 y2 y3 y4;replace H:=zn ((H.pick pk).call hb);clear hb));obtain ⟨ad2,c2,rfl,_⟩:=rowsA_shape (H.get (A:=rowsA encPi 98 4 v2 ps) pk);obtain ⟨am,cm,rfl,_⟩:=rowsA_shape (H.get (A:=rowsA encPi 98 4 v3 ms) pk);have hpl:ps.length=n:=(by rw [HY.out.2.2.1.len];exact HLM.out.2.2.1);have hml:ms.length=k:=(by rw [HW.out.2.2.1.len];exact HLM.out.2.2.2.2.2.2.1);rw [hpl,hml] at H ⊢;have HPL:=zh (za hpl hml);clear hpl hml;have HM3:Hid (X3.S.most=1048576∧X3.S.list.length<=2400∧IdIs X3.S id1 (base.map Tr.leaf)∧X3.p=X.p∧PiL X3.S ps qs):=zh ⟨by rw [HW.out.1.le.1,HM2.out.1],by have h1:=HW.out.2.2.2;have h2:=HM2.out;have h3:=HLM.out;omega,(HX.out.2.2.1.le HX.out.1.ok HY.out.1.le).le HY.out.2.1.ok HW.out.1.le,by rw [HW.out.1.p];exact HM2.out.2.2.symm,HY.out.2.2.1.le HY.out.2.1.ok HW.out.1.le⟩;have HRC:Hid (∀ w,(poolA P).ho w->Calls Tryz.prog 17 #[.string (strB base),v] w fun e w'=>e=.returned (.int .i64 (chkL bl qs:Nat))∧St w [] [] w'):=zh fun w h=>by
    have h3:=HLM.out;have:=rcheck_c HIN.out.1 (base:=base) (by omega) w h;rwa [h3.1] at this
   have HNI:Hid (∀ w,Calls Tryz.prog 20 #[.nilIface] w fun e w'=>e=.returned (.int .i64 0)∧w'=w):=zh fun w=>num_nil w
   by_cases hk:chkL bl qs=0
   ·have hall:=chkL_zero.1 hk;have hall2:∀ q∈qs,chkP base.length q=0:=(by rw [HLM.out.1];exact hall);have hsz:szL qs<=400:=(by have h1:=szL_sh HLM.out.2.1 hall;have h2:=HLM.out;omega);rw [hk] at HRC;have HRA:Hid (∀ w,(poolA P).ho w->Calls Tryz.prog 23 #[.string (strB base),v] w fun e w'=>e=.returned (.string (strB (apL base qs)))∧St w [] [] w'):=zh fun w h=>rapply_c HIN.out.1 (by have:=HLM.out;omega) hall2 (by omega) w h
    obtain ⟨out,hout⟩:∃ l,apL base qs=l:=⟨_,rfl⟩
    obtain ⟨lo,hlo⟩:∃ k,out.length=k:=⟨_,rfl⟩
    have hlz:lo=szL qs:=(by rw [← hlo,← hout];exact apL_len hall2);have HRE:Hid (∀ w,(poolA P2).ho w->Calls Tryz.prog 17 #[.string (strB out),u] w fun e w'=>e=.returned (.int .i64 (chkL lo es:Nat))∧St w [] [] w'):=zh fun w h=>by
     have:=rcheck_c HIN.out.2.2.2.1 (base:=out) (by omega) w h;rwa [hlo] at this
    rw [hout] at HRA;have h5:n*(2*base.length)<=40*800:=Nat.mul_le_mul (by have:=HLM.out;omega) (by have:=HLM.out;omega);have h6:n*szL qs<=40*400:=Nat.mul_le_mul (by have:=HLM.out;omega) hsz;by_cases hk2:chkL lo es=0
    ·have halle:=chkL_zero.1 hk2;have hsz2:szL es<=400:=(by have h1:=szL_sh (bl:=lo) (by omega) halle;have h2:=HLM.out;omega);rw [hk2] at HRE;obtain ⟨nq,hnq⟩:∃ l,nrm (cmpW qs es)=l:=⟨_,rfl⟩
     have HNQ:=zh (cmpNq hall halle HIN.out.2.2.1 HIN.out.2.2.2.2 hsz2);rw [hnq] at HNQ;have h7:k*(2*txL qs)<=40*800:=Nat.mul_le_mul (by have:=HLM.out;omega) (by have:=HLM.out;omega);have h8:szL es*szL es<=400*400:=Nat.mul_le_mul hsz2 hsz2;have HCO:Hid (∀ w,((pA X3).sep deA).ho w->((pA X3).sep (rowsA encPi 98 4 (.slice ad2 n c2) ps)).ho w->((pA X3).sep (rowsA encPi 98 4 (.slice am k cm) ms)).ho w->Calls Tryz.prog 29 #[.pointer (some ⟨X.p,0,none⟩),.int .i64 id1,.slice ad2 n c2,.slice am k cm] w (JnPost X3 nq 240000 (pA X3).fp w)):=zh fun w h1 h2 h3=>by
      have h4:=HLM.out;have h9:=HM3.out;have:=compose_ok (C1:=48000) (C2:=32000) (C3:=160000) HW.out.2.1 h9.2.2.1 h9.2.2.2.2 HW.out.2.2.1 HPL.out.1 HPL.out.2 (by omega) (by omega) (by omega) (by rw [h4.1];exact hk) (by rw [hout,hlo];exact hk2) (by omega) (by omega) (by omega) (by omega) (by omega) (by omega) w h1 h2 h3;rwa [h9.2.2.2.1,hnq] at this
     have HRN:Hid (∀ w,(poolA P).ho w->(poolA P2).ho w->Calls Tryz.prog 30 #[v,u] w fun e w'=>∃ v',e=.returned v'∧St w [] [rowsA encR 106 4 v' nq] w'):=zh fun w h h2=>by
      have h3:=HLM.out;have:=rcompose_c (s:=bl) HIN.out.1 HIN.out.2.2.2.1 (by omega) hall (by rw [← hlz];exact halle) (by omega) (by omega) (by omega) w h h2;rwa [nrm_cmp,hnq] at this
     have HEQ:Hid (∀ (X4:Px) (v3 v5:Value) (ps3:List Pi),X3.Ext X4->PxOk X4->PiL X4.S ps3 nq->X4.S.list.length<=X3.S.list.length+240000->∀ w,((pA X4).sep deA).ho w->((pA X4).sep (rowsA encPi 98 4 v3 ps3)).ho w->((pA X4).sep (rowsA encR 106 4 v5 nq)).ho w->Calls Tryz.prog 26 #[.pointer (some ⟨X.p,0,none⟩),v3,v5] w fun e w'=>∃ X':Px,e=.returned (.bool true)∧X4.Ext X'∧PxOk X'∧X'.S.list.length<=X4.S.list.length+2*txL nq∧St w (pA X4).fp [pA X'] w'):=zh fun X4 v3 v5 ps3 q1 q2 q3 q4 w h h1 h2=>by
      have h4:=HM3.out;have h6:=HNQ.out;have hm:=q1.le.1;have:=equal_c q2 q3 h6.2.2 (by omega) (by omega) (by omega) w h h1 h2;rwa [q1.p,h4.2.2.2.1] at this
     clear hk hall hall2 hsz hout hlo hlz h5 h6 hk2 halle hsz2 hnq h7 h8;go_wp2_with (first|refine sL ?_|(refine sS ?_;clear H;intros;rename_i H)|(go_at_call 29;with_reducible refine zm (HCO.out _ (H.sepK HK pk pk) (H.sepO pk pk) (H.sepO pk pk)) ?_;rintro e9 wc ⟨X4,v4,ps4,rfl,y1,y2,y3,y4,hb⟩;have HZ4:=zh (za y1 (za y2 (za y3 y4)));clear y1 y2 y3 y4;replace H:=zn ((H.pick pk).call hb);clear hb)|(go_at_call 17;first|(with_reducible refine zm (HRC.out _ (H.known HK pk)) ?_;rintro e9 wc ⟨rfl,hb⟩;replace H:=H.grew hb.below;clear hb)|(with_reducible refine zm (HRE.out _ (H.known HK pk)) ?_;rintro e9 wc ⟨rfl,hb⟩;replace H:=H.grew hb.below;clear hb))|(go_at_call 23;with_reducible refine zm (HRA.out _ (H.known HK pk)) ?_;rintro e9 wc ⟨rfl,hb⟩;replace H:=H.grew hb.below;clear hb)|(go_at_call 30;with_reducible refine zm (HRN.out _ (H.known HK pk) (H.known HK pk)) ?_;rintro e9 wc ⟨v5,rfl,hb⟩;replace H:=zn (H.call0 hb);clear hb)|(go_at_call 26;with_reducible refine zm (HEQ.out X4 v4 v5 ps4 HZ4.out.1 HZ4.out.2.1 HZ4.out.2.2.1 HZ4.out.2.2.2 _ (H.sepK HK pk pk) (H.sepO pk pk) (H.sepO pk pk)) ?_;rintro e9 wc ⟨X6,rfl,y1,y2,y3,hb⟩;replace H:=(H.pick pk).call hb;clear hb y1 y2 y3;simp only [List.cons_append,List.nil_append] at H));go_ret;exact ⟨rfl,H.nix⟩
    ·obtain ⟨e0,he0⟩:∃ e,chkL lo es=e:=⟨_,rfl⟩
     have HCO:Hid (∀ w,((pA X3).sep deA).ho w->((pA X3).sep (rowsA encPi 98 4 (.slice ad2 n c2) ps)).ho w->((pA X3).sep (rowsA encPi 98 4 (.slice am k cm) ms)).ho w->Calls Tryz.prog 29 #[.pointer (some ⟨X.p,0,none⟩),.int .i64 id1,.slice ad2 n c2,.slice am k cm] w fun e w'=>∃ X':Px,e=.returned (.tuple #[.slice none 0 0,.iface 73 (.int .i64 (e0:Nat))])∧X3.Ext X'∧PxOk X'∧St w (pA X3).fp [pA X'] w'):=zh fun w h1 h2 h3=>by
      have h4:=HLM.out;have h9:=HM3.out;have:=compose_no2 (C1:=48000) HW.out.2.1 h9.2.2.1 h9.2.2.2.2 HW.out.2.2.1 HPL.out.1 HPL.out.2 (by omega) (by omega) (by omega) (by rw [h4.1];exact hk) (by rw [hout,hlo];exact hk2) (by omega) (by omega) (by omega) w h1 h2 h3;rwa [h9.2.2.2.1,hout,hlo,he0] at this
     rw [he0] at HRE hk2;have HNU:Hid (∀ w,Calls Tryz.prog 20 #[.iface 73 (.int .i64 (e0:Nat))] w fun e w'=>e=.returned (.int .i64 (e0:Nat))∧w'=w):=zh fun w=>num_ev e0 w
     have ek:((e0:Int)==(e0:Int))=true:=(by simp);have ek0:((e0:Int) != 0)=true:=(by simp;omega);clear hk hall hall2 hsz hout hlo hlz h5 h6 hk2 he0;go_wp2_with (first|refine sL ?_|(refine sS ?_;clear H;intros;rename_i H)|(go_at_call 29;with_reducible refine zm (HCO.out _ (H.sepK HK pk pk) (H.sepO pk pk) (H.sepO pk pk)) ?_;rintro e9 wc ⟨X4,rfl,y1,y2,hb⟩;have HZ4:=zh (za y1 y2);clear y1 y2;replace H:=zn ((H.pick pk).call hb);clear hb)|(go_at_call 17;first|(with_reducible refine zm (HRC.out _ (H.known HK pk)) ?_;rintro e9 wc ⟨rfl,hb⟩;replace H:=H.grew hb.below;clear hb)|(with_reducible refine zm (HRE.out _ (H.known HK pk)) ?_;rintro e9 wc ⟨rfl,hb⟩;replace H:=H.grew hb.below;clear hb))|(go_at_call 23;with_reducible refine zm (HRA.out _ (H.known HK pk)) ?_;rintro e9 wc ⟨rfl,hb⟩;replace H:=H.grew hb.below;clear hb)|(go_at_call 20;with_reducible refine same (HNU.out _) ?_));go_ret;exact ⟨rfl,H.nix⟩
   ·obtain ⟨e0,he0⟩:∃ e,chkL bl qs=e:=⟨_,rfl⟩
    have HCO:Hid (∀ w,((pA X3).sep deA).ho w->((pA X3).sep (rowsA encPi 98 4 (.slice ad2 n c2) ps)).ho w->((pA X3).sep (rowsA encPi 98 4 (.slice am k cm) ms)).ho w->Calls Tryz.prog 29 #[.pointer (some ⟨X.p,0,none⟩),.int .i64 id1,.slice ad2 n c2,.slice am k cm] w (PPost X3 (.tuple #[.slice none 0 0,.iface 73 (.int .i64 (e0:Nat))]) (pA X3).fp w)):=zh fun w h1 h2 h3=>by
     have h4:=HLM.out;have h9:=HM3.out;have:=compose_no1 HW.out.2.1 h9.2.2.1 h9.2.2.2.2 HW.out.2.2.1 HPL.out.1 HPL.out.2 (by omega) (by omega) (by omega) (by rw [h4.1];exact hk) w h1 h2 h3;rwa [h9.2.2.2.1,h4.1,he0] at this
    rw [he0] at HRC hk;have HNU:Hid (∀ w,Calls Tryz.prog 20 #[.iface 73 (.int .i64 (e0:Nat))] w fun e w'=>e=.returned (.int .i64 (e0:Nat))∧w'=w):=zh fun w=>num_ev e0 w
    have ek:((e0:Int)==(e0:Int))=true:=(by simp);have ek0:((e0:Int) != 0)=true:=(by simp;omega);have ek1:((e0:Int)==0)=false:=(by simp;omega);clear hk he0;go_wp2_with (first|refine sL ?_|(refine sS ?_;clear H;intros;rename_i H)|(go_at_call 29;with_reducible refine zm (HCO.out _ (H.sepK HK pk pk) (H.sepO pk pk) (H.sepO pk pk)) ?_;rintro e9 wc ⟨X4,y1,y2,y3,rfl,hb⟩;have HZ4:=zh (za y1 (za y2 y3));clear y1 y2 y3;replace H:=zn ((H.pick pk).call hb);clear hb)|(go_at_call 17;with_reducible refine zm (HRC.out _ (H.known HK pk)) ?_;rintro e9 wc ⟨rfl,hb⟩;replace H:=H.grew hb.below;clear hb)|(go_at_call 20;with_reducible refine same (HNU.out _) ?_));go_ret;exact ⟨rfl,H.nix⟩
end
section
open Go.ChangeShapes Go.WideShapes Go.ChangeAt Go.RowKit Go.Deep
def fits64 (z:Int):Prop:=-9223372036854775808<=z∧z<=9223372036854775807
theorem ownK:ownKnob Tryz.prog.godebug=none:=by kernel_rfl
theorem i64_wf {x:Int} (h:(Lit.int .i64 x).wf=true):fits64 x:=by
 simp [Lit.wf,IntKind.min,IntKind.max,IntKind.signed,IntKind.bits] at h;unfold fits64;omega
theorem gTab:Tryz.prog.globalNamed "math/bits.deBruijn64tab"=some 0:=by kernel_rfl
theorem tTab:(Tryz.prog.globals[0]?).map (·.type)=some 291:=by kernel_rfl
theorem tab_is {H:Type}:(Rows.laid_math_bits_deBruijn64tab:DataW H)=.agg (Lib.deBruijn64tab.map fun (n:Nat)=>.lit (.int .u8 n)):=rfl
theorem tab_of {W:World} (h:laidMetH Tryz.prog [("math/bits.deBruijn64tab",Rows.laid_math_bits_deBruijn64tab)] W):deA.ho W:=by
  rw [deA_ho];rw [MakeChecks.laidMetH_plain _ _ _ (by kernel_rfl)] at h;obtain ⟨ps,⟨g0,t0,cs0,f0,p0,q0,hg0,ht0,hv0,hd0,_,_⟩,_,_⟩:=h;obtain rfl:=Option.some.inj (gTab.symm.trans hg0);obtain rfl:=Option.some.inj (tTab.symm.trans ht0);obtain ⟨xs,m1,hfu,hx1,hlen,hn3,hel⟩:=DataW.trod_array Tryz.underlying291 hd0;have c5:Tryz.prog.cellsOf 5=1:=(by kernel_rfl);have key:∀ j,j<64->W.cell? ⟨0,j,none⟩=some (.int .u8 (Lib.deBruijn64tab.getD j 0:Nat)):=fun j hj=>by
    have h0:=hel j hj;rw [c5] at h0;obtain ⟨y,hy⟩:∃ y,xs[j]?=some y:=⟨xs[j]'(by omega),zg _⟩
    rw [hy] at h0;obtain ⟨k,e1,e2,_⟩:=DataW.trod_int Tryz.underlying5 h0;rw [tab_is] at hx1;simp only [Prod.mk.injEq,DataW.agg.injEq] at hx1;have e3:=congrArg (fun l:List (DataW Unit)=>l[j]?) hx1.1;simp only [List.getElem?_map,hy,Option.map_some] at e3
    have hl : j < Lib.deBruijn64tab.length := by have : Lib.deBruijn64tab.length = 64 := by decide
                                                 omega
    rw [zg hl,Option.map_some] at e3;have hk:k=(Lib.deBruijn64tab[j]:Nat):=by
      have:=Option.some.inj e3;rw [e2] at this;simp at this;exact this.symm
    have hcl:=World.var?_cell hg0 hv0 j;have e4:cs0.toList[j]?=some (.int .u8 k):=by
      have:=congrArg List.head? e1;rw [Nat.mul_one,List.head?_take,if_neg (by omega),List.head?_drop] at this;simpa using this
    rw [hcl,← Array.getElem?_toList,e4,hk];simp [List.getD,hl]
  have h64:Lib.deBruijn64tab.length=64:=(by decide);exact ⟨fun j hj=>key j (by omega),by have:=block_lt_of_cell (key 0 (by omega));exact this⟩
theorem door_met (os:Os) (args:Array Value):laidMetH Tryz.prog [("math/bits.deBruijn64tab",Rows.laid_math_bits_deBruijn64tab)] ((World.doorLaid Tryz.prog 400 os).forCall (fun _ _=>0) ⟨#[],args,[]⟩).memory :=
 laidMetH_of_parts3 (fuel:=80) (laidMet_of_run' 80 (by kernel_rfl) (by kernel_rfl)) (by kernel_rfl) (by kernel_rfl)
end
section
open Go.ChangeShapes Go.WideShapes Go.ChangeAt Go.RowKit Go.Deep
open Go.ChangeMaps (open_string shut_string)
theorem strB_of (b:ByteArray):∃ L:List Nat,b=strB L∧∀ x∈L,x<256:=by
 refine ⟨b.data.toList.map UInt8.toNat,?_,?_⟩
 ·apply ByteArray.ext;unfold strB;apply Array.ext';have e:∀ l:List UInt8,l=(l.map UInt8.toNat).map UInt8.ofNat:=fun l=>by
   induction l with
   |nil=>rfl
   |cons x l ih=>rw [List.map_cons,List.map_cons,← ih,UInt8.ofNat_toNat]
  exact e _
 ·intro x hx;obtain ⟨u,_,rfl⟩:=List.mem_map.1 hx;exact u.toNat_lt
theorem strB_dlen (L:List Nat):(strB L).data.toList.length=L.length:=by
 have h1:=strB_size L;have h2:(strB L).data.toList.length=(strB L).size:=Array.length_toList;omega
section
variable {H:Type} {enc:TypeId×Value->H} {w:World} {base:Nat} {spare:Nat->Bool} {held:Bool}
theorem weightsAll_mem {P:Program} {e:TypeId} {m:Nat} {d:DataW H} (hm:m∈d.weights P e):∀ {ds:List (DataW H)},d∈ds->m∈DataW.weightsAll P e ds
 |[],h=>by simp at h
 |x::r,h=>by
  simp only [DataW.weightsAll,List.mem_append];rcases List.mem_cons.1 h with h|h
  ·subst h;exact .inl hm
  ·exact .inr (weightsAll_mem hm h)
instance:Inhabited Pz:=⟨⟨false,0,0,[]⟩⟩
theorem open_rowD {α:Type} [Inhabited α] {ec:α->List Value} {k:Nat} (hk:∀ x,(ec x).length=k) (hk0:0<k) {t e:TypeId} (ht:Tryz.prog.underlying t=some (.slice e)) (hc:Tryz.prog.cellsOf e=k) (Ok:α->DataW H->Prop)
  (el:∀ n cs y,cs.length=k->DataW.trod enc Tryz.prog w base spare held n e cs=some y->∃ x,cs=ec x∧Ok x y.1) {fuel:Nat} {cs:List Value} {x:DataW H×List MemPlace} (h:DataW.trod enc Tryz.prog w base spare held fuel t cs=some x) :
  ∃ (v:Value) (xs:List α) (P:PoolT),cs=[v]∧RowIn P ec k v xs∧(poolA P).ho w∧∀ y∈xs,∃ d,Ok y d∧∀ m∈d.weights Tryz.prog e,m∈x.1.weights Tryz.prog t:=by
 rcases open_slice ht h with ⟨hcs,_⟩|⟨a,len,cap,m,n,D,Pl,hcs,_,hl,hm,hmm,hxx,hx⟩
 ·exact ⟨_,[],[],hcs,RowIn.nil 0,poolA_nil w,by simp⟩
 ·have hml:len<=m:=(by rw [hmm];split <;> omega);rw [hc] at hx;by_cases h0:len=0
  ·subst h0;exact ⟨_,[],[],hcs,⟨some a,cap,rfl,by simp,fun h=>by simp at h⟩,poolA_nil w,by simp⟩
  obtain ⟨b,o,spot⟩:=a;have key:∀ i,i<len->∃ x:α,w.cells? base ((⟨b,o,spot⟩:Addr).add (i*k)) k=some (ec x)∧Ok x (D i):=fun i hi=>by
   obtain ⟨cs',h1,h2⟩:=hx i (by omega);obtain ⟨x,rfl,hok⟩:=el _ _ _ (World.cells?_some h1).2.1 h2;exact ⟨x,h1,hok⟩
  obtain ⟨f,hf2⟩:=choose_lt (α:=α) key;have hcell:∀ i,i<len->∀ j u,(ec (f i))[j]?=some u->w.cell? (((⟨b,o,spot⟩:Addr).add (i*k)).add j)=some u:=fun i hi j u hj=>by
   have hj4:j<k:=(by have:=(List.getElem?_eq_some_iff.1 hj).1;rwa [hk] at this);have:=(World.cells?_some (hf2 i hi).1).2.2 j hj4;rw [this,hj]
  have hl4:0<(ec (f 0)).length:=(by rw [hk];omega);have hspot:spot=none:=by
   have:=World.cell?_spot (hcell 0 (by omega) 0 _ (zg hl4));simpa [Addr.add] using this
  subst hspot;have hadd:∀ i j,((⟨b,o,none⟩:Addr).add (i*k)).add j=⟨b,o+(i*k+j),none⟩:=fun i j=>by rw [Addr.add_mid,Addr.add_mid];congr 1;omega
  have hblk:b<w.heap.size:=by
   have:=block_lt_of_cell (hcell 0 (by omega) 0 _ (zg hl4));rw [hadd] at this;exact this
  unfold maxLen at hm;have hlen:((List.range len).map f).length=len:=(by simp);refine ⟨_,(List.range len).map f,[(b,o,flatG ec ((List.range len).map f))],hcs,⟨some ⟨b,o,none⟩,cap,by rw [hlen],by rw [hlen];unfold maxLen;omega,fun _=>⟨b,o,rfl,by simp⟩⟩,?_,?_⟩
  ·rw [poolA_ho];intro y hy;simp only [List.mem_singleton] at hy;subst hy;refine ⟨hblk,fun jj u hj=>?_⟩;have hjl:=getElem_len hj;rw [flatG_len ec k hk,hlen] at hjl;have hi:jj/k<len:=(by rw [Nat.div_lt_iff_lt_mul hk0];exact hjl);have hjk:jj%k<k:=Nat.mod_lt _ hk0;have hget:((List.range len).map f)[jj/k]?=some (f (jj/k)):=(by rw [List.getElem?_map,List.getElem?_range hi];rfl);have hfl:=flatG_get ec k hk _ (jj/k) _ hget (jj%k) hjk;have hdm:jj/k*k+jj%k=jj:=(by have:=Nat.div_add_mod jj k;rw [Nat.mul_comm] at this;exact this);rw [hdm,hj] at hfl;have:=hcell (jj/k) hi (jj%k) u hfl.symm;rw [hadd,hdm] at this;exact this
  ·intro y hy;obtain ⟨i,hi,rfl⟩:=List.mem_map.1 hy;have hi2:=List.mem_range.1 hi;refine ⟨D i,(hf2 i hi2).2,fun m hm=>?_⟩;rw [hxx];simp only [DataW.weights,ht,List.mem_cons,List.mem_append];exact .inr (.inl (weightsAll_mem hm (List.mem_map.2 ⟨i,hi,rfl⟩)))
def PzOk (q:Pz) (d:DataW H):Prop:=(∀ x∈q.t,x<256)∧q.n<=9223372036854775807∧q.t.length∈d.weights Tryz.prog 106
theorem open_piece {n:Nat} {cs:List Value} {y:DataW H×List MemPlace} (hl:cs.length=4) (h:DataW.trod enc Tryz.prog w base spare held n 106 cs=some y):∃ q:Pz,cs=encR q∧PzOk q y.1:=by
 obtain ⟨a0,a1,a2,a3,rfl⟩:∃ a0 a1 a2 a3,cs=[a0,a1,a2,a3]:=by
  match cs,hl with
  |[a0,a1,a2,a3],_=>exact ⟨a0,a1,a2,a3,rfl⟩
 have c3:Tryz.prog.cellsOf 3=1:=(by kernel_rfl);have c4:Tryz.prog.cellsOf 4=1:=(by kernel_rfl);have c9:Tryz.prog.cellsOf 9=1:=(by kernel_rfl);obtain ⟨y0,y1,y2,y3,n2,hy,_,f0,f1,f2,f3⟩:=Joins.trod_struct4 Tryz.underlying106 h;simp only [c3,c4,c9,List.drop_zero,List.take_succ_cons,List.take_zero,List.drop_succ_cons] at f0 f1 f2 f3;obtain ⟨b0,e0,_⟩:=DataW.trod_bool Tryz.underlying4 f0;obtain ⟨z1,e1,_,w1⟩:=DataW.trod_int Tryz.underlying3 f1;obtain ⟨z2,e2,_,w2⟩:=DataW.trod_int Tryz.underlying3 f2;obtain ⟨s3,e3,hy3,_⟩:=DataW.trod_string Tryz.underlying9 f3;obtain ⟨L,rfl,hL⟩:=strB_of s3;simp only [List.cons.injEq,and_true] at e0 e1 e2 e3;subst e0 e1 e2 e3;refine ⟨⟨b0,z1,z2,L⟩,rfl,hL,(i64_wf w2).2,?_⟩;rw [hy];simp only [DataW.weights,Tryz.underlying106];simp only [List.toList_toArray,List.map_cons,List.map_nil,DataW.weightsEach,List.mem_append];refine .inr (.inr (.inr (.inl ?_)));rw [hy3];simp [DataW.weights,strB_dlen,strB_size]
theorem arg_pieces {r:Reach} {b0:Nat} {v:Value} {d:DataW H} {p:List MemPlace} (hv:Value.okWide Tryz.prog w r b0 22 v) (h:DataW.Trod enc Tryz.prog w base spare held 22 v d p) :
  ∃ (qs:List Pz) (P:PoolT),RowIn P encR 4 v qs∧(poolA P).ho w∧∀ q∈qs,(∀ x∈q.t,x<256)∧q.n<=9223372036854775807∧q.t.length∈d.weights Tryz.prog 22:=by
 obtain ⟨a,n,c,rfl⟩:=okWide_slice Tryz.underlying22 hv;obtain ⟨fuel,hf⟩:=h;have c5:Tryz.prog.cellsOf 106=4:=(by kernel_rfl);obtain ⟨v2,qs,P,e,h1,h2,h3⟩:=open_rowD (ec:=encR) encR_len (by omega) Tryz.underlying22 c5 PzOk (fun n cs y hl hy=>open_piece hl hy) hf;simp only [Value.cells,List.cons.injEq,and_true] at e;first|subst e|(have e:=(List.cons.inj e).1;subst e)
 exact ⟨qs,P,h1,h2,fun q hq=>by
  obtain ⟨d',⟨k1,k2,k3⟩,k4⟩:=h3 q hq;exact ⟨k1,k2,k4 _ k3⟩⟩
end
end
end Go.Proofs.YtgnppnokkdghcaaGreatDoor
