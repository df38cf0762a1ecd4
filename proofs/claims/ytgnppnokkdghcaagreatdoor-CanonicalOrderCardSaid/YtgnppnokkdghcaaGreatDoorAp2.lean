/-
  Part 10 of the texts behind the statements of this seat: walks and laws Hl, Hn, Gr, Gs, Ho, Gt, Hp, Dl, Hq. Conditions: as each states.
-/
import Derived.Test.YtgnppnokkdghcaaGreatDoorAp1
import Derived.ChangeOld
import Derived.Deep.Slices
import Derived.LaidEqlPtr
import Derived.LaidMore
import Derived.Laws.Rows
import Derived.OpenShut
import Derived.ProofKit
import Derived.SevenTiedAt
import Derived.ShutString
import Derived.Stop.Joined
import Derived.Test.YtgnppnokkdghcaaGreatDoorCards
import Derived.Test.YtgnppnokkdghcaaGreatDoorTie
set_option linter.unusedSimpArgs false
set_option linter.unusedVariables false
set_option maxRecDepth 100000
set_option maxHeartbeats 80000000
namespace Go.Proofs.YtgnppnokkdghcaaGreatDoor
section
open Go.RowKit Go.Maps
attribute [local go_sem] InGr strB_size
theorem asc_len:∀ {l:List Nat} {lo x:Nat},lo<=x->l.Pairwise (· < ·)->(∀ p∈l,lo<p∧p<=x)->l.length+lo<=x
 |[],lo,x,h,_,_=>by simpa using h
 |p::l,lo,x,h,hp,hr=>by
  have h1:=hr p (by simp);have hp2:=List.pairwise_cons.1 hp;have:=asc_len (l:=l) (lo:=p) (x:=x) h1.2 hp2.2 fun q hq=>⟨hp2.1 q hq,(hr q (by simp [hq])).2⟩
  simp only [List.length_cons];omega
def kys (K:List (Nat×Nat)):List Nat:=K.map (·.1)
theorem kys_in {K:List (Nat×Nat)} {x:Nat}:x∈kys K↔∃ y,(x,y)∈K:=by
 unfold kys;constructor
 ·intro h;obtain ⟨q,hq,e⟩:=List.mem_map.1 h;exact ⟨q.2,by rw [← e];exact hq⟩
 ·rintro ⟨y,h⟩;exact List.mem_map.2 ⟨_,h,rfl⟩
theorem kys_no {K:List (Nat×Nat)} {x:Nat} (h:∀ q∈K,q.1≠x):x ∉ kys K:=fun hx=>by
 obtain ⟨y,hy⟩:=kys_in.1 hx;exact h _ hy rfl
theorem kys_no' {K:List (Nat×Nat)} {x:Nat} (h:x ∉ kys K):∀ q∈K,q.1≠x:=fun q hq e=>h (kys_in.2 ⟨q.2,by rw [← e];exact hq⟩)
theorem kys_mono {K K':List (Nat×Nat)} (h:∀ q∈K,q∈K'):∀ c∈kys K,c∈kys K':=fun c hc=>by
 obtain ⟨y,hy⟩:=kys_in.1 hc;exact kys_in.2 ⟨y,h _ hy⟩
theorem ref_lt {S:Sto} (hS:S.Ok) {p c:Nat} (h1:1<=p) (h2:p<=S.list.length) (h:RefOf S p c):c<p∧(S.tr c).len<=(S.tr p).len:=by
 obtain ⟨hc,e,he,h3⟩:=h;obtain ⟨i,rfl⟩:∃ i,p=i+1:=⟨p-1,by omega⟩
 rw [Nat.add_sub_cancel] at he;cases rule_of hS he with
 |letter b hb hr hw ht=>rw [hr] at h3;simp at h3;omega
 |pair l r y z hl hr hy hz hx hw hs ht =>
  rw [hx] at h3;simp only at h3;have e2:(S.tr (i+1)).len=(S.tr (l+1)).len+(S.tr (r+1)).len:=(by rw [ht];rfl);rcases h3 with rfl|rfl <;> exact ⟨by omega,by omega⟩
 |pow l k y hl hy hk hx hw hs ht =>
  rw [hx] at h3;simp only at h3;have e2:(S.tr (i+1)).len=(S.tr (l+1)).len*k:=(by rw [ht];rfl);rcases h3 with rfl|rfl
  ·exact ⟨by omega,by rw [e2];exact Nat.le_mul_of_pos_right _ (by omega)⟩
  ·omega
theorem ref_back {S S':Sto} (hl:S.Le S') {p c:Nat} (h1:1<=p) (h2:p<=S.list.length) (h:RefOf S' p c):RefOf S p c:=by
 obtain ⟨hc,e,he,h3⟩:=h;refine ⟨hc,e,?_,h3⟩;obtain ⟨_,l,e2⟩:=hl;rw [e2,List.getElem?_append_left (by omega)] at he;exact he
structure OfFx (X:Px) (x n0:Nat) (K:List (Nat×Nat)) (X2:Px) (K2:List (Nat×Nat)) (st:List Nat):Prop where
 asc:st.Pairwise (· < ·)
 rng:∀ p∈st,1<=p∧p<=x∧(X.S.tr p).len<=300
 unk:∀ p∈st.tail,p ∉ kys K2
 top:x∈st∨x∈kys K2
 kn:KnOk X2.S K2
 ext:X.Ext X2
 ok:PxOk X2
 inc:∀ q∈K,q∈K2
 pot:X2.S.list.length+Pot X.S (kys K2) st<=X.S.list.length+costT (X.S.tr x)
 acc:X2.S.list.length+1200*unkN n0 (kys K2)<=X.S.list.length+1200*unkN n0 (kys K)
def stM (x:Nat) (Q st:List Nat):Nat:=3*unkN x Q+(match st with|p::_=>if p∈Q then 2 else 0|[]=>0)+(x+2-st.length)
section
variable {X X2 X3:Px} {x n0 p c y:Nat} {K K2:List (Nat×Nat)} {st r:List Nat}
theorem OfFx.len (h:OfFx X x n0 K X2 K2 st):st.length<=x:=by
 have:=asc_len (Nat.zero_le x) h.asc fun p hp=>⟨(h.rng p hp).1,(h.rng p hp).2.1⟩
 omega
theorem OfFx.start (hX:PxOk X) (h1:1<=x) (h2:x<=X.S.list.length) (ht:(X.S.tr x).len<=300) (hK:KnOk X.S K):OfFx X x n0 K X K [x] :=
 ⟨by simp,by simpa using ⟨h1,ht⟩,by simp,.inl (by simp),hK,.refl _,hX,fun q hq=>hq,by have:=pot_start hX.ok (Q:=kys K) h1 h2;omega,Nat.le_refl _⟩
theorem OfFx.pop (h:OfFx X x n0 K X2 K2 (p::r)) (hp:p∈kys K2):OfFx X x n0 K X2 K2 r∧stM x (kys K2) r<stM x (kys K2) (p::r):=by
 have hl:=h.len;refine ⟨⟨(List.pairwise_cons.1 h.asc).2,fun q hq=>h.rng q (by simp [hq]),fun q hq=>h.unk q (by simp only [List.tail_cons];exact List.mem_of_mem_tail hq),?_,h.kn,h.ext,h.ok,h.inc,by have:=h.pot;have:=pot_pop (S:=X.S) (Q:=kys K2) (r:=r) hp;omega,h.acc⟩,?_⟩
 ·rcases h.top with h1|h1
  ·rcases List.mem_cons.1 h1 with rfl|h1
   ·exact .inr hp
   ·exact .inl h1
  ·exact .inr h1
 ·unfold stM;have hr:(match r with|q::_=>if q∈kys K2 then 2 else 0|[]=>0)=0:=by
   cases r with
   |nil=>rfl
   |cons q r=>simp only;rw [if_neg (h.unk q (by simp))]
  rw [hr];simp only [List.length_cons] at hl ⊢;rw [if_pos hp];omega
theorem OfFx.push (hX:PxOk X) (h2:x<=X.S.list.length) (h:OfFx X x n0 K X2 K2 (p::r)) (hp:p ∉ kys K2) (hl:¬ (X.S.tr p).len<=256) (hr:RefOf X.S p c) (hc:c ∉ kys K2):OfFx X x n0 K X2 K2 (c::p::r)∧stM x (kys K2) (c::p::r)<stM x (kys K2) (p::r):=by
 have hlen:=h.len;have hpr:=h.rng p (by simp);have hlt:=ref_lt hX.ok hpr.1 (by omega) hr;have hps:=List.pairwise_cons.1 h.asc;refine ⟨⟨List.pairwise_cons.2 ⟨fun q hq=>?_,h.asc⟩,fun q hq=>?_,fun q hq=>?_,?_,h.kn,h.ext,h.ok,h.inc,?_,h.acc⟩,?_⟩
 ·rcases List.mem_cons.1 hq with rfl|hq
  ·exact hlt.1
  ·have:=hps.1 q hq;omega
 ·rcases List.mem_cons.1 hq with rfl|hq
  ·exact ⟨hr.1,by omega,by omega⟩
  ·exact h.rng q hq
 ·simp only [List.tail_cons] at hq;rcases List.mem_cons.1 hq with rfl|hq
  ·exact hp
  ·exact h.unk q (by simpa using hq)
 ·rcases h.top with h1|h1
  ·exact .inl (List.mem_cons_of_mem _ h1)
  ·exact .inr h1
 ·have h3:=h.pot;have h4:=pot_push hX.ok (r:=r) hp hl hr hc (by omega);omega
 ·unfold stM;simp only [List.length_cons] at hlen ⊢;rw [if_neg hp,if_neg hc];omega
theorem OfFx.learn (hX:PxOk X) (h2:x<=X.S.list.length) (hx0:x<=n0) (h:OfFx X x n0 K X2 K2 (p::r)) (hp:p ∉ kys K2) (hE:X2.Ext X3) (hO:PxOk X3) (hid:IdIs X3.S y ((X2.S.tr p).txt.map Tr.leaf)) (hsz:X3.S.list.length<=X2.S.list.length+ownT (X2.S.tr p)):OfFx X x n0 K X3 (K2++[(p,y)]) (p::r)∧stM x (kys (K2++[(p,y)])) (p::r)<stM x (kys K2) (p::r):=by
 have hlen:=h.len;have hpr:=h.rng p (by simp);have hinc:∀ c∈kys K2,c∈kys (K2++[(p,y)]):=kys_mono fun q hq=>List.mem_append.2 (.inl hq)
 have hin:p∈kys (K2++[(p,y)]):=kys_in.2 ⟨y,by simp⟩;have htr:X2.S.tr p=X.S.tr p:=h.ext.le.tr hX.ok hpr.1 (by omega);have htr3:X3.S.tr p=X2.S.tr p:=hE.le.tr h.ok.ok hpr.1 (by have:=h.ext.le.len;omega);rw [htr] at hsz;have hps:=List.pairwise_cons.1 h.asc;have hu1:=unkN_learn (n:=x) hinc hpr.2.1 hp hin;have hu2:=unkN_learn (n:=n0) hinc (by omega) hp hin;refine ⟨⟨h.asc,h.rng,fun q hq=>?_,?_,fun q hq=>?_,h.ext.trans hE,hO,fun q hq=>List.mem_append.2 (.inl (h.inc q hq)),?_,?_⟩,?_⟩
 ·simp only [List.tail_cons] at hq;intro hk;obtain ⟨z,hz⟩:=kys_in.1 hk;rcases List.mem_append.1 hz with hz|hz
  ·exact h.unk q (by simpa using hq) (kys_in.2 ⟨z,hz⟩)
  ·simp at hz;have:=hps.1 q hq;omega
 ·rcases h.top with h1|h1
  ·exact .inl h1
  ·exact .inr (hinc _ h1)
 ·rcases List.mem_append.1 hq with hq|hq
  ·exact h.kn.le h.ok.ok hE.le q hq
  ·simp at hq;subst hq;refine ⟨hpr.1,by have:=h.ext.le.len;have:=hE.le.len;simp only;omega,?_⟩;rw [htr3];exact hid
 ·have h3:=h.pot;have h4:=pot_learn (S:=X.S) (r:=r) hp hinc hin;omega
 ·have h3:=h.acc;have h5:=ownT_le hpr.2.2;omega
 ·unfold stM;simp only;rw [if_pos hin,if_neg hp];omega
end
def OfRelG (X:Px) (x n0:Nat) (K:List (Nat×Nat)) (N:List Nat) (w:World) (bm mp:Nat) (m:Nat) (v6:Value) (wr:World):Prop :=
 ∃ (X2:Px) (K2:List (Nat×Nat)) (st:List Nat),m=stM x (kys K2) st∧OfFx X x n0 K X2 K2 st∧St w N [pA X2,blk bm (.cells #[.pointer (some ⟨X.p,0,none⟩),.map (some mp)] 138),mapA Tryz.prog 26 mp (K2.map encK),rowsA encI 26 1 v6 st.reverse] wr
abbrev OfGPost (X:Px) (x n0:Nat) (K:List (Nat×Nat)) (bm mp:Nat) (N:List Nat) (w:World) (e:Ending) (w':World):Prop :=
 ∃ (X':Px) (K':List (Nat×Nat)) (y:Nat),e=.returned (.tuple #[.int .i64 y,.nilIface])∧X.Ext X'∧PxOk X'∧KnOk X'.S K'∧IdIs X'.S y ((X.S.tr x).txt.map Tr.leaf)∧(∀ q∈K,q∈K')∧X'.S.list.length<=X.S.list.length+costT (X.S.tr x)∧X'.S.list.length+1200*unkN n0 (kys K')<=X.S.list.length+1200*unkN n0 (kys K)∧St w N [pA X',blk bm (.cells #[.pointer (some ⟨X.p,0,none⟩),.map (some mp)] 138),mapA Tryz.prog 26 mp (K'.map encK)] w'
theorem of_g {X:Px} {bm mp x n0:Nat} {K:List (Nat×Nat)} (hX:PxOk X) (h1:1<=x) (h2:x<=X.S.list.length) (hx0:x<=n0) (hK:KnOk X.S K) (ht:(X.S.tr x).len<=300) (hroom:X.S.list.length+costT (X.S.tr x)+1300<X.S.most) (hmost:X.S.most<=1048576) (w:World) (h:((pA X).sep ((blk bm (.cells #[.pointer (some ⟨X.p,0,none⟩),.map (some mp)] 138)).sep (mapA Tryz.prog 26 mp (K.map encK)))).ho w) (hd:(((pA X).sep ((blk bm (.cells #[.pointer (some ⟨X.p,0,none⟩),.map (some mp)] 138)).sep (mapA Tryz.prog 26 mp (K.map encK)))).sep deA).ho w) :
  Calls Tryz.prog 35 #[.pointer (some ⟨bm,0,none⟩),.int .i64 (x:Nat)] w (OfGPost X x n0 K bm mp ((pA X).sep ((blk bm (.cells #[.pointer (some ⟨X.p,0,none⟩),.map (some mp)] 138)).sep (mapA Tryz.prog 26 mp (K.map encK)))).fp w):=by
 have H:=((St.one h).sep.pick (A:=(blk bm (.cells #[.pointer (some ⟨X.p,0,none⟩),.map (some mp)] 138)).sep (mapA Tryz.prog 26 mp (K.map encK))) pk).sep;rw [sep_ho] at hd;have HK:Ks w ((pA X).sep ((blk bm (.cells #[.pointer (some ⟨X.p,0,none⟩),.map (some mp)] 138)).sep (mapA Tryz.prog 26 mp (K.map encK)))).fp [deA]:=⟨by simpa using hd.2.1,by simpa using fun b hb hm=>hd.2.2 b hm hb⟩
 generalize ((pA X).sep ((blk bm (.cells #[.pointer (some ⟨X.p,0,none⟩),.map (some mp)] 138)).sep (mapA Tryz.prog 26 mp (K.map encK)))).fp=N at H HK ⊢;have HLN:Hid (∀ (X2:Px) (K2:List (Nat×Nat)) (p:Nat) (r:List Nat),OfFx X x n0 K X2 K2 (p::r)->p ∉ kys K2->∀ w,((pA X2).sep ((blk bm (.cells #[.pointer (some ⟨X.p,0,none⟩),.map (some mp)] 138)).sep (mapA Tryz.prog 26 mp (K2.map encK)))).ho w->(((pA X2).sep ((blk bm (.cells #[.pointer (some ⟨X.p,0,none⟩),.map (some mp)] 138)).sep (mapA Tryz.prog 26 mp (K2.map encK)))).sep deA).ho w->Calls Tryz.prog 71 #[.pointer (some ⟨bm,0,none⟩),.int .i64 (p:Nat)] w fun e w'=>∃ (X':Px) (K':List (Nat×Nat)) (c:Nat),e=.returned (.tuple #[.int .i64 c,.nilIface])∧((c=0∧∃ y,K'=K2++[(p,y)]∧IdIs X'.S y ((X2.S.tr p).txt.map Tr.leaf))∨(X'=X2∧K'=K2∧RefOf X2.S p c∧¬ (X2.S.tr p).len<=256∧∀ q∈K2,q.1≠c))∧X2.Ext X'∧PxOk X'∧X'.S.list.length<=X2.S.list.length+ownT (X2.S.tr p)∧St w ((pA X2).sep ((blk bm (.cells #[.pointer (some ⟨X.p,0,none⟩),.map (some mp)] 138)).sep (mapA Tryz.prog 26 mp (K2.map encK)))).fp [pA X',blk bm (.cells #[.pointer (some ⟨X.p,0,none⟩),.map (some mp)] 138),mapA Tryz.prog 26 mp (K'.map encK)] w'):=zh fun X2 K2 p r q1 q2 w h hd=>by
  have hpr:=q1.rng p (by simp);have htr:X2.S.tr p=X.S.tr p:=q1.ext.le.tr hX.ok hpr.1 (by omega);have hp:=q1.pot;have hm:=q1.ext.le.1;have hle:=q1.ext.le.len;have:=learn_g (X:=X2) (bm:=bm) (mp:=mp) (x:=p) (K:=K2) q1.ok hpr.1 (by omega) q1.kn (kys_no' q2) (by rw [htr];exact hpr.2.2) (by omega) (by omega) w (by rw [q1.ext.p];exact h) (by rw [q1.ext.p];exact hd);rw [q1.ext.p] at this;exact this
 have HS:Hid (∀ w,(pA X).ho w->Calls Tryz.prog 53 #[.pointer (some ⟨X.p,0,none⟩)] w fun e w'=>e=.returned (.pointer (some ⟨X.s,0,none⟩))∧w'=w):=zh fun w h=>store_p w h
 have HLE:Hid (∀ w,(pA X).ho w->Calls Tryz.prog 38 #[.pointer (some ⟨X.s,0,none⟩)] w fun e w'=>e=.returned (.int .i64 (X.S.list.length:Nat))∧w'=w):=zh fun w h=>len_c w (pA_sto h)
 obtain ⟨ln,hln⟩:∃ k,X.S.list.length=k:=⟨_,rfl⟩
 rw [hln] at HLE;have HIN:Hid (PxOk X∧1<=x∧x<=X.S.list.length∧x<=n0∧X.S.list.length<=1048576):=zh ⟨hX,h1,h2,hx0,by omega⟩;have HST:Hid (OfFx X x n0 K X K [x]):=zh (.start hX h1 h2 ht hK);have d1:decide ((x:Int)<0)=false:=(by simp);have d2:decide ((ln:Int)<(x:Int))=false:=(by simp;omega);have d2n:decide (ln<x)=false:=(by simp;omega);have d3:((x:Int)==0)=false:=(by simp;omega);have hxb:x<=1048576:=(by omega);clear hX h1 h2 hK ht hroom hmost h hd hln hx0;go_enter Tryz.func35,Tryz.ntmps35;go_wp2_with (first|refine sL ?_|(refine sS ?_;clear H;intros;rename_i H)|(go_at_call 53;with_reducible refine same (HS.out _ (H.get pk)) ?_)|(go_at_call 38;with_reducible refine same (HLE.out _ (H.get pk)) ?_)|((with_reducible refine isSlice ?_);refine AtSlice.one H rfl rfl rfl rfl rfl rfl rfl rfl rfl ?_;clear H;intro b9 _ H;simp only [Act.put,puA,puB,puC]));replace H:=blk_rows (enc:=encI) (k:=1) (n:=1) (c:=1) (xs:=[x]) encI_len (H.pick (A:=blk b9 (.cells #[.int .i64 (x:Nat)] 26)) pk) (Nat.le_refl _) (by simp [maxLen]) rfl rfl rfl;go_loopg [6] (stM x (kys K) [x]) (fun m v6 wr=>OfRelG X x n0 K N w bm mp m v6 wr);case atStart=>exact ⟨X,K,[x],rfl,HST.out,H.picks (.cons pk (.cons pk (.cons pk (.cons pk .nil))))⟩
 case round =>
  clear H;obtain ⟨X2,K2,st,rfl,hfx,H⟩:=hrel;have HFX:=zh hfx;cases st with
  |nil =>
   obtain ⟨ad,cp,rfl,_⟩:=rowsA_shape (H.get (A:=rowsA encI 26 1 _ ([]:List Nat).reverse) pk);have hx2:x∈kys K2:=by
    rcases hfx.top with h|h
    ·simp at h
    ·exact h
   obtain ⟨y,hy⟩:=kys_in.1 hx2;have hlk:=kn_in hfx.ok.ok (by omega) hfx.kn hy false _ (H.get (A:=mapA Tryz.prog 26 mp (K2.map encK)) pk);simp only [Bool.false_eq_true,if_false] at hlk;have HY:=zh hy;simp only [List.reverse_nil,List.length_nil] at H ⊢;clear hfx hx2 hy;go_wp2_with (first|refine sL ?_|(refine sS ?_;clear H;intros;rename_i H));go_ret2;have h3:=HFX.out;have h4:=HIN.out;obtain ⟨k1,k2,k3⟩:=h3.kn _ HY.out;simp only at k3;rw [h3.ext.le.tr h4.1.ok h4.2.1 h4.2.2.1] at k3;exact ⟨X2,K2,y,rfl,h3.ext,h3.ok,h3.kn,k3,h3.inc,by have:=h3.pot;omega,h3.acc,H.picks (.cons pk (.cons pk (.cons pk .nil)))⟩
  |cons p r =>
   have hpr:=hfx.rng p (by simp);have hlen:=hfx.len;rw [List.reverse_cons] at H;obtain ⟨k,hk⟩:∃ k,r.length=k:=⟨_,rfl⟩
   have hrl:(r.reverse++[p]).length=k+1:=(by simp [hk]);obtain ⟨g,cp,e1,hc1,hc2⟩:=rowsA_cases (H.get (A:=rowsA encI 26 1 _ (r.reverse++[p])) pk) (by simp);rw [hrl] at e1 hc1;subst e1;have hk9:k<=1048576:=(by simp only [List.length_cons,hk] at hlen;omega);have HC:Hid (∀ w,(rowsA encI 26 1 (.slice (some ⟨g,0,none⟩) (k+1) cp) (r.reverse++[p])).ho w->w.cell? ⟨g,k,none⟩=some (.int .i64 (p:Nat))):=zh fun w h=>by
    have:=rowsA_cell h encI_len (i:=k) (x:=p) (by rw [List.getElem?_append_right (by simp [hk])];simp [hk]) (j:=0) rfl;simpa using this
   have HRL:=zh (za hrl hk);rcases kn_dec p K2 with ⟨y,hy⟩|hno
   ·have hlk:=kn_in hfx.ok.ok (by omega) hfx.kn hy true _ (H.get (A:=mapA Tryz.prog 26 mp (K2.map encK)) pk);simp only [if_true] at hlk;have HPOP:=zh (hfx.pop (kys_in.2 ⟨y,hy⟩));clear hfx hy hrl hlen hpr;go_wp2_with (first|refine sL ?_|(refine sS ?_;clear H;intros;rename_i H));replace H:=(H.pick (A:=rowsA encI 26 1 (.slice (some ⟨g,0,none⟩) (k+1) cp) (r.reverse++[p])) pk).cut encI_len (n:=k) (by rw [List.length_reverse];exact hk);go_roundg (stM x (kys K2) r);case measure=>exact HPOP.out.2
    case rel=>exact ⟨X2,K2,r,rfl,HPOP.out.1,H.picks (.cons pk (.cons pk (.cons pk (.cons pk .nil))))⟩
   ·have hlk:=kn_out (x:=p) (by omega) hno true _ (H.get (A:=mapA Tryz.prog 26 mp (K2.map encK)) pk);simp only [if_true] at hlk;have HNO:=zh (kys_no hno);clear hfx hno hrl hlen;go_wp2_with (first|refine sL ?_|(refine sS ?_;clear H;intros;rename_i H));refine zm (HLN.out X2 K2 p r HFX.out HNO.out _ ((St.join3 (H.pick3 (A:=pA X2) (B:=blk bm (.cells #[.pointer (some ⟨X.p,0,none⟩),.map (some mp)] 138)) (C:=mapA Tryz.prog 26 mp (K2.map encK)) pk pk pk)).ho _ List.mem_cons_self) ((St.join3 (H.pick3 (A:=pA X2) (B:=blk bm (.cells #[.pointer (some ⟨X.p,0,none⟩),.map (some mp)] 138)) (C:=mapA Tryz.prog 26 mp (K2.map encK)) pk pk pk)).sepK HK .here pk)) ?_;rintro e9 wc ⟨X3,K3,c,rfl,y0,y1,y2,y3,hb⟩;replace H:=(St.join3 (H.pick3 (A:=pA X2) (B:=blk bm (.cells #[.pointer (some ⟨X.p,0,none⟩),.map (some mp)] 138)) (C:=mapA Tryz.prog 26 mp (K2.map encK)) pk pk pk)).call hb;clear hb hlk;simp only [List.cons_append,List.nil_append] at H;rcases y0 with ⟨rfl,y,rfl,hid⟩|⟨rfl,rfl,hrf,hlo,hnc⟩
    ·have HLR:=zh (HFX.out.learn HIN.out.1 HIN.out.2.2.1 HIN.out.2.2.2.1 HNO.out y1 y2 hid y3);clear y1 y2 y3 hid;go_wp2_with (first|refine sL ?_|(refine sS ?_;clear H;intros;rename_i H));go_roundg (stM x (kys (K2++[(p,y)])) (p::r));case measure=>exact HLR.out.2
     case rel=>exact ⟨X3,K2++[(p,y)],p::r,rfl,HLR.out.1,by rw [List.reverse_cons];exact H.picks (.cons pk (.cons pk (.cons pk (.cons pk .nil))))⟩
    ·have hpr2:=HFX.out.rng p (by simp);have htr:X3.S.tr p=X.S.tr p:=HFX.out.ext.le.tr HIN.out.1.ok hpr2.1 (by have:=HIN.out;omega);have hrf2:=ref_back HFX.out.ext.le hpr2.1 (by have:=HIN.out;omega) hrf;rw [htr] at hlo;have HPU:=zh (HFX.out.push HIN.out.1 HIN.out.2.2.1 HNO.out hlo hrf2 (kys_no hnc));have d9:((c:Int)==0)=false:=(by have:=hrf.1;simp;omega);have d9b:((c:Int) != 0)=true:=(by simp;have:=hrf.1;omega);clear y1 y2 y3 hrf hlo hnc htr hrf2 hpr2;go_wp2_with (first|refine sL ?_|(refine sS ?_;clear H;intros;rename_i H)|((with_reducible refine isSlice ?_);refine AtSlice.one H rfl rfl rfl rfl rfl rfl rfl rfl rfl ?_;clear H;intro b8 _ H;simp only [Act.put,puA,puB,puC])|((with_reducible refine isAppend ?_);refine AtAppend.go (enc:=encI) H rfl rfl rfl rfl rfl (by decide) (by decide) rfl (xs:=r.reverse++[p]) pk rfl (H.at pk) [c] rfl (by simp [flatG,encI]) encI_len encI_one (by simp;omega) ?_;clear H;intro ad9 cp9 _ H;simp only [Act.put,puA,puB,puC]));go_roundg (stM x (kys K3) (c::p::r));case measure=>exact HPU.out.2
     case rel =>
      rw [HRL.out.1] at H;exact ⟨X3,K3,c::p::r,rfl,HPU.out.1,by rw [List.reverse_cons,List.reverse_cons];exact H.picks (.cons pk (.cons pk (.cons pk (.cons pk .nil))))⟩
end
section
open Go.RowKit Go.Maps
theorem strB_append (a b:List Nat):strB a++strB b=strB (a++b):=by
 apply ByteArray.ext
 simp [strB,ByteArray.data_append]
attribute [local go_sem] InGr strB_size strB_append
structure Gz where
 kd:Int
 lt:Nat
 lf:Int
 rg:Int
 tm:Int
def encGz (q:Gz):List Value:=[.int .i64 q.kd,.int .u8 q.lt,.int .i64 q.lf,.int .i64 q.rg,.int .i64 q.tm]
theorem encGz_len (q:Gz):(encGz q).length=5:=rfl
def encW (l:List Nat):List Value:=[.string (strB l)]
theorem encW_len (l:List Nat):(encW l).length=1:=rfl
theorem encW_one (l:List Nat):∀ u∈encW l,u.oneCell'=true:=fun u hu=>by simp [encW] at hu;subst hu;rfl
def TxR (ts:List (List Nat)) (i:Nat) (q:Gz) (t:List Nat):Prop :=
 (q.kd=1∧q.lf=0∧q.rg=0∧q.tm=0∧t=[q.lt]) ∨
 (∃ (l r:Nat) (a b:List Nat),q.kd=2∧q.lt=0∧q.tm=0∧q.lf=(l+1:Nat)∧q.rg=(r+1:Nat)∧l<i∧r<i∧ts[l]?=some a∧ts[r]?=some b∧t=a++b) ∨
 (∃ (l k:Nat) (a:List Nat),q.kd=3∧q.lt=0∧q.rg=0∧q.lf=(l+1:Nat)∧q.tm=(k:Nat)∧l<i∧2<=k∧k<=300∧ts[l]?=some a∧t=(List.replicate k a).flatten)
structure TxP (g:List Gz) (ts:List (List Nat)) (i:Nat):Prop where
 len:ts.length=i
 at_:∀ j q,j<i->g[j]?=some q->∃ t,ts[j]?=some t∧t.length<=300∧t≠[]∧(∀ b∈t,b<256)∧TxR ts j q t
theorem TxR.app {ts:List (List Nat)} {i:Nat} {q:Gz} {t u:List Nat} (h:TxR ts i q t) (hi:i<=ts.length):TxR (ts++[u]) i q t:=by
 rcases h with h|⟨l,r,a,b,h1,h2,h3,h4,h5,h6,h7,h8,h9,h10⟩|⟨l,k,a,h1,h2,h3,h4,h5,h6,h7,h8,h9,h10⟩
 ·exact .inl h
 ·exact .inr (.inl ⟨l,r,a,b,h1,h2,h3,h4,h5,h6,h7,by rw [List.getElem?_append_left (by omega)];exact h8,by rw [List.getElem?_append_left (by omega)];exact h9,h10⟩)
 ·exact .inr (.inr ⟨l,k,a,h1,h2,h3,h4,h5,h6,h7,h8,by rw [List.getElem?_append_left (by omega)];exact h9,h10⟩)
theorem TxP.get {g:List Gz} {ts:List (List Nat)} {i l:Nat} {a:List Nat} (h:TxP g ts i) (hg:i<=g.length) (hl:ts[l]?=some a):a.length<=300∧a≠[]∧∀ b∈a,b<256:=by
 have hll:=gelt hl;rw [h.len] at hll;obtain ⟨t,h1,h2,h3,h4,_⟩:=h.at_ l _ hll (zg (by omega));rw [hl] at h1;injection h1 with h1
 subst h1;exact ⟨h2,h3,h4⟩
theorem TxP.step {g:List Gz} {ts:List (List Nat)} {i:Nat} {q:Gz} {t:List Nat} (h:TxP g ts i) (hb:∀ q∈g,q.lt<256) (hq:g[i]?=some q) (hr:TxR ts i q t) (ht:t.length<=300):TxP g (ts++[t]) (i+1):=by
 have hil:=gelt hq;have hq2:=hb q (List.mem_of_getElem? hq);refine ⟨by simp [h.len],fun j q' hj hq'=>?_⟩;rcases Nat.lt_or_ge j i with h1|h1
 ·obtain ⟨u,u1,u2,u3,u4,u5⟩:=h.at_ j q' h1 hq';exact ⟨u,by rw [List.getElem?_append_left (by rw [h.len];exact h1)];exact u1,u2,u3,u4,u5.app (by rw [h.len];omega)⟩
 ·obtain rfl:j=i:=by omega
  rw [hq] at hq';injection hq' with hq'
  subst hq';refine ⟨t,by rw [← h.len];simp,ht,?_,?_,hr.app (by rw [h.len];omega)⟩
  ·rcases hr with ⟨_,_,_,_,rfl⟩|⟨l,r,a,b,_,_,_,_,_,_,_,h8,_,rfl⟩|⟨l,k,a,_,_,_,_,_,_,h7,_,h9,rfl⟩
   ·simp
   ·have:=(h.get (by omega) h8).2.1;simp [this]
   ·have:=(h.get (by omega) h9).2.1;obtain ⟨k,rfl⟩:∃ m,k=m+1:=⟨k-1,by omega⟩
    simp [List.replicate_succ,this]
  ·rcases hr with ⟨_,_,_,_,rfl⟩|⟨l,r,a,b,_,_,_,_,_,_,_,h8,h9,rfl⟩|⟨l,k,a,_,_,_,_,_,_,_,_,h9,rfl⟩
   ·intro b hb';simp at hb';subst hb';exact hq2
   ·intro x hx;rcases List.mem_append.1 hx with hx|hx
    ·exact (h.get (by omega) h8).2.2 x hx
    ·exact (h.get (by omega) h9).2.2 x hx
   ·intro x hx;obtain ⟨u,hu,hx⟩:=List.mem_flatten.1 hx;rw [(List.mem_replicate.1 hu).2] at hx;exact (h.get (by omega) h9).2.2 x hx
section
variable {ops:Array Oper} {Q:Exit->Act->World->Prop} {rest:List Oper} {a:Act} {w:World} {o1:Oper} {dst:Option Tmp} {ty0:TypeId} {pos:String} {aft:Array Edge} {gd:Option (Nat×Bool)}
def AtBts (P:Program) (ops:Array Oper) (Q:Exit->Act->World->Prop) (o:Oper) (_ _:TypeId) (_:Operand) (rest:List Oper) (a:Act) (w:World):Prop:=wpList P ops Q (o::rest) a w
theorem isBts {x:Operand} (h:AtBts Tryz.prog ops Q ⟨dst,.convert 42 9 x,ty0,pos,aft,gd⟩ 42 9 x rest a w):wpList Tryz.prog ops Q (⟨dst,.convert 42 9 x,ty0,pos,aft,gd⟩::rest) a w:=h
theorem AtBts.go {t u:TypeId} {x:Operand} (hw:Region.wanted o1 (yielded ops a.tmps)=true) (ho:o1.op=.convert t u x) {v z:Value} (hx:a.eval x=v) (hc:(convert t u v).run Tryz.prog w=.ok z w)
  (h:wpList Tryz.prog ops Q rest (a.put o1.dst z) w):AtBts Tryz.prog ops Q o1 t u x rest a w :=
 wpList_step fun _ hK=>by
  rw [if_pos hw];unfold Oper.wp execOp;simp only [ho,hx,Sem.run_bind,hc,Result.andThen_ok,Sem.run_pure];exact hK _ _ h
end
abbrev TxPost (g:List Gz) (w:World) (e:Ending) (w':World):Prop :=
 ∃ (v:Value) (ok:Bool) (ts:List (List Nat)),e=.returned (.tuple #[v,.bool ok])∧(ok=true->TxP g ts g.length)∧St w [] [rowsA encW 9 1 v ts] w'
def TxRel (g:List Gz) (w:World) (n m:Nat) (v6 v7:Value) (wr:World):Prop :=
 ∃ (i:Nat) (ts:List (List Nat)),m=n-i∧i<=n∧v7=.int .i64 i∧TxP g ts i∧St w [] [rowsA encW 9 1 v6 ts] wr
def TkRel (a:List Nat) (k m:Nat) (v10 v11:Value):Prop:=m<=k∧v10=.string (strB (List.replicate (k-m) a).flatten)∧v11=.int .i64 (k-m:Nat)
theorem texts_c {P:PoolT} {g:List Gz} {v:Value} (hr:RowIn P encGz 5 v g) (hb:∀ q∈g,q.lt<256) (hn40:g.length<=40) (w:World) (hp:(poolA P).ho w) :
  Calls Tryz.prog 32 #[v,.int .i64 300] w (TxPost g w):=by
 have H:=St.nil w [];have HK:=Ks.one hp;obtain ⟨n,hnn⟩:∃ n,g.length=n:=⟨_,rfl⟩
 obtain ⟨ad,c,rfl,hmx9⟩:=hr.shape;have HCL:Hid (∀ (i:Nat) (q:Gz),g[i]?=some q->∃ b o,ad=some ⟨b,o,none⟩∧∀ w,(poolA P).ho w->w.rangeAt b (o+i*5) [.int .i64 q.kd,.int .u8 q.lt,.int .i64 q.lf,.int .i64 q.rg,.int .i64 q.tm]):=zh fun i q hq=>by
  obtain ⟨ad',c',e1,_,h3⟩:=id hr;obtain ⟨b,o,rfl,_⟩:=h3 (by have:=gelt hq;omega);injection e1 with e1 _ _
  subst e1;exact ⟨b,o,rfl,fun w h=>hr.rng h encGz_len hq⟩
 rw [hnn] at hn40 ⊢;have HIN:Hid (g.length=n∧n<=40∧∀ q∈g,q.lt<256):=zh ⟨hnn,hn40,hb⟩;have HCV:Hid (∀ (b lt:Nat) (w:World),lt<256->(blk b (.cells #[.int .u8 lt] 5)).ho w->(convert 42 9 (.slice (some ⟨b,0,none⟩) 1 1)).run Tryz.prog w=.ok (.string (strB [lt])) w):=zh fun b lt w hlt h=>by
  refine bytes_conv (l:=[lt]) (fun x hx=>by simp at hx;omega) ?_;exact (blk_rows (enc:=encT) (k:=1) (n:=1) (c:=1) (xs:=[lt]) encT_len (St.one h) (Nat.le_refl _) (by simp [maxLen]) rfl rfl rfl).ho _ List.mem_cons_self
 clear hr hnn hp hmx9 hb;go_enter Tryz.func32,Tryz.ntmps32;go_wp2_with (first|refine sL ?_|(refine sS ?_;clear H;intros;rename_i H));go_loopg [6,7] n (fun m v6 v7 wr=>TxRel g w n m v6 v7 wr);case atStart=>exact ⟨0,[],rfl,Nat.zero_le _,rfl,⟨rfl,fun j q hj=>absurd hj (Nat.not_lt_zero _)⟩,(H.picks .nil).empty (A:=rowsA encW 9 1 (.slice none 0 0) []) (rowsA_nil _) (by rw [rowsA_fp];rfl)⟩
 case round =>
  clear H;obtain ⟨i,ts,rfl,hik,rfl,hrel,H⟩:=hrel;have HRL:=zh hrel;obtain ⟨ad2,c2,rfl,_⟩:=rowsA_shape (H.get (A:=rowsA encW 9 1 _ ts) pk);by_cases hlt:i<n
  ·obtain ⟨q,hq⟩:∃ a,g[i]?=some a:=⟨_,zg (by rw [HIN.out.1];exact hlt)⟩
   obtain ⟨gb,o,rfl,hrng⟩:=HCL.out i q hq;have d90:decide ((i:Int)<(n:Int))=true:=(by simp;omega);have d90n:decide (i<n)=true:=(by simp;omega);have hil:i<n:=hlt;have HRX:=zh hrng;have HST:Hid (∀ t,TxR ts i q t->t.length<=300->TxP g (ts++[t]) (i+1)):=zh fun t h1 h2=>HRL.out.step HIN.out.2.2 hq h1 h2
   have HTS:Hid (ts.length=i):=zh hrel.len;have hti:ts.length<=40:=(by rw [hrel.len];omega);have HLT:Hid (q.lt<256):=zh (HIN.out.2.2 q (List.mem_of_getElem? hq));have HRW:Hid (∀ (l:Nat) (a:List Nat),ts[l]?=some a->∃ g2,ad2=some ⟨g2,0,none⟩∧a.length<=300∧∀ w,(rowsA encW 9 1 (.slice ad2 ts.length c2) ts).ho w->w.cell? ⟨g2,l,none⟩=some (.string (strB a))):=zh fun l a hl=>by
    obtain ⟨g2,c8,e1,_⟩:=rowsA_cases (H.get (A:=rowsA encW 9 1 (.slice ad2 ts.length c2) ts) pk) (by have:=gelt hl;omega);injection e1 with e1 _ _
    refine ⟨g2,e1,(HRL.out.get (by rw [HIN.out.1];exact hik) hl).1,fun w h=>?_⟩;rw [e1] at h;have:=rowsA_cell h encW_len hl (j:=0) rfl;simpa using this
   obtain ⟨kd,lt,lf,rg,tm⟩:=q;simp only at HRX HST HLT;clear hrel hq hrng;by_cases k1:kd=1
   ·subst k1;replace HCV:=zh fun b w h=>HCV.out b lt w HLT.out h
    rcases Bool.eq_false_or_eq_true (lf != 0) with d1|d1
    ·go_wp2_with (first|go_big_skip|refine sL ?_|(refine sS ?_;clear H;intros;rename_i H)|((with_reducible refine isLoad ?_);refine AtLoad.rngT rfl rfl rfl (HRX.out _ (H.known HK pk)) rfl ?_;simp only [Act.put,puA,puB,puC]));go_ret2;exact ⟨_,_,[],rfl,(fun h=>by cases h),(H.picks .nil).empty (A:=rowsA encW 9 1 (.slice none 0 0) []) (rowsA_nil _) (by rw [rowsA_fp];rfl)⟩
    rcases Bool.eq_false_or_eq_true (rg != 0) with d2|d2
    ·go_wp2_with (first|go_big_skip|refine sL ?_|(refine sS ?_;clear H;intros;rename_i H)|((with_reducible refine isLoad ?_);refine AtLoad.rngT rfl rfl rfl (HRX.out _ (H.known HK pk)) rfl ?_;simp only [Act.put,puA,puB,puC]));go_ret2;exact ⟨_,_,[],rfl,(fun h=>by cases h),(H.picks .nil).empty (A:=rowsA encW 9 1 (.slice none 0 0) []) (rowsA_nil _) (by rw [rowsA_fp];rfl)⟩
    rcases Bool.eq_false_or_eq_true (tm != 0) with d3|d3
    ·go_wp2_with (first|go_big_skip|refine sL ?_|(refine sS ?_;clear H;intros;rename_i H)|((with_reducible refine isLoad ?_);refine AtLoad.rngT rfl rfl rfl (HRX.out _ (H.known HK pk)) rfl ?_;simp only [Act.put,puA,puB,puC]));go_ret2;exact ⟨_,_,[],rfl,(fun h=>by cases h),(H.picks .nil).empty (A:=rowsA encW 9 1 (.slice none 0 0) []) (rowsA_nil _) (by rw [rowsA_fp];rfl)⟩
    have hf:=d1;have hg:=d2;have ht:=d3;simp at hf hg ht;subst hf hg ht;go_wp2_with (first|go_big_skip|refine sL ?_|(refine sS ?_;clear H;intros;rename_i H)|((with_reducible refine isLoad ?_);refine AtLoad.rngT rfl rfl rfl (HRX.out _ (H.known HK pk)) rfl ?_;simp only [Act.put,puA,puB,puC])|((with_reducible refine isSlice ?_);refine AtSlice.one H rfl rfl rfl rfl rfl rfl rfl rfl rfl ?_;clear H;intro b7 _ H;simp only [Act.put,puA,puB,puC])|((with_reducible refine isBts ?_);refine AtBts.go rfl rfl rfl (HCV.out b7 _ (H.get pk)) ?_;simp only [Act.put,puA,puB,puC])|((with_reducible refine isAppend ?_);refine AtAppend.go (enc:=encW) H rfl rfl rfl rfl rfl (by decide) (by decide) rfl (xs:=ts) pk rfl (H.at pk) [[lt]] rfl (by simp [flatG,encW]) encW_len encW_one (by simp;omega) ?_;clear H;intro ad9 cp9 _ H;simp only [Act.put,puA,puB,puC]));go_roundg (n-(i+1));case measure=>omega
    case rel=>exact ⟨i+1,ts++[[lt]],rfl,by omega,by go_num,HST.out [lt] (.inl ⟨rfl,rfl,rfl,rfl,rfl⟩) (by simp),H.picks (.cons pk .nil)⟩
   by_cases k2:kd=2
   ·subst k2;rcases Bool.eq_false_or_eq_true (((lt:Nat):Int) != 0) with d1|d1
    ·go_wp2_with (first|go_big_skip|refine sL ?_|(refine sS ?_;clear H;intros;rename_i H)|((with_reducible refine isLoad ?_);refine AtLoad.rngT rfl rfl rfl (HRX.out _ (H.known HK pk)) rfl ?_;simp only [Act.put,puA,puB,puC]));go_ret2;exact ⟨_,_,[],rfl,(fun h=>by cases h),(H.picks .nil).empty (A:=rowsA encW 9 1 (.slice none 0 0) []) (rowsA_nil _) (by rw [rowsA_fp];rfl)⟩
    rcases Bool.eq_false_or_eq_true (tm != 0) with d2|d2
    ·go_wp2_with (first|go_big_skip|refine sL ?_|(refine sS ?_;clear H;intros;rename_i H)|((with_reducible refine isLoad ?_);refine AtLoad.rngT rfl rfl rfl (HRX.out _ (H.known HK pk)) rfl ?_;simp only [Act.put,puA,puB,puC]));go_ret2;exact ⟨_,_,[],rfl,(fun h=>by cases h),(H.picks .nil).empty (A:=rowsA encW 9 1 (.slice none 0 0) []) (rowsA_nil _) (by rw [rowsA_fp];rfl)⟩
    rcases Bool.eq_false_or_eq_true (decide (lf<1)) with d3|d3
    ·go_wp2_with (first|go_big_skip|refine sL ?_|(refine sS ?_;clear H;intros;rename_i H)|((with_reducible refine isLoad ?_);refine AtLoad.rngT rfl rfl rfl (HRX.out _ (H.known HK pk)) rfl ?_;simp only [Act.put,puA,puB,puC]));go_ret2;exact ⟨_,_,[],rfl,(fun h=>by cases h),(H.picks .nil).empty (A:=rowsA encW 9 1 (.slice none 0 0) []) (rowsA_nil _) (by rw [rowsA_fp];rfl)⟩
    rcases Bool.eq_false_or_eq_true (decide (rg<1)) with d4|d4
    ·go_wp2_with (first|go_big_skip|refine sL ?_|(refine sS ?_;clear H;intros;rename_i H)|((with_reducible refine isLoad ?_);refine AtLoad.rngT rfl rfl rfl (HRX.out _ (H.known HK pk)) rfl ?_;simp only [Act.put,puA,puB,puC]));go_ret2;exact ⟨_,_,[],rfl,(fun h=>by cases h),(H.picks .nil).empty (A:=rowsA encW 9 1 (.slice none 0 0) []) (rowsA_nil _) (by rw [rowsA_fp];rfl)⟩
    rcases Bool.eq_false_or_eq_true (decide ((i:Int)+1<=lf)) with d5|d5
    ·go_wp2_with (first|go_big_skip|refine sL ?_|(refine sS ?_;clear H;intros;rename_i H)|((with_reducible refine isLoad ?_);refine AtLoad.rngT rfl rfl rfl (HRX.out _ (H.known HK pk)) rfl ?_;simp only [Act.put,puA,puB,puC]));go_ret2;exact ⟨_,_,[],rfl,(fun h=>by cases h),(H.picks .nil).empty (A:=rowsA encW 9 1 (.slice none 0 0) []) (rowsA_nil _) (by rw [rowsA_fp];rfl)⟩
    rcases Bool.eq_false_or_eq_true (decide ((i:Int)+1<=rg)) with d6|d6
    ·go_wp2_with (first|go_big_skip|refine sL ?_|(refine sS ?_;clear H;intros;rename_i H)|((with_reducible refine isLoad ?_);refine AtLoad.rngT rfl rfl rfl (HRX.out _ (H.known HK pk)) rfl ?_;simp only [Act.put,puA,puB,puC]));go_ret2;exact ⟨_,_,[],rfl,(fun h=>by cases h),(H.picks .nil).empty (A:=rowsA encW 9 1 (.slice none 0 0) []) (rowsA_nil _) (by rw [rowsA_fp];rfl)⟩
    have q1:lt=0:=(by simpa using d1);have q2:tm=0:=(by simpa using d2);subst q1 q2;obtain ⟨l,hlf⟩:∃ l:Nat,lf=(l+1:Nat):=⟨(lf-1).toNat,by simp at d3;omega⟩
    have hl:l<i:=(by simp at d5;omega);obtain ⟨a,ha⟩:∃ a,ts[l]?=some a:=⟨_,zg (by rw [HTS.out];exact hl)⟩
    obtain ⟨g2,rfl,ha3,hca⟩:=HRW.out l a ha;have HCA:=zh hca;have i1:lf-1=(l:Nat):=(by omega);have hlts:l<ts.length:=(by rw [HTS.out];exact hl);obtain ⟨r,hrg⟩:∃ r:Nat,rg=(r+1:Nat):=⟨(rg-1).toNat,by simp at d4;omega⟩
    have hr:r<i:=(by simp at d6;omega);obtain ⟨b,hb⟩:∃ a,ts[r]?=some a:=⟨_,zg (by rw [HTS.out];exact hr)⟩
    obtain ⟨g3,e3,hb3,hcb⟩:=HRW.out r b hb;injection e3 with e3
    injection e3 with e3
    subst e3;have HCB:=zh hcb;have i2:rg-1=(r:Nat):=(by omega);have hrts:r<ts.length:=(by rw [HTS.out];exact hr);have HTR:Hid (TxR ts i ⟨2,0,lf,rg,0⟩ (a++b)):=zh (.inr (.inl ⟨l,r,a,b,rfl,rfl,rfl,hlf,hrg,hl,hr,ha,hb,rfl⟩));clear hca hcb ha hb HRW hlf hrg;go_wp2_with (first|go_big_skip|refine sL ?_|(refine sS ?_;clear H;intros;rename_i H)|((with_reducible refine isLoad ?_);refine AtLoad.rngT rfl rfl rfl (HRX.out _ (H.known HK pk)) rfl ?_;simp only [Act.put,puA,puB,puC]));rcases Bool.eq_false_or_eq_true (decide ((300:Int)<(a.length:Int)+(b.length:Int))) with e9|e9
    ·skip
     refine wp_region_h H 14 [] [] (by kernel_rfl) (by kernel_rfl) ?_;apply Exists.intro;refine ⟨fun w1 hw1 HX=>?_,fun bs wr Hr=>?_⟩
     ·refine sG ?_;repeat (first|go_big_quiet_skip|refine sQ ?_|fail|go_big_quiet_step (fail))
      exact wpQuiet_nil rfl
     clear H;have H:=Hr;clear Hr;replace H:=sH H;refine sT ?_;go_wp2_with (first|go_big_skip|refine sL ?_|(refine sS ?_;clear H;intros;rename_i H)|((with_reducible refine isLoad ?_);refine AtLoad.rngT rfl rfl rfl (HRX.out _ (H.known HK pk)) rfl ?_;simp only [Act.put,puA,puB,puC]));go_ret2;exact ⟨_,_,[],rfl,(fun h=>by cases h),(H.picks .nil).empty (A:=rowsA encW 9 1 (.slice none 0 0) []) (rowsA_nil _) (by rw [rowsA_fp];rfl)⟩
    have hab:(a++b).length<=300:=(by simp at e9;simp;omega);have e9n:decide (300<a.length+b.length)=false:=(by simp at hab;simp;omega);refine wp_region_h H 14 [] [] (by kernel_rfl) (by kernel_rfl) ?_;apply Exists.intro;refine ⟨fun w1 hw1 HX=>?_,fun bs wr Hr=>?_⟩
    ·refine sG ?_;repeat (first|go_big_quiet_skip|refine sQ ?_|fail|go_big_quiet_step (fail))
     exact wpQuiet_nil rfl
    clear H;have H:=Hr;clear Hr;replace H:=sH H;refine sT ?_;go_wp2_with (first|go_big_skip|refine sL ?_|(refine sS ?_;clear H;intros;rename_i H)|((with_reducible refine isLoad ?_);refine AtLoad.rngT rfl rfl rfl (HRX.out _ (H.known HK pk)) rfl ?_;simp only [Act.put,puA,puB,puC])|((with_reducible refine isSlice ?_);refine AtSlice.one H rfl rfl rfl rfl rfl rfl rfl rfl rfl ?_;clear H;intro b7 _ H;simp only [Act.put,puA,puB,puC])|((with_reducible refine isAppend ?_);refine AtAppend.go (enc:=encW) H rfl rfl rfl rfl rfl (by decide) (by decide) rfl (xs:=ts) pk rfl (H.at pk) [a++b] rfl (by simp [flatG,encW]) encW_len encW_one (by simp;omega) ?_;clear H;intro ad9 cp9 _ H;simp only [Act.put,puA,puB,puC]));go_roundg (n-(i+1));case measure=>omega
    case rel=>exact ⟨i+1,ts++[a++b],rfl,by omega,by go_num,HST.out _ HTR.out hab,H.picks (.cons pk .nil)⟩
   by_cases k3:kd=3
   ·subst k3;rcases Bool.eq_false_or_eq_true (((lt:Nat):Int) != 0) with d1|d1
    ·go_wp2_with (first|go_big_skip|refine sL ?_|(refine sS ?_;clear H;intros;rename_i H)|((with_reducible refine isLoad ?_);refine AtLoad.rngT rfl rfl rfl (HRX.out _ (H.known HK pk)) rfl ?_;simp only [Act.put,puA,puB,puC]));go_ret2;exact ⟨_,_,[],rfl,(fun h=>by cases h),(H.picks .nil).empty (A:=rowsA encW 9 1 (.slice none 0 0) []) (rowsA_nil _) (by rw [rowsA_fp];rfl)⟩
    rcases Bool.eq_false_or_eq_true (rg != 0) with d2|d2
    ·go_wp2_with (first|go_big_skip|refine sL ?_|(refine sS ?_;clear H;intros;rename_i H)|((with_reducible refine isLoad ?_);refine AtLoad.rngT rfl rfl rfl (HRX.out _ (H.known HK pk)) rfl ?_;simp only [Act.put,puA,puB,puC]));go_ret2;exact ⟨_,_,[],rfl,(fun h=>by cases h),(H.picks .nil).empty (A:=rowsA encW 9 1 (.slice none 0 0) []) (rowsA_nil _) (by rw [rowsA_fp];rfl)⟩
    rcases Bool.eq_false_or_eq_true (decide (lf<1)) with d3|d3
    ·go_wp2_with (first|go_big_skip|refine sL ?_|(refine sS ?_;clear H;intros;rename_i H)|((with_reducible refine isLoad ?_);refine AtLoad.rngT rfl rfl rfl (HRX.out _ (H.known HK pk)) rfl ?_;simp only [Act.put,puA,puB,puC]));go_ret2;exact ⟨_,_,[],rfl,(fun h=>by cases h),(H.picks .nil).empty (A:=rowsA encW 9 1 (.slice none 0 0) []) (rowsA_nil _) (by rw [rowsA_fp];rfl)⟩
    rcases Bool.eq_false_or_eq_true (decide ((i:Int)+1<=lf)) with d4|d4
    ·go_wp2_with (first|go_big_skip|refine sL ?_|(refine sS ?_;clear H;intros;rename_i H)|((with_reducible refine isLoad ?_);refine AtLoad.rngT rfl rfl rfl (HRX.out _ (H.known HK pk)) rfl ?_;simp only [Act.put,puA,puB,puC]));go_ret2;exact ⟨_,_,[],rfl,(fun h=>by cases h),(H.picks .nil).empty (A:=rowsA encW 9 1 (.slice none 0 0) []) (rowsA_nil _) (by rw [rowsA_fp];rfl)⟩
    rcases Bool.eq_false_or_eq_true (decide (tm<2)) with d5|d5
    ·go_wp2_with (first|go_big_skip|refine sL ?_|(refine sS ?_;clear H;intros;rename_i H)|((with_reducible refine isLoad ?_);refine AtLoad.rngT rfl rfl rfl (HRX.out _ (H.known HK pk)) rfl ?_;simp only [Act.put,puA,puB,puC]));go_ret2;exact ⟨_,_,[],rfl,(fun h=>by cases h),(H.picks .nil).empty (A:=rowsA encW 9 1 (.slice none 0 0) []) (rowsA_nil _) (by rw [rowsA_fp];rfl)⟩
    rcases Bool.eq_false_or_eq_true (decide ((300:Int)<tm)) with d6|d6
    ·go_wp2_with (first|go_big_skip|refine sL ?_|(refine sS ?_;clear H;intros;rename_i H)|((with_reducible refine isLoad ?_);refine AtLoad.rngT rfl rfl rfl (HRX.out _ (H.known HK pk)) rfl ?_;simp only [Act.put,puA,puB,puC]));go_ret2;exact ⟨_,_,[],rfl,(fun h=>by cases h),(H.picks .nil).empty (A:=rowsA encW 9 1 (.slice none 0 0) []) (rowsA_nil _) (by rw [rowsA_fp];rfl)⟩
    have q1:lt=0:=(by simpa using d1);have q2:rg=0:=(by simpa using d2);subst q1 q2;obtain ⟨l,hlf⟩:∃ l:Nat,lf=(l+1:Nat):=⟨(lf-1).toNat,by simp at d3;omega⟩
    have hl:l<i:=(by simp at d4;omega);obtain ⟨a,ha⟩:∃ a,ts[l]?=some a:=⟨_,zg (by rw [HTS.out];exact hl)⟩
    obtain ⟨g2,rfl,ha3,hca⟩:=HRW.out l a ha;have HCA:=zh hca;have i1:lf-1=(l:Nat):=(by omega);have hlts:l<ts.length:=(by rw [HTS.out];exact hl);obtain ⟨k,htm⟩:∃ k:Nat,tm=(k:Nat):=⟨tm.toNat,by simp at d5;omega⟩
    have hk2:2<=k:=(by simp at d5;omega);have hk3:k<=300:=(by simp at d6;omega);obtain ⟨s,hs⟩:∃ s:Nat,(a.length:Int)*tm=(s:Nat):=⟨a.length*k,by rw [htm,Int.natCast_mul]⟩
    have hsk:a.length*k=s:=(by rw [htm,← Int.natCast_mul] at hs;omega);have hsb:s<=90000:=(by rw [← hsk];exact Nat.mul_le_mul ha3 hk3);obtain ⟨t,ht⟩:∃ t,(List.replicate k a).flatten=t:=⟨_,rfl⟩
    have htl:t.length=s:=(by rw [← ht,← hsk,List.length_flatten,List.map_replicate,List.sum_replicate_nat,Nat.mul_comm]);have HTR:Hid (TxR ts i ⟨3,0,lf,0,tm⟩ t):=zh (.inr (.inr ⟨l,k,a,rfl,rfl,rfl,hlf,htm,hl,hk2,hk3,ha,ht.symm⟩));have HTM:Hid (tm=(k:Nat)∧(List.replicate k a).flatten=t∧t.length=s):=zh ⟨htm,ht,htl⟩;rcases Bool.eq_false_or_eq_true (decide ((300:Int)<(s:Nat))) with e9|e9
    ·clear hca ha HRW hlf htm hsk ht htl;go_wp2_with (first|go_big_skip|refine sL ?_|(refine sS ?_;clear H;intros;rename_i H)|((with_reducible refine isLoad ?_);refine AtLoad.rngT rfl rfl rfl (HRX.out _ (H.known HK pk)) rfl ?_;simp only [Act.put,puA,puB,puC]));refine wp_region_h H 12 [] [] (by kernel_rfl) (by kernel_rfl) ?_;apply Exists.intro;refine ⟨fun w1 hw1 HX=>?_,fun bs wr Hr=>?_⟩
     ·refine sG ?_;repeat (first|go_big_quiet_skip|refine sQ ?_|fail|go_big_quiet_step (fail))
      exact wpQuiet_nil rfl
     clear H;have H:=Hr;clear Hr;replace H:=sH H;refine sT ?_;go_wp2_with (first|go_big_skip|refine sL ?_|(refine sS ?_;clear H;intros;rename_i H)|((with_reducible refine isLoad ?_);refine AtLoad.rngT rfl rfl rfl (HRX.out _ (H.known HK pk)) rfl ?_;simp only [Act.put,puA,puB,puC]));go_ret2;exact ⟨_,_,[],rfl,(fun h=>by cases h),(H.picks .nil).empty (A:=rowsA encW 9 1 (.slice none 0 0) []) (rowsA_nil _) (by rw [rowsA_fp];rfl)⟩
    have hs3:s<=300:=(by simp at e9;omega);have e9n:decide (300<s)=false:=(by simp;omega);clear hca ha HRW hlf htm hsk ht htl;go_wp2_with (first|go_big_skip|refine sL ?_|(refine sS ?_;clear H;intros;rename_i H)|((with_reducible refine isLoad ?_);refine AtLoad.rngT rfl rfl rfl (HRX.out _ (H.known HK pk)) rfl ?_;simp only [Act.put,puA,puB,puC]));refine wp_region_h H 12 [] [] (by kernel_rfl) (by kernel_rfl) ?_;apply Exists.intro;refine ⟨fun w1 hw1 HX=>?_,fun bs wr Hr=>?_⟩
    ·refine sG ?_;repeat (first|go_big_quiet_skip|refine sQ ?_|fail|go_big_quiet_step (fail))
     exact wpQuiet_nil rfl
    clear H;have H:=Hr;clear Hr;replace H:=sH H;refine sT ?_;go_wp2_with (first|go_big_skip|refine sL ?_|(refine sS ?_;clear H;intros;rename_i H)|((with_reducible refine isLoad ?_);refine AtLoad.rngT rfl rfl rfl (HRX.out _ (H.known HK pk)) rfl ?_;simp only [Act.put,puA,puB,puC]));rename_i b8 _ _ _ _;replace H:St w [] [blk b8 (.cells #[.int .i64 3,.int .u8 (0:Nat),.int .i64 lf,.int .i64 0,.int .i64 tm] 131),rowsA encW 9 1 (.slice (some ⟨g2,0,none⟩) ts.length c2) ts] _:=H.picks (.cons (A:=blk b8 (.cells #[.int .i64 3,.int .u8 (0:Nat),.int .i64 lf,.int .i64 0,.int .i64 tm] 131)) pk (.cons (A:=rowsA encW 9 1 (.slice (some ⟨g2,0,none⟩) ts.length c2) ts) pk .nil));clear hs;go_loopg [10,11] k (fun m v10 v11 wr=>TkRel a k m v10 v11∧St w [] [blk b8 (.cells #[.int .i64 3,.int .u8 (0:Nat),.int .i64 lf,.int .i64 0,.int .i64 tm] 131),rowsA encW 9 1 (.slice (some ⟨g2,0,none⟩) ts.length c2) ts] wr);case atStart=>exact ⟨⟨Nat.le_refl _,by rw [Nat.sub_self];exact congrArg Value.string (by rw [List.replicate_zero,List.flatten_nil];exact strB_nil.symm),by rw [Nat.sub_self];rfl⟩,H⟩
    case round =>
     clear H;obtain ⟨⟨hm,rfl,rfl⟩,H⟩:=hrel;obtain ⟨j,hj⟩:∃ j,k-gk=j:=⟨_,rfl⟩
     rw [hj];rcases Nat.eq_zero_or_pos gk with h0|h0
     ·have hjk:j=k:=(by omega);subst hjk;have dj:decide ((j:Int)<tm)=false:=(by rw [HTM.out.1];simp);have hsz:(strB (List.replicate j a).flatten)=strB t:=(by rw [HTM.out.2.1]);rw [hsz];have htl:=HTM.out.2.2;have htn:(t.length:Int)=(s:Nat):=(by rw [htl]);clear htl;go_wp2_with (first|go_big_skip|refine sL ?_|(refine sS ?_;clear H;intros;rename_i H)|((with_reducible refine isLoad ?_);refine AtLoad.rngT rfl rfl rfl (HRX.out _ (H.known HK pk)) rfl ?_;simp only [Act.put,puA,puB,puC])|((with_reducible refine isSlice ?_);refine AtSlice.one H rfl rfl rfl rfl rfl rfl rfl rfl rfl ?_;clear H;intro b7 _ H;simp only [Act.put,puA,puB,puC])|((with_reducible refine isAppend ?_);refine AtAppend.go (enc:=encW) H rfl rfl rfl rfl rfl (by decide) (by decide) rfl (xs:=ts) pk rfl (H.at pk) [t] rfl (by simp [flatG,encW]) encW_len encW_one (by simp;omega) ?_;clear H;intro ad9 cp9 _ H;simp only [Act.put,puA,puB,puC]));go_roundg (n-(i+1));case measure=>omega
      case rel=>exact ⟨i+1,ts++[t],rfl,by omega,by go_num,HST.out _ HTR.out (by rw [HTM.out.2.2];exact hs3),H.picks (.cons pk .nil)⟩
     ·have hjk:j<k:=(by omega);have dj:decide ((j:Int)<tm)=true:=(by rw [HTM.out.1];simp;omega);have HJ:=zh hj;have hjb:j*a.length<=90000:=Nat.le_trans (Nat.mul_le_mul (show j<=300 by omega) ha3) (by omega);clear hj;go_wp2_with (first|go_big_skip|refine sL ?_|(refine sS ?_;clear H;intros;rename_i H)|((with_reducible refine isLoad ?_);refine AtLoad.rngT rfl rfl rfl (HRX.out _ (H.known HK pk)) rfl ?_;simp only [Act.put,puA,puB,puC]));go_roundg (gk-1);case measure=>omega
      case rel =>
       have hj:=HJ.out;have e:k-(gk-1)=j+1:=(by omega);exact ⟨⟨by omega,by rw [e,List.replicate_succ',List.flatten_append];simp,by rw [e];rfl⟩,H⟩
   ·have d1:(kd==1)=false:=(by simpa using k1);have d2:(kd==2)=false:=(by simpa using k2);have d3:(kd==3)=false:=(by simpa using k3);clear k1 k2 k3;go_wp2_with (first|go_big_skip|refine sL ?_|(refine sS ?_;clear H;intros;rename_i H)|((with_reducible refine isLoad ?_);refine AtLoad.rngT rfl rfl rfl (HRX.out _ (H.known HK pk)) rfl ?_;simp only [Act.put,puA,puB,puC]));go_ret2;exact ⟨_,_,[],rfl,(fun h=>by cases h),(H.picks .nil).empty (A:=rowsA encW 9 1 (.slice none 0 0) []) (rowsA_nil _) (by rw [rowsA_fp];rfl)⟩
  ·have d90:decide ((i:Int)<(n:Int))=false:=(by simp;omega);have d90n:decide (i<n)=false:=(by simp;omega);have hin:n=i:=(by omega);subst hin;clear hrel;go_wp2_with (first|refine sL ?_|(refine sS ?_;clear H;intros;rename_i H));go_ret2;exact ⟨_,true,ts,rfl,fun _=>by rw [HIN.out.1];exact HRL.out,H.picks (.cons pk .nil)⟩
end
section
open Go.RowKit Go.Maps
attribute [local go_sem] InGr strB_size
theorem parser_m {X:Px} {bm mp:Nat} (w:World) (h:(blk bm (.cells #[.pointer (some ⟨X.p,0,none⟩),.map (some mp)] 138)).ho w):Calls Tryz.prog 69 #[.pointer (some ⟨bm,0,none⟩)] w fun e w'=>e=.returned (.pointer (some ⟨X.p,0,none⟩))∧w'=w:=by
 have H:=St.nil w [];have HC:Hid (w.cell? ⟨bm,0,none⟩=some (.pointer (some ⟨X.p,0,none⟩))):=zh (by rw [blk_ho] at h;rw [cell_of_row w _ 0 _ _ _ h];rfl);clear h;go_enter Tryz.func69,Tryz.ntmps69;go_wp2_with (first|refine sL ?_|(refine sS ?_;clear H;intros;rename_i H)|((with_reducible refine isLoad ?_);refine AtLoad.cel rfl rfl rfl rfl HC.out ?_;simp only [Act.put,puA,puB,puC]));go_ret;exact ⟨rfl,rfl⟩
theorem results_tmp4 {fn:Func} {t u v x:Tmp} (h:fn.results=#[.tmp t,.tmp u,.tmp v,.tmp x]) (tmps:Array Value) (P:Program) (w:World) :
  (results fn tmps).run P w=.ok (.tuple #[tmps.getD t undef,tmps.getD u undef,tmps.getD v undef,tmps.getD x undef]) w:=by
 simp [results,h]
abbrev StartR (n:Nat) (w:World) (e:Ending) (w':World):Prop :=
 ∃ (X:Px) (bm mp:Nat),e=.returned (.tuple #[.pointer (some ⟨X.s,0,none⟩),.pointer (some ⟨X.p,0,none⟩),.pointer (some ⟨bm,0,none⟩),.bool true])∧PxOk X∧X.S=⟨n,[]⟩∧St w [] [pA X,blk bm (.cells #[.pointer (some ⟨X.p,0,none⟩),.map (some mp)] 138),mapA Tryz.prog 26 mp (([]:List (Nat×Nat)).map encK)] w'
theorem start_c (n:Nat) (hn:n<=1048576) (z:Int) (hz:z=n) (w:World) :
  Calls Tryz.prog 33 #[.int .i64 z] w (StartR n w):=by
 subst hz;have H:=St.nil w [];have HNW:Hid (∀ w,Calls Tryz.prog 55 #[.int .i64 (n:Nat)] w fun e w'=>∃ p m,e=.returned (.pointer (some ⟨p,0,none⟩))∧St w [] [stoA p (.slice none 0 0) m ⟨n,[]⟩] w'):=zh fun w=>new_c n hn _ rfl w
 have HSN:Hid (∀ ps pm w,(stoA ps (.slice none 0 0) pm ⟨n,[]⟩).ho w->Calls Tryz.prog 54 #[.pointer (some ⟨ps,0,none⟩)] w fun e w'=>∃ X:Px,X.s=ps∧X.S=⟨n,[]⟩∧PxOk X∧e=.returned (.pointer (some ⟨X.p,0,none⟩))∧St w (stoA ps (.slice none 0 0) pm ⟨n,[]⟩).fp [pA X] w'):=zh fun ps pm w h=>snew_c ⟨hn,by simp,fun i j x y h=>by simp at h,fun i x h=>by simp at h⟩ w h
 have HCN:Hid (∀ (X:Px) w,Calls Tryz.prog 36 #[.pointer (some ⟨X.p,0,none⟩)] w fun e w'=>∃ bm mp:Nat,e=.returned (.pointer (some ⟨bm,0,none⟩))∧St w [] [blk bm (.cells #[.pointer (some ⟨X.p,0,none⟩),.map (some mp)] 138),mapA Tryz.prog 26 mp (([]:List (Nat×Nat)).map encK)] w'):=zh fun X w=>cnew_c w
 have HPM:Hid (∀ (X:Px) (bm mp:Nat) w,(blk bm (.cells #[.pointer (some ⟨X.p,0,none⟩),.map (some mp)] 138)).ho w->Calls Tryz.prog 69 #[.pointer (some ⟨bm,0,none⟩)] w fun e w'=>e=.returned (.pointer (some ⟨X.p,0,none⟩))∧w'=w):=zh fun X bm mp w h=>parser_m w h
 have heq:∀ (p:Nat) w,(binOp .eql 25 (.pointer (some ⟨p,0,none⟩)) (.pointer (some ⟨p,0,none⟩))).run Tryz.prog w=.ok (.bool true) w:=fun p w=>by
  obtain ⟨j,hj⟩:=Option.isSome_iff_exists.1 (show (Tryz.prog.info? 119).isSome=true by kernel_rfl);exact run_eql_ptr_same w _ (by kernel_rfl) hj
 unfold StartR;go_enter Tryz.func33,Tryz.ntmps33;go_wp2_with (first|refine sL ?_|(refine sS ?_;clear H;intros;rename_i H)|(go_at_call 55;with_reducible refine zm (HNW.out _) ?_;rintro e9 wc ⟨ps,pm,rfl,hb⟩;replace H:=zn (H.call0 hb);clear hb)|(go_at_call 54;with_reducible refine zm (HSN.out _ _ _ (H.get pk)) ?_;rintro e9 wc ⟨X,hxs,hxS,hxo,rfl,hb⟩;have HXN:=zh (za hxS hxo);clear hxS hxo;replace H:=(H.pick pk).call hb;clear hb;subst hxs;simp only [List.cons_append,List.nil_append] at H)|(go_at_call 36;with_reducible refine zm (HCN.out X _) ?_;rintro e9 wc ⟨bm,mp,rfl,hb⟩;replace H:=zn (H.call0 hb);clear hb)|(go_at_call 69;with_reducible refine same (HPM.out X bm mp _ (H.get pk)) ?_));(try simp only [Exit.inBlock,Exit.then])
 refine bodyPost_ret (results_tmp4 rfl _ _ _) rfl ?_;exact ⟨X,bm,mp,rfl,HXN.out.2,HXN.out.1,H.picks (.cons pk (.cons pk (.cons pk .nil)))⟩
end
section
open Go.RowKit Go.Maps
attribute [local go_sem] InGr strB_size
abbrev RPost (X:Px) (P:Sto->Nat->Prop) (M:List Nat) (w:World) (e:Ending) (w':World):Prop :=
 ∃ (X':Px) (id:Nat),e=.returned (.tuple #[.int .i64 id,.nilIface])∧X.Ext X'∧PxOk X'∧X'.S.list.length<=X.S.list.length+1∧P X'.S id∧St w M [pA X'] w'
theorem mpost_room {X:Px} {f:FuncId} {args:Array Value} {t:Tr} {P:Sto->Nat->Prop} {M:List Nat} {w:World} (hr:X.S.list.length<X.S.most) (hP:∀ S id,Den S id t->P S id) (h:Calls Tryz.prog f args w (MPost X t M w)):Calls Tryz.prog f args w (RPost X P M w):=by
 refine h.mono ?_;rintro e w' ⟨X',id,c,rfl,h1,h2,h3,h4,h5⟩;rcases h4 with ⟨rfl,h4⟩|⟨_,_,_,h4⟩
 ·exact ⟨X',id,rfl,h1,h2,h3,hP _ _ h4,h5⟩
 ·omega
def TxtIs (S:Sto) (id:Nat) (ts:List Nat):Prop:=(ts=[]∧id=0)∨∃ t,Den S id t∧t.txt=ts
theorem TxtIs.le {S S':Sto} {id:Nat} {ts:List Nat} (h:TxtIs S id ts) (hS:S.Ok) (hl:S.Le S'):TxtIs S' id ts:=by
 rcases h with h|⟨t,h1,h2⟩
 ·exact .inl h
 ·exact .inr ⟨t,h1.le hS hl,h2⟩
theorem al_canon:Canon (.pow (.leaf 97) 3)∧(Tr.pow (.leaf 97) 3).lay 0=[.leaf 97,.leaf 97,.leaf 97]:=by
 have h:=canon_of (s:=[.leaf 97,.leaf 97,.leaf 97]) (m:=1) (t:=.pow (.leaf 97) 3) (fun t ht=>⟨97,by simpa using ht⟩) (by decide);exact ⟨h.1,h.2.1⟩
theorem al_rule {S:Sto} (hS:S.Ok) {x a c:Nat} (hx:IdIs S x ([97,97,97].map Tr.leaf)) (ha:Den S a (.leaf 97)) (hc:Den S c (.pair (.pair (.leaf 97) (.leaf 97)) (.leaf 97))):x≠c∧∃ i e,x=i+1∧S.list[i]?=some e∧e.r=⟨3,0,a,0,3⟩:=by
 rcases hx with ⟨h,_⟩|⟨T,h1,h2,h3⟩
 ·simp at h
 ·have hT:T=.pow (.leaf 97) 3:=canon_uniq h2 al_canon.1 (h3.trans (by rw [al_canon.2];rfl));subst hT;refine ⟨fun e=>by subst e;exact absurd (h1.tr_inj hc) (by simp),?_⟩;obtain ⟨i,e,rfl,he,ht⟩:=den_get h1;refine ⟨i,e,rfl,he,?_⟩;cases rule_of hS he with
  |letter b hb hr hw ht2=>rw [ht] at ht2;simp at ht2
  |pair l r y z hl hr hy hz hr2 hw hs ht2=>rw [ht] at ht2;simp at ht2
  |pow l k y hl hy hk hr hw hs ht2 =>
   rw [ht] at ht2;injection ht2 with q1 q2
   have hd:Den S (l+1) (.leaf 97):=⟨by omega,by have:=gelt hy;omega,q1.symm⟩
   rw [hr,hd.id_inj hS ha,← q2]
theorem alive_c (w:World) (hde:deA.ho w):Calls Tryz.prog 31 #[] w fun e w'=>e=.returned (.bool true)∧St w [] [] w':=by
 have H:=St.nil w [];have HK:Ks w [] [deA]:=Ks.one hde;clear hde;have HST:Hid (∀ w,Calls Tryz.prog 33 #[.int .i64 100] w (StartR 100 w)):=zh fun w=>start_c 100 (by decide) _ rfl w
 go_enter Tryz.func31,Tryz.ntmps31;go_wp2_with (first|refine sL ?_|(refine sS ?_;clear H;intros;rename_i H)|(go_at_call 33;with_reducible refine zm (HST.out _) ?_;rintro e9 wc ⟨X,bm,mp,rfl,y1,y2,hb⟩;have HX:=zh (za y1 y2);clear y1 y2;replace H:=zn (H.call0 hb);clear hb));have HL1:Hid (∀ w,(pA X).ho w->Calls Tryz.prog 42 #[.pointer (some ⟨X.s,0,none⟩),.int .u8 97] w (RPost X (fun S id=>Den S id (.leaf 97)) (pA X).fp w)):=zh fun w h=>mpost_room (by rw [HX.out.2];simp) (fun S id h=>h) (letter_p 97 (by decide) HX.out.1 w h)
 go_wp2_with (first|refine sL ?_|(refine sS ?_;clear H;intros;rename_i H)|(go_at_call 42;with_reducible refine zm (HL1.out _ (H.get pk)) ?_;rintro e9 wc ⟨X1,a1,rfl,y1,y2,y3,y4,hb⟩;have HX1:=zh (za y1 (za y2 (za y3 y4)));clear y1 y2 y3 y4;replace H:=zn ((H.pick pk).call hb);clear hb));have HY1:Hid (X1.s=X.s∧X1.p=X.p∧PxOk X1∧X1.S.most=100∧X1.S.list.length<=1∧Den X1.S a1 (.leaf 97)):=zh (by
  obtain ⟨h1,h2,h3,h4⟩:=HX1.out;have h5:=HX.out.2;rw [h5] at h3;exact ⟨h1.s,h1.p,h2,by rw [h1.le.1,h5],h3,h4⟩)
 clear HX HX1 HL1;have HL2:Hid (∀ w,(pA X1).ho w->Calls Tryz.prog 43 #[.pointer (some ⟨X.s,0,none⟩),.int .i64 a1,.int .i64 a1] w (RPost X1 (fun S id=>Den S id (.pair (.leaf 97) (.leaf 97))) (pA X1).fp w)):=zh fun w h=>by
  obtain ⟨h1,h2,h3,h4,h5,h6⟩:=HY1.out;rw [← h1];exact mpost_room (by omega) (fun S id h=>h) (pair_p h6 h6 (by simp [Tr.len,maxT]) h3 w h)
 go_wp2_with (first|refine sL ?_|(refine sS ?_;clear H;intros;rename_i H)|(go_at_call 43;with_reducible refine zm (HL2.out _ (H.get pk)) ?_;rintro e9 wc ⟨X2,a2,rfl,y1,y2,y3,y4,hb⟩;have HX2:=zh (za y1 (za y2 (za y3 y4)));clear y1 y2 y3 y4;replace H:=zn ((H.pick pk).call hb);clear hb));have HY2:Hid (X2.s=X.s∧X2.p=X.p∧PxOk X2∧X2.S.most=100∧X2.S.list.length<=2∧Den X2.S a1 (.leaf 97)∧Den X2.S a2 (.pair (.leaf 97) (.leaf 97))):=zh (by
  obtain ⟨h1,h2,h3,h4⟩:=HX2.out;obtain ⟨g1,g2,g3,g4,g5,g6⟩:=HY1.out;exact ⟨h1.s.trans g1,h1.p.trans g2,h2,by rw [h1.le.1,g4],by omega,g6.le g3.ok h1.le,h4⟩)
 clear HX2 HY1 HL2;have HL3:Hid (∀ w,(pA X2).ho w->Calls Tryz.prog 43 #[.pointer (some ⟨X.s,0,none⟩),.int .i64 a2,.int .i64 a1] w (RPost X2 (fun S id=>Den S id (.pair (.pair (.leaf 97) (.leaf 97)) (.leaf 97))) (pA X2).fp w)):=zh fun w h=>by
  obtain ⟨h1,h2,h3,h4,h5,h6,h7⟩:=HY2.out;rw [← h1];exact mpost_room (by omega) (fun S id h=>h) (pair_p h7 h6 (by simp [Tr.len,maxT]) h3 w h)
 go_wp2_with (first|refine sL ?_|(refine sS ?_;clear H;intros;rename_i H)|(go_at_call 43;with_reducible refine zm (HL3.out _ (H.get pk)) ?_;rintro e9 wc ⟨X3,a3,rfl,y1,y2,y3,y4,hb⟩;have HX3:=zh (za y1 (za y2 (za y3 y4)));clear y1 y2 y3 y4;replace H:=zn ((H.pick pk).call hb);clear hb));have HY3:Hid (X3.s=X.s∧X3.p=X.p∧PxOk X3∧X3.S.most=100∧X3.S.list.length<=3∧Den X3.S a1 (.leaf 97)∧Den X3.S a3 (.pair (.pair (.leaf 97) (.leaf 97)) (.leaf 97))):=zh (by
  obtain ⟨h1,h2,h3,h4⟩:=HX3.out;obtain ⟨g1,g2,g3,g4,g5,g6,g7⟩:=HY2.out;exact ⟨h1.s.trans g1,h1.p.trans g2,h2,by rw [h1.le.1,g4],by omega,g6.le g3.ok h1.le,h4⟩)
 clear HX3 HY2 HL3;have HOF:Hid (∀ w,((pA X3).sep ((blk bm (.cells #[.pointer (some ⟨X.p,0,none⟩),.map (some mp)] 138)).sep (mapA Tryz.prog 26 mp (([]:List (Nat×Nat)).map encK)))).ho w->(((pA X3).sep ((blk bm (.cells #[.pointer (some ⟨X.p,0,none⟩),.map (some mp)] 138)).sep (mapA Tryz.prog 26 mp (([]:List (Nat×Nat)).map encK)))).sep deA).ho w->Calls Tryz.prog 35 #[.pointer (some ⟨bm,0,none⟩),.int .i64 (a3:Nat)] w fun e w'=>∃ (X':Px) (K':List (Nat×Nat)) (y:Nat),e=.returned (.tuple #[.int .i64 y,.nilIface])∧X3.Ext X'∧PxOk X'∧KnOk X'.S K'∧IdIs X'.S y ([97,97,97].map Tr.leaf)∧X'.S.list.length<=X3.S.list.length+6∧St w ((pA X3).sep ((blk bm (.cells #[.pointer (some ⟨X.p,0,none⟩),.map (some mp)] 138)).sep (mapA Tryz.prog 26 mp (([]:List (Nat×Nat)).map encK)))).fp [pA X',blk bm (.cells #[.pointer (some ⟨X.p,0,none⟩),.map (some mp)] 138),mapA Tryz.prog 26 mp (K'.map encK)] w'):=zh fun w h hd=>by
  obtain ⟨h1,h2,h3,h4,h5,h6,h7⟩:=HY3.out;have ht:X3.S.tr a3=_:=h7.2.2;rw [← h2] at h hd;have:=of_c (X:=X3) (bm:=bm) (mp:=mp) (L9:=3) h3 h7.1 h7.2.1 (fun q hq=>by simp at hq) (by decide) (by rw [ht];decide) (by omega) (by omega) w h hd;rw [ht,h2] at this;exact this
 go_wp2_with (first|refine sL ?_|(refine sS ?_;clear H;intros;rename_i H)|(go_at_call 35;with_reducible refine zm (HOF.out _ ((St.join3 (H.pick3 (A:=pA X3) (B:=blk bm (.cells #[.pointer (some ⟨X.p,0,none⟩),.map (some mp)] 138)) (C:=mapA Tryz.prog 26 mp (([]:List (Nat×Nat)).map encK)) pk pk pk)).ho _ List.mem_cons_self) ((St.join3 (H.pick3 (A:=pA X3) (B:=blk bm (.cells #[.pointer (some ⟨X.p,0,none⟩),.map (some mp)] 138)) (C:=mapA Tryz.prog 26 mp (([]:List (Nat×Nat)).map encK)) pk pk pk)).sepK HK .here pk)) ?_;rintro e9 wc ⟨X4,K4,y4,rfl,y1,y2,y3,y5,y6,hb⟩;have HZ:=zh (za y1 (za y2 (za y5 y6)));clear y1 y2 y3 y5 y6;replace H:=zn ((St.join3 (H.pick3 (A:=pA X3) (B:=blk bm (.cells #[.pointer (some ⟨X.p,0,none⟩),.map (some mp)] 138)) (C:=mapA Tryz.prog 26 mp (([]:List (Nat×Nat)).map encK)) pk pk pk)).call hb);clear hb));obtain ⟨hne,i4,en,hi4,hen,her⟩:=al_rule HZ.out.2.1.ok HZ.out.2.2.1 (HY3.out.2.2.2.2.2.1.le HY3.out.2.2.1.ok HZ.out.1.le) (HY3.out.2.2.2.2.2.2.le HY3.out.2.2.1.ok HZ.out.1.le);have HRU:Hid (∀ w,(pA X4).ho w->Calls Tryz.prog 68 #[.pointer (some ⟨X.s,0,none⟩),.int .i64 y4] w fun e w'=>e=.returned (.tuple #[.agg #[.int .i64 3,.int .u8 0,.int .i64 a1,.int .i64 0,.int .i64 3],.nilIface])∧St w [] [] w'):=zh fun w h=>by
  have:=rule_c hen y4 (by omega) w (pA_sto h);rw [her] at this;rw [← HY3.out.1,← HZ.out.1.s];exact this
 have d1:((y4:Int) != (a3:Int))=true:=(by simp;omega);clear HY3 HZ HOF hne hi4 hen her;go_wp2_with (first|refine sL ?_|(refine sS ?_;clear H;intros;rename_i H)|(go_at_call 68;with_reducible refine zm (HRU.out _ (H.get pk)) ?_;rintro e9 wc ⟨rfl,hb⟩;replace H:=H.grew hb.below;clear hb));go_ret;exact ⟨rfl,H.picks .nil⟩
end
section
open Go.RowKit Go.Maps
attribute [local go_sem] InGr strB_size
def IdT (S:Sto) (id:Nat) (t:List Nat):Prop:=∃ T,Den S id T∧T.txt=t
theorem IdT.le {S S':Sto} {id:Nat} {t:List Nat} (h:IdT S id t) (hS:S.Ok) (hl:S.Le S'):IdT S' id t:=by
 obtain ⟨T,h1,h2⟩:=h;exact ⟨T,h1.le hS hl,h2⟩
theorem idt_pos {S:Sto} {id:Nat} {t:List Nat} (h:IdT S id t):1<=id:=by
 obtain ⟨T,h1,_⟩:=h;exact h1.1
structure IdsOk (S:Sto) (ids:List Nat) (ts:List (List Nat)) (i:Nat):Prop where
 len:ids.length=i
 at_:∀ j t,j<i->ts[j]?=some t->∃ id,ids[j]?=some id∧IdT S id t
theorem IdsOk.step {S S':Sto} {ids:List Nat} {ts:List (List Nat)} {i id:Nat} {t:List Nat} (h:IdsOk S ids ts i) (hS:S.Ok) (hl:S.Le S') (ht:ts[i]?=some t) (hid:IdT S' id t):IdsOk S' (ids++[id]) ts (i+1):=by
 refine ⟨by simp [h.len],fun j u hj hu=>?_⟩;rcases Nat.lt_or_ge j i with h1|h1
 ·obtain ⟨x,h2,h3⟩:=h.at_ j u h1 hu;exact ⟨x,by rw [List.getElem?_append_left (by rw [h.len];exact h1)];exact h2,h3.le hS hl⟩
 ·obtain rfl:j=i:=by omega
  rw [ht] at hu;injection hu with hu
  subst hu;exact ⟨id,by rw [← h.len];simp,hid⟩
def AdRel (X:Px) (ts:List (List Nat)) (N:List Nat) (w:World) (n m:Nat) (v6 v7:Value) (wr:World):Prop :=
 ∃ (i:Nat) (X2:Px) (ids:List Nat),m=n-i∧i<=n∧v7=.int .i64 i∧(IdsOk X2.S ids ts i∧X.Ext X2∧PxOk X2∧X2.S.list.length<=X.S.list.length+i)∧St w N [pA X2,rowsA encI 26 1 v6 ids] wr
attribute [local go_sem] StStep stAt stUpon in
theorem addL_c {P:PoolT} {g:List Gz} {ts:List (List Nat)} {v:Value} {X:Px} (hr:RowIn P encGz 5 v g) (hT:TxP g ts g.length) (hb:∀ q∈g,q.lt<256) (hn40:g.length<=40) (hX:PxOk X) (hroom:X.S.list.length+40<X.S.most) (w:World) (h:((pA X).sep (poolA P)).ho w) :
  Calls Tryz.prog 34 #[.pointer (some ⟨X.s,0,none⟩),v] w fun e w'=>∃ (X':Px) (v':Value) (ids:List Nat),e=.returned (.tuple #[v',.bool true])∧X.Ext X'∧PxOk X'∧IdsOk X'.S ids ts g.length∧X'.S.list.length<=X.S.list.length+g.length∧St w (pA X).fp [pA X',rowsA encI 26 1 v' ids] w':=by
 rw [sep_ho] at h;obtain ⟨k1,k2,hdd⟩:=h;have H:=St.one k1;have HK:Ks w (pA X).fp [poolA P]:=⟨by simpa using k2,by simpa using fun b hb hm=>hdd b hm hb⟩
 generalize (pA X).fp=N at *;clear k1 k2 hdd;obtain ⟨n,hnn⟩:∃ n,g.length=n:=⟨_,rfl⟩
 obtain ⟨ad,c,rfl,hmx9⟩:=hr.shape;have HCL:Hid (∀ (i:Nat) (q:Gz),g[i]?=some q->∃ b o,ad=some ⟨b,o,none⟩∧∀ w,(poolA P).ho w->w.rangeAt b (o+i*5) [.int .i64 q.kd,.int .u8 q.lt,.int .i64 q.lf,.int .i64 q.rg,.int .i64 q.tm]):=zh fun i q hq=>by
  obtain ⟨ad',c',e1,_,h3⟩:=id hr;obtain ⟨b,o,rfl,_⟩:=h3 (by have:=gelt hq;omega);injection e1 with e1 _ _
  subst e1;exact ⟨b,o,rfl,fun w h=>hr.rng h encGz_len hq⟩
 rw [hnn] at hn40 hT ⊢;have HIN:Hid (g.length=n∧n<=40∧(∀ q∈g,q.lt<256)∧TxP g ts n∧PxOk X∧X.S.list.length+40<X.S.most):=zh ⟨hnn,hn40,hb,hT,hX,hroom⟩;clear hr hnn hmx9 hb hT hX hroom;go_enter Tryz.func34,Tryz.ntmps34;go_wp2_with (first|refine sL ?_|(refine sS ?_;clear H;intros;rename_i H));go_loopg [6,7] n (fun m v6 v7 wr=>AdRel X ts N w n m v6 v7 wr);case atStart=>exact ⟨0,X,[],rfl,Nat.zero_le _,rfl,⟨⟨rfl,fun j t hj=>absurd hj (Nat.not_lt_zero _)⟩,.refl _,HIN.out.2.2.2.2.1,Nat.le_refl _⟩,H.empty (A:=rowsA encI 26 1 (.slice none 0 0) []) (rowsA_nil _) (by rw [rowsA_fp];rfl) |>.picks (.cons (A:=pA X) pk (.cons (A:=rowsA encI 26 1 (.slice none 0 0) []) pk .nil))⟩
 case round =>
  clear H;obtain ⟨i,X2,ids,rfl,hik,rfl,hrel,H⟩:=hrel;have HRL:=zh hrel;obtain ⟨ad2,ci,rfl,_⟩:=rowsA_shape (H.get (A:=rowsA encI 26 1 _ ids) pk);by_cases hlt:i<n
  ·obtain ⟨q9,hq⟩:∃ a,g[i]?=some a:=⟨_,zg (by rw [HIN.out.1];exact hlt)⟩
   obtain ⟨gb,o,rfl,hrng⟩:=HCL.out i q9 hq;have d90:decide ((i:Int)<(n:Int))=true:=(by simp;omega);have d90n:decide (i<n)=true:=(by simp;omega);have hil:i<n:=hlt;obtain ⟨t,hti,ht3,htne,htb,htr⟩:=HIN.out.2.2.2.1.at_ i q9 hlt hq;have hidl:ids.length<=40:=(by rw [hrel.1.len];omega);have HTT:=zh hti;have HRW:Hid (∀ (l a:Nat),ids[l]?=some a->∃ gi,ad2=some ⟨gi,0,none⟩∧∀ w,(rowsA encI 26 1 (.slice ad2 ids.length ci) ids).ho w->w.cell? ⟨gi,l,none⟩=some (.int .i64 (a:Nat))):=zh fun l a hl=>by
    obtain ⟨g2,c8,e1,_⟩:=rowsA_cases (H.get (A:=rowsA encI 26 1 (.slice ad2 ids.length ci) ids) pk) (by have:=gelt hl;omega);injection e1 with e1 _ _
    refine ⟨g2,e1,fun w h=>?_⟩;rw [e1] at h;have:=rowsA_cell h encI_len hl (j:=0) rfl;simpa using this
   have hroom2:X2.S.list.length<X2.S.most:=(by have:=hrel.2.1.le.1;have:=HIN.out;omega);have hltb:=HIN.out.2.2.1 q9 (List.mem_of_getElem? hq);obtain ⟨kd,lt,lf,rg,tm⟩:=q9;have HC0:Hid (∀ w,(poolA P).ho w->w.cell? ⟨gb,o+i*5,none⟩=some (.int .i64 kd)):=zh fun w h=>by have:=hrng w h 0 (.int .i64 kd) rfl;simpa using this
   have HC1:Hid (∀ w,(poolA P).ho w->w.cell? ⟨gb,o+i*5+1,none⟩=some (.int .u8 lt)):=zh fun w h=>hrng w h 1 (.int .u8 lt) rfl
   have HC2:Hid (∀ w,(poolA P).ho w->w.cell? ⟨gb,o+i*5+2,none⟩=some (.int .i64 lf)):=zh fun w h=>hrng w h 2 (.int .i64 lf) rfl
   have HC3:Hid (∀ w,(poolA P).ho w->w.cell? ⟨gb,o+i*5+3,none⟩=some (.int .i64 rg)):=zh fun w h=>hrng w h 3 (.int .i64 rg) rfl
   have HC4:Hid (∀ w,(poolA P).ho w->w.cell? ⟨gb,o+i*5+4,none⟩=some (.int .i64 tm)):=zh fun w h=>hrng w h 4 (.int .i64 tm) rfl
   clear hrng hq hti;rcases htr with ⟨q1,q2,q3,q4,q5⟩|⟨l,q,ta,tb,q1,q2,q3,q4,q5,hl,hr,ha,hb,q6⟩|⟨l,k,ta,q1,q2,q3,q4,q5,hl,hk2,hk3,ha,q6⟩
   ·simp only at q1 q2 q3 q4 q5 hltb;subst q1;have HLE:Hid (∀ w,(pA X2).ho w->Calls Tryz.prog 42 #[.pointer (some ⟨X.s,0,none⟩),.int .u8 lt] w (RPost X2 (fun S id=>IdT S id t) (pA X2).fp w)):=zh fun w h=>by
     have:=mpost_room (P:=fun S id=>IdT S id t) hroom2 (fun S id h=>⟨_,h,by rw [q5];rfl⟩) (letter_p lt hltb HRL.out.2.2.1 w h);rw [HRL.out.2.1.s] at this;exact this
    clear hrel q2 q3 q4 q5 hltb hroom2 ht3 htne htb;go_wp2_with (first|go_big_skip|refine sL ?_|(refine sS ?_;clear H;intros;rename_i H)|(go_at_call 42;with_reducible refine zm (HLE.out _ (H.get pk)) ?_;rintro e9 wc ⟨X5,id5,rfl,y1,y2,y3,y4,hb⟩;have HY:=zh (za y1 (za y2 (za y3 y4)));clear y1 y2 y3 y4;replace H:=zn ((H.pick pk).call hb);clear hb;have hge:1<=id5:=idt_pos HY.out.2.2.2;have d50:decide ((id5:Int)<1)=false:=(by simp;omega);have d50n:decide (id5<1)=false:=(by simp;omega))|((with_reducible refine isSlice ?_);refine AtSlice.one H rfl rfl rfl rfl rfl rfl rfl rfl rfl ?_;clear H;intro b6 _ H;simp only [Act.put,puA,puB,puC])|((with_reducible refine isAppend ?_);refine AtAppend.go (enc:=encI) H rfl rfl rfl rfl rfl (by decide) (by decide) rfl (xs:=ids) pk rfl (H.at pk) [id5] rfl (by simp [flatG,encI]) encI_len encI_one (by simp;omega) ?_;clear H;intro ad9 cp9 _ H;simp only [Act.put,puA,puB,puC]));have hge:1<=id5:=idt_pos HY.out.2.2.2;have d50:decide ((id5:Int)<1)=false:=(by simp;omega)
    have d50n:decide (id5<1)=false:=(by simp;omega)
    go_wp2_with (first|go_big_skip|refine sL ?_|(refine sS ?_;clear H;intros;rename_i H)|((with_reducible refine isSlice ?_);refine AtSlice.one H rfl rfl rfl rfl rfl rfl rfl rfl rfl ?_;clear H;intro b6 _ H;simp only [Act.put,puA,puB,puC])|((with_reducible refine isAppend ?_);refine AtAppend.go (enc:=encI) H rfl rfl rfl rfl rfl (by decide) (by decide) rfl (xs:=ids) pk rfl (H.at pk) [id5] rfl (by simp [flatG,encI]) encI_len encI_one (by simp;omega) ?_;clear H;intro ad9 cp9 _ H;simp only [Act.put,puA,puB,puC]));go_roundg (n-(i+1));case measure=>omega
    case rel =>
     have h1:=HRL.out;have h2:=HY.out;exact ⟨i+1,X5,ids++[id5],rfl,by omega,by go_num,⟨h1.1.step h1.2.2.1.ok h2.1.le HTT.out h2.2.2.2,h1.2.1.trans h2.1,h2.2.1,by omega⟩,H.picks (.cons pk (.cons pk .nil))⟩
   ·simp only at q1 q2 q3 q4 q5 hltb;subst q1;obtain ⟨xa,hxa,TA,hTA,hTa⟩:=HRL.out.1.at_ l ta hl ha;obtain ⟨gi,rfl,hca⟩:=HRW.out l xa hxa;have HIA:=zh hca;have hlts:l<ids.length:=gelt hxa;obtain ⟨xb,hxb,TB,hTB,hTb⟩:=HRL.out.1.at_ q tb hr hb;obtain ⟨g3,e3,hcb⟩:=HRW.out q xb hxb;injection e3 with e3
    injection e3 with e3
    subst e3;have HIB:=zh hcb;have hrts:q<ids.length:=gelt hxb;have HI1:Hid (lf-1=(l:Nat)):=zh (by omega);have HI2:Hid (rg-1=(q:Nat)):=zh (by omega);have HPR:Hid (∀ w,(pA X2).ho w->Calls Tryz.prog 43 #[.pointer (some ⟨X.s,0,none⟩),.int .i64 (xa:Nat),.int .i64 (xb:Nat)] w (RPost X2 (fun S id=>IdT S id t) (pA X2).fp w)):=zh fun w h=>by
     have hl1:TA.len=ta.length:=(by rw [← Tr.txt_len,hTa]);have hl2:TB.len=tb.length:=(by rw [← Tr.txt_len,hTb]);have hl3:ta.length+tb.length<=300:=(by rw [q6,List.length_append] at ht3;exact ht3);have:=mpost_room (P:=fun S id=>IdT S id t) hroom2 (fun S id h=>⟨_,h,by rw [q6];simp only [Tr.txt];rw [hTa,hTb]⟩) (pair_p hTA hTB (by simp only [maxT];omega) HRL.out.2.2.1 w h);rw [HRL.out.2.1.s] at this;exact this
    have il1:-9223372036854775808<=lf-1∧lf-1<=9223372036854775807:=(by omega);have il2:-9223372036854775808<=rg-1∧rg-1<=9223372036854775807:=(by omega);clear hrel q2 q3 q4 q5 hltb hroom2 ht3 htne htb hca hcb hTA hTB hTa hTb hxa hxb ha hb q6 HRW hl hr;go_wp2_with (first|go_big_skip|refine sL ?_|(refine sS ?_;clear H;intros;rename_i H));replace H:St w N [pA X2,rowsA encI 26 1 (.slice (some ⟨gi,0,none⟩) ids.length ci) ids] _:=H.picks (.cons (A:=pA X2) pk (.cons (A:=rowsA encI 26 1 (.slice (some ⟨gi,0,none⟩) ids.length ci) ids) pk .nil));refine wp_region_sgx 25 [⟨[],fun v _=>v=.pointer (some ⟨X.s,0,none⟩)⟩,⟨[],fun v _=>v=.slice (some ⟨gi,0,none⟩) ids.length ci⟩,⟨[],fun v _=>v=.slice (some ⟨gb,o,none⟩) n c⟩,⟨[],fun v _=>v=.int .i64 i⟩,⟨[2,3],fun v _=>v=.pointer (some ⟨gb,o+i*5,none⟩)⟩,⟨[4],fun v _=>v=.pointer (some ⟨gb,o+i*5+2,none⟩)⟩,⟨[5],fun v _=>v=.int .i64 lf⟩,⟨[6],fun v _=>v=.int .i64 (l:Nat)⟩,⟨[1,7],fun v _=>v=.pointer (some ⟨gi,l,none⟩)⟩,⟨[8],fun v _=>v=.int .i64 (xa:Nat)⟩,⟨[],fun v _=>v=.slice (some ⟨gi,0,none⟩) ids.length ci⟩,⟨[],fun v _=>v=.slice (some ⟨gb,o,none⟩) n c⟩,⟨[],fun v _=>v=.int .i64 i⟩,⟨[11,12],fun v _=>v=.pointer (some ⟨gb,o+i*5,none⟩)⟩,⟨[13],fun v _=>v=.pointer (some ⟨gb,o+i*5+3,none⟩)⟩,⟨[14],fun v _=>v=.int .i64 rg⟩,⟨[15],fun v _=>v=.int .i64 (q:Nat)⟩,⟨[10,16],fun v _=>v=.pointer (some ⟨gi,q,none⟩)⟩,⟨[17],fun v _=>v=.int .i64 (xb:Nat)⟩,⟨[0,9,18],fun v _=>∃ id:Nat,v=.tuple #[.int .i64 id,.nilIface]⟩,⟨[19],fun v ds=>ds=[v]⟩,⟨[20],fun v ds=>∃ id:Nat,ds=[.tuple #[.int .i64 id,.nilIface]]∧v=.int .i64 id⟩,⟨[20],fun v ds=>∃ id:Nat,ds=[.tuple #[.int .i64 id,.nilIface]]∧v=.nilIface⟩,⟨[21],fun v ds=>ds=[v]⟩,⟨[22],fun v ds=>ds=[v]⟩] [19] [[0],[0],[0],[0],[0],[0],[0],[0],[0],[0],[0],[0],[0],[0],[0],[0],[0],[0],[0],[0],[1],[1],[1],[1],[1]] [fun _ wx=>St w N [pA X2,rowsA encI 26 1 (.slice (some ⟨gi,0,none⟩) ids.length ci) ids] wx,fun vals wx=>∃ (X5:Px) (id:Nat),vals 19=.tuple #[.int .i64 id,.nilIface]∧(X2.Ext X5∧PxOk X5∧X5.S.list.length<=X2.S.list.length+1∧IdT X5.S id t)∧St w N [pA X5,rowsA encI 26 1 (.slice (some ⟨gi,0,none⟩) ids.length ci) ids] wx]
     [[],[],[],[],[(2,57),(3,58)],[(4,59)],[(5,60)],[(6,61)],[(1,56),(7,62)],[(8,63)],[],[],[],[(11,66),(12,67)],[(13,68)],[(14,69)],[(15,70)],[(10,65),(16,71)],[(17,72)],[(0,55),(9,64),(18,73)],[(19,74)],[(20,54)],[(20,54)],[(21,75)],[(22,76)]] [(0,55),(1,56),(2,57),(3,58),(4,59),(5,60),(6,61),(7,62),(8,63),(9,64),(10,65),(11,66),(12,67),(13,68),(14,69),(15,70),(16,71),(17,72),(18,73),(19,74),(20,54),(21,75),(22,76),(23,8),(24,9)] (by kernel_rfl) (by kernel_rfl) H.drew ⟨⟨qo,trivial⟩,⟨qo,trivial⟩,⟨qo,trivial⟩,⟨qo,trivial⟩,⟨?_,trivial⟩,⟨qo,trivial⟩,⟨ql,trivial⟩,⟨?_,trivial⟩,⟨?_,trivial⟩,⟨ql,trivial⟩,⟨qo,trivial⟩,⟨qo,trivial⟩,⟨qo,trivial⟩,⟨?_,trivial⟩,⟨qo,trivial⟩,⟨ql,trivial⟩,⟨?_,trivial⟩,⟨?_,trivial⟩,⟨ql,trivial⟩,⟨?_,trivial⟩,⟨?_,trivial⟩,⟨?_,trivial⟩,⟨?_,trivial⟩,⟨?_,trivial⟩,⟨?_,trivial⟩,trivial⟩ ?_
    ·intro vals wx hd HC;simp only [GF] at hd;have H:=HC;simp only [CA] at H;simp only [PS,hd];go_simp;first|exact HC|exact ⟨rfl,HC⟩|(rw [if_pos hil];exact ⟨rfl,HC⟩)
    ·intro vals wx hd HC;simp only [GF] at hd;have H:=HC;simp only [CA] at H;simp only [PS,hd];go_simp;first|exact HC|exact ⟨rfl,HC⟩|exact ⟨HI1.out,HC⟩|(rw [HI1.out];exact ⟨IntWalk.i64_in _ (by omega),HC⟩)
    ·intro vals wx hd HC;simp only [GF] at hd;have H:=HC;simp only [CA] at H;simp only [PS,hd];go_simp;first|exact HC|exact ⟨rfl,HC⟩|(rw [if_pos hlts];exact ⟨rfl,HC⟩)
    ·intro vals wx hd HC;simp only [GF] at hd;have H:=HC;simp only [CA] at H;simp only [PS,hd];go_simp;first|exact HC|exact ⟨rfl,HC⟩|(rw [if_pos hil];exact ⟨rfl,HC⟩)
    ·intro vals wx hd HC;simp only [GF] at hd;have H:=HC;simp only [CA] at H;simp only [PS,hd];go_simp;first|exact HC|exact ⟨rfl,HC⟩|exact ⟨HI2.out,HC⟩|(rw [HI2.out];exact ⟨IntWalk.i64_in _ (by omega),HC⟩)
    ·intro vals wx hd HC;simp only [GF] at hd;have H:=HC;simp only [CA] at H;simp only [PS,hd];go_simp;first|exact HC|exact ⟨rfl,HC⟩|(rw [if_pos hrts];exact ⟨rfl,HC⟩)
    ·intro vals wx hd HC;simp only [GF] at hd;obtain ⟨h0,h9,h18⟩:=hd;have H:=HC;simp only [CA] at H;simp only [PS,h0,h9,h18];clear h0 h9 h18 HC;go_simp;with_reducible refine zm (HPR.out _ (H.get pk)) ?_
     rintro e wz ⟨X5,id5,rfl,y1,y2,y3,y4,hb⟩;have H2:=(H.pick pk).call hb;exact ⟨_,rfl,⟨_,rfl⟩,X5,id5,rfl,⟨y1,y2,y3,y4⟩,by simpa using H2⟩
    ·intro vals wx hd HC;simp only [GF] at hd;have h19:=hd;clear hd;have H:=HC;simp only [CA] at H;obtain ⟨X5,id5,hv19,hj5,H⟩:=H;simp only [PS];clear h19;go_simp;first|exact HC|exact ⟨rfl,HC⟩
    ·intro vals wx hd HC;simp only [GF] at hd;have h20:=hd;clear hd;have H:=HC;simp only [CA] at H;obtain ⟨X5,id5,hv19,hj5,H⟩:=H;simp only [PS];have e20:vals 20=.tuple #[.int .i64 id5,.nilIface]:=(by rw [← hv19];exact X8 (show [vals 19]=[vals 20] from h20));simp only [e20];clear h20;go_simp;first|exact ⟨⟨id5,by simp [e20],rfl⟩,HC⟩|exact ⟨⟨id5,rfl⟩,HC⟩|exact ⟨rfl,HC⟩|exact HC|exact ⟨⟨⟨id5,rfl⟩,rfl⟩,HC⟩|exact ⟨⟨id5,rfl,rfl⟩,HC⟩|fail "Z9"
    ·intro vals wx hd HC;simp only [GF] at hd;have h20:=hd;clear hd;have H:=HC;simp only [CA] at H;obtain ⟨X5,id5,hv19,hj5,H⟩:=H;simp only [PS];have e20:vals 20=.tuple #[.int .i64 id5,.nilIface]:=(by rw [← hv19];exact X8 (show [vals 19]=[vals 20] from h20));simp only [e20];clear h20;go_simp;first|exact ⟨⟨id5,by simp [e20],rfl⟩,HC⟩|exact ⟨⟨id5,rfl⟩,HC⟩|exact ⟨rfl,HC⟩|exact HC|exact ⟨⟨⟨id5,rfl⟩,rfl⟩,HC⟩|exact ⟨⟨id5,rfl,rfl⟩,HC⟩|fail "Z9"
    ·intro vals wx hd HC;simp only [GF] at hd;have h21:=hd;clear hd;have H:=HC;simp only [CA] at H;obtain ⟨X5,id5,hv19,hj5,H⟩:=H;simp only [PS];clear h21;go_simp;first|exact HC|exact ⟨rfl,HC⟩
    ·intro vals wx hd HC;simp only [GF] at hd;have h22:=hd;clear hd;have H:=HC;simp only [CA] at H;obtain ⟨X5,id5,hv19,hj5,H⟩:=H;simp only [PS];clear h22;go_simp;first|exact HC|exact ⟨rfl,HC⟩
    intro vals wx hd HC;have h19:=hd.2.2.2.2.2.2.2.2.2.2.2.2.2.2.2.2.2.2.2.1;have h20:=hd.2.2.2.2.2.2.2.2.2.2.2.2.2.2.2.2.2.2.2.2.1;have h21:=hd.2.2.2.2.2.2.2.2.2.2.2.2.2.2.2.2.2.2.2.2.2.1;have h22:=hd.2.2.2.2.2.2.2.2.2.2.2.2.2.2.2.2.2.2.2.2.2.2.1;have h23:=hd.2.2.2.2.2.2.2.2.2.2.2.2.2.2.2.2.2.2.2.2.2.2.2.1;have h24:=hd.2.2.2.2.2.2.2.2.2.2.2.2.2.2.2.2.2.2.2.2.2.2.2.2.1;simp only [CA] at HC;obtain ⟨X5,id5,hv19,hj5,H⟩:=HC;simp only [GF] at hd;simp only [PS,hd];clear hd;have e20:vals 20=.tuple #[.int .i64 id5,.nilIface]:=(by rw [← hv19];exact X8 (show [vals 19]=[vals 20] from h20));have e23:vals 23=.int .i64 id5:=by
     obtain ⟨q,q1,q2⟩:=(h21:∃ id:Nat,[vals 20]=[.tuple #[.int .i64 id,.nilIface]]∧vals 21=.int .i64 id)
     replace q1:[vals 20]=[Value.tuple #[.int .i64 q,.nilIface]]:=q1;rw [e20] at q1;simp only [List.cons.injEq,and_true,Value.tuple.injEq,Array.mk.injEq,Value.int.injEq,true_and] at q1;rw [X8 (show [vals 21]=[vals 23] from h23),q2,q1]
    have e24:vals 24=.nilIface:=by
     obtain ⟨q,q1,q2⟩:=(h22:∃ id:Nat,[vals 20]=[.tuple #[.int .i64 id,.nilIface]]∧vals 22=.nilIface)
     rw [X8 (show [vals 22]=[vals 24] from h24),q2]
    simp only [hv19,e20,e23,e24];have HY:=zh hj5;clear hv19 e20 e23 e24 h19 h20 h21 h22 h23 h24 hj5;have hge:1<=id5:=idt_pos HY.out.2.2.2;have d50:decide ((id5:Int)<1)=false:=(by simp;omega)
    have d50n:decide (id5<1)=false:=(by simp;omega)
    go_wp2_with (first|go_big_skip|refine sL ?_|(refine sS ?_;clear H;intros;rename_i H)|((with_reducible refine isSlice ?_);refine AtSlice.one H rfl rfl rfl rfl rfl rfl rfl rfl rfl ?_;clear H;intro b6 _ H;simp only [Act.put,puA,puB,puC])|((with_reducible refine isAppend ?_);refine AtAppend.go (enc:=encI) H rfl rfl rfl rfl rfl (by decide) (by decide) rfl (xs:=ids) pk rfl (H.at pk) [id5] rfl (by simp [flatG,encI]) encI_len encI_one (by simp;omega) ?_;clear H;intro ad9 cp9 _ H;simp only [Act.put,puA,puB,puC]));go_roundg (n-(i+1));case measure=>omega
    case rel =>
     have h1:=HRL.out;have h2:=HY.out;exact ⟨i+1,X5,ids++[id5],rfl,by omega,by go_num,⟨h1.1.step h1.2.2.1.ok h2.1.le HTT.out h2.2.2.2,h1.2.1.trans h2.1,h2.2.1,by omega⟩,H.picks (.cons pk (.cons pk .nil))⟩
   ·simp only at q1 q2 q3 q4 q5 hltb;subst q1;obtain ⟨xa,hxa,TA,hTA,hTa⟩:=HRL.out.1.at_ l ta hl ha;obtain ⟨gi,rfl,hca⟩:=HRW.out l xa hxa;have HIA:=zh hca;have hlts:l<ids.length:=gelt hxa;have HI1:Hid (lf-1=(l:Nat)):=zh (by omega);have HPW:Hid (∀ w,(pA X2).ho w->Calls Tryz.prog 70 #[.pointer (some ⟨X.s,0,none⟩),.int .i64 (xa:Nat),.int .i64 tm] w (RPost X2 (fun S id=>IdT S id t) (pA X2).fp w)):=zh fun w h=>by
     have hl1:TA.len=ta.length:=(by rw [← Tr.txt_len,hTa]);have hl3:ta.length*k<=300:=(by rw [q6,List.length_flatten,List.map_replicate,List.sum_replicate_nat,Nat.mul_comm] at ht3;exact ht3);have:=mpost_room (P:=fun S id=>IdT S id t) hroom2 (fun S id h=>⟨_,h,by rw [q6];simp only [Tr.txt];rw [hTa]⟩) (power_p (k:=k) hTA hk2 (by omega) (by simp only [maxT];rw [hl1];omega) HRL.out.2.2.1 w h);rw [HRL.out.2.1.s,← q5] at this;exact this
    have il1:-9223372036854775808<=lf-1∧lf-1<=9223372036854775807:=(by omega);clear hrel q2 q3 q4 q5 hltb hroom2 ht3 htne htb hca hTA hTa hxa ha q6 HRW hl hk2 hk3;go_wp2_with (first|go_big_skip|refine sL ?_|(refine sS ?_;clear H;intros;rename_i H));replace H:St w N [pA X2,rowsA encI 26 1 (.slice (some ⟨gi,0,none⟩) ids.length ci) ids] _:=H.picks (.cons (A:=pA X2) pk (.cons (A:=rowsA encI 26 1 (.slice (some ⟨gi,0,none⟩) ids.length ci) ids) pk .nil));refine wp_region_sgx 21 [⟨[],fun v _=>v=.pointer (some ⟨X.s,0,none⟩)⟩,⟨[],fun v _=>v=.slice (some ⟨gi,0,none⟩) ids.length ci⟩,⟨[],fun v _=>v=.slice (some ⟨gb,o,none⟩) n c⟩,⟨[],fun v _=>v=.int .i64 i⟩,⟨[2,3],fun v _=>v=.pointer (some ⟨gb,o+i*5,none⟩)⟩,⟨[4],fun v _=>v=.pointer (some ⟨gb,o+i*5+2,none⟩)⟩,⟨[5],fun v _=>v=.int .i64 lf⟩,⟨[6],fun v _=>v=.int .i64 (l:Nat)⟩,⟨[1,7],fun v _=>v=.pointer (some ⟨gi,l,none⟩)⟩,⟨[8],fun v _=>v=.int .i64 (xa:Nat)⟩,⟨[],fun v _=>v=.slice (some ⟨gb,o,none⟩) n c⟩,⟨[],fun v _=>v=.int .i64 i⟩,⟨[10,11],fun v _=>v=.pointer (some ⟨gb,o+i*5,none⟩)⟩,⟨[12],fun v _=>v=.pointer (some ⟨gb,o+i*5+4,none⟩)⟩,⟨[13],fun v _=>v=.int .i64 tm⟩,⟨[0,9,14],fun v _=>∃ id:Nat,v=.tuple #[.int .i64 id,.nilIface]⟩,⟨[15],fun v ds=>ds=[v]⟩,⟨[16],fun v ds=>∃ id:Nat,ds=[.tuple #[.int .i64 id,.nilIface]]∧v=.int .i64 id⟩,⟨[16],fun v ds=>∃ id:Nat,ds=[.tuple #[.int .i64 id,.nilIface]]∧v=.nilIface⟩,⟨[17],fun v ds=>ds=[v]⟩,⟨[18],fun v ds=>ds=[v]⟩] [15] [[0],[0],[0],[0],[0],[0],[0],[0],[0],[0],[0],[0],[0],[0],[0],[0],[1],[1],[1],[1],[1]] [fun _ wx=>St w N [pA X2,rowsA encI 26 1 (.slice (some ⟨gi,0,none⟩) ids.length ci) ids] wx,fun vals wx=>∃ (X5:Px) (id:Nat),vals 15=.tuple #[.int .i64 id,.nilIface]∧(X2.Ext X5∧PxOk X5∧X5.S.list.length<=X2.S.list.length+1∧IdT X5.S id t)∧St w N [pA X5,rowsA encI 26 1 (.slice (some ⟨gi,0,none⟩) ids.length ci) ids] wx]
     [[],[],[],[],[(2,24),(3,25)],[(4,26)],[(5,27)],[(6,28)],[(1,23),(7,29)],[(8,30)],[],[],[(10,32),(11,33)],[(12,34)],[(13,35)],[(0,22),(9,31),(14,36)],[(15,37)],[(16,21)],[(16,21)],[(17,38)],[(18,39)]] [(0,22),(1,23),(2,24),(3,25),(4,26),(5,27),(6,28),(7,29),(8,30),(9,31),(10,32),(11,33),(12,34),(13,35),(14,36),(15,37),(16,21),(17,38),(18,39),(19,8),(20,9)] (by kernel_rfl) (by kernel_rfl) H.drew ⟨⟨qo,trivial⟩,⟨qo,trivial⟩,⟨qo,trivial⟩,⟨qo,trivial⟩,⟨?_,trivial⟩,⟨qo,trivial⟩,⟨ql,trivial⟩,⟨?_,trivial⟩,⟨?_,trivial⟩,⟨ql,trivial⟩,⟨qo,trivial⟩,⟨qo,trivial⟩,⟨?_,trivial⟩,⟨qo,trivial⟩,⟨ql,trivial⟩,⟨?_,trivial⟩,⟨?_,trivial⟩,⟨?_,trivial⟩,⟨?_,trivial⟩,⟨?_,trivial⟩,⟨?_,trivial⟩,trivial⟩ ?_
    ·intro vals wx hd HC;simp only [GF] at hd;have H:=HC;simp only [CA] at H;simp only [PS,hd];go_simp;first|exact HC|exact ⟨rfl,HC⟩|(rw [if_pos hil];exact ⟨rfl,HC⟩)
    ·intro vals wx hd HC;simp only [GF] at hd;have H:=HC;simp only [CA] at H;simp only [PS,hd];go_simp;first|exact HC|exact ⟨rfl,HC⟩|exact ⟨HI1.out,HC⟩|(rw [HI1.out];exact ⟨IntWalk.i64_in _ (by omega),HC⟩)
    ·intro vals wx hd HC;simp only [GF] at hd;have H:=HC;simp only [CA] at H;simp only [PS,hd];go_simp;first|exact HC|exact ⟨rfl,HC⟩|(rw [if_pos hlts];exact ⟨rfl,HC⟩)
    ·intro vals wx hd HC;simp only [GF] at hd;have H:=HC;simp only [CA] at H;simp only [PS,hd];go_simp;first|exact HC|exact ⟨rfl,HC⟩|(rw [if_pos hil];exact ⟨rfl,HC⟩)
    ·intro vals wx hd HC;simp only [GF] at hd;obtain ⟨h0,h9,h14⟩:=hd;have H:=HC;simp only [CA] at H;simp only [PS,h0,h9,h14];clear h0 h9 h14 HC;go_simp;with_reducible refine zm (HPW.out _ (H.get pk)) ?_
     rintro e wz ⟨X5,id5,rfl,y1,y2,y3,y4,hb⟩;have H2:=(H.pick pk).call hb;exact ⟨_,rfl,⟨_,rfl⟩,X5,id5,rfl,⟨y1,y2,y3,y4⟩,by simpa using H2⟩
    ·intro vals wx hd HC;simp only [GF] at hd;have h15:=hd;clear hd;have H:=HC;simp only [CA] at H;obtain ⟨X5,id5,hv15,hj5,H⟩:=H;simp only [PS];clear h15;go_simp;first|exact HC|exact ⟨rfl,HC⟩
    ·intro vals wx hd HC;simp only [GF] at hd;have h16:=hd;clear hd;have H:=HC;simp only [CA] at H;obtain ⟨X5,id5,hv15,hj5,H⟩:=H;simp only [PS];have e16:vals 16=.tuple #[.int .i64 id5,.nilIface]:=(by rw [← hv15];exact X8 (show [vals 15]=[vals 16] from h16));simp only [e16];clear h16;go_simp;first|exact ⟨⟨id5,by simp [e16],rfl⟩,HC⟩|exact ⟨⟨id5,rfl⟩,HC⟩|exact ⟨rfl,HC⟩|exact HC|exact ⟨⟨⟨id5,rfl⟩,rfl⟩,HC⟩|exact ⟨⟨id5,rfl,rfl⟩,HC⟩|fail "Z9"
    ·intro vals wx hd HC;simp only [GF] at hd;have h16:=hd;clear hd;have H:=HC;simp only [CA] at H;obtain ⟨X5,id5,hv15,hj5,H⟩:=H;simp only [PS];have e16:vals 16=.tuple #[.int .i64 id5,.nilIface]:=(by rw [← hv15];exact X8 (show [vals 15]=[vals 16] from h16));simp only [e16];clear h16;go_simp;first|exact ⟨⟨id5,by simp [e16],rfl⟩,HC⟩|exact ⟨⟨id5,rfl⟩,HC⟩|exact ⟨rfl,HC⟩|exact HC|exact ⟨⟨⟨id5,rfl⟩,rfl⟩,HC⟩|exact ⟨⟨id5,rfl,rfl⟩,HC⟩|fail "Z9"
    ·intro vals wx hd HC;simp only [GF] at hd;have h17:=hd;clear hd;have H:=HC;simp only [CA] at H;obtain ⟨X5,id5,hv15,hj5,H⟩:=H;simp only [PS];clear h17;go_simp;first|exact HC|exact ⟨rfl,HC⟩
    ·intro vals wx hd HC;simp only [GF] at hd;have h18:=hd;clear hd;have H:=HC;simp only [CA] at H;obtain ⟨X5,id5,hv15,hj5,H⟩:=H;simp only [PS];clear h18;go_simp;first|exact HC|exact ⟨rfl,HC⟩
    intro vals wx hd HC;have h15:=hd.2.2.2.2.2.2.2.2.2.2.2.2.2.2.2.1;have h16:=hd.2.2.2.2.2.2.2.2.2.2.2.2.2.2.2.2.1;have h17:=hd.2.2.2.2.2.2.2.2.2.2.2.2.2.2.2.2.2.1;have h18:=hd.2.2.2.2.2.2.2.2.2.2.2.2.2.2.2.2.2.2.1;have h19:=hd.2.2.2.2.2.2.2.2.2.2.2.2.2.2.2.2.2.2.2.1;have h20:=hd.2.2.2.2.2.2.2.2.2.2.2.2.2.2.2.2.2.2.2.2.1;simp only [CA] at HC;obtain ⟨X5,id5,hv15,hj5,H⟩:=HC;simp only [GF] at hd;simp only [PS,hd];clear hd;have e16:vals 16=.tuple #[.int .i64 id5,.nilIface]:=(by rw [← hv15];exact X8 (show [vals 15]=[vals 16] from h16));have e19:vals 19=.int .i64 id5:=by
     obtain ⟨q,q1,q2⟩:=(h17:∃ id:Nat,[vals 16]=[.tuple #[.int .i64 id,.nilIface]]∧vals 17=.int .i64 id)
     replace q1:[vals 16]=[Value.tuple #[.int .i64 q,.nilIface]]:=q1;rw [e16] at q1;simp only [List.cons.injEq,and_true,Value.tuple.injEq,Array.mk.injEq,Value.int.injEq,true_and] at q1;rw [X8 (show [vals 17]=[vals 19] from h19),q2,q1]
    have e20:vals 20=.nilIface:=by
     obtain ⟨q,q1,q2⟩:=(h18:∃ id:Nat,[vals 16]=[.tuple #[.int .i64 id,.nilIface]]∧vals 18=.nilIface)
     rw [X8 (show [vals 18]=[vals 20] from h20),q2]
    simp only [hv15,e16,e19,e20];have HY:=zh hj5;clear hv15 e16 e19 e20 h15 h16 h17 h18 h19 h20 hj5;have hge:1<=id5:=idt_pos HY.out.2.2.2;have d50:decide ((id5:Int)<1)=false:=(by simp;omega)
    have d50n:decide (id5<1)=false:=(by simp;omega)
    go_wp2_with (first|go_big_skip|refine sL ?_|(refine sS ?_;clear H;intros;rename_i H)|((with_reducible refine isSlice ?_);refine AtSlice.one H rfl rfl rfl rfl rfl rfl rfl rfl rfl ?_;clear H;intro b6 _ H;simp only [Act.put,puA,puB,puC])|((with_reducible refine isAppend ?_);refine AtAppend.go (enc:=encI) H rfl rfl rfl rfl rfl (by decide) (by decide) rfl (xs:=ids) pk rfl (H.at pk) [id5] rfl (by simp [flatG,encI]) encI_len encI_one (by simp;omega) ?_;clear H;intro ad9 cp9 _ H;simp only [Act.put,puA,puB,puC]));go_roundg (n-(i+1));case measure=>omega
    case rel =>
     have h1:=HRL.out;have h2:=HY.out;exact ⟨i+1,X5,ids++[id5],rfl,by omega,by go_num,⟨h1.1.step h1.2.2.1.ok h2.1.le HTT.out h2.2.2.2,h1.2.1.trans h2.1,h2.2.1,by omega⟩,H.picks (.cons pk (.cons pk .nil))⟩
  ·have d90:decide ((i:Int)<(n:Int))=false:=(by simp;omega);have d90n:decide (i<n)=false:=(by simp;omega);have hin:n=i:=(by omega);subst hin;clear hrel;go_wp2_with (first|refine sL ?_|(refine sS ?_;clear H;intros;rename_i H));go_ret2;exact ⟨X2,_,ids,rfl,HRL.out.2.1,HRL.out.2.2.1,HRL.out.1,HRL.out.2.2.2,H.picks (.cons pk (.cons pk .nil))⟩
end
section
open Go.RowKit Go.Maps
attribute [local go_sem] InGr strB_size
def encZ (x:Int):List Value:=[.int .i64 x]
theorem encZ_len (x:Int):(encZ x).length=1:=rfl
def RowT (S:Sto) (ids:List Nat) (ts:List Nat):Prop:=∃ us:List Tr,DenL S ids us∧(us.map Tr.txt).flatten=ts
theorem RowT.le {S S':Sto} {ids ts:List Nat} (h:RowT S ids ts) (hS:S.Ok) (hl:S.Le S'):RowT S' ids ts:=by
 obtain ⟨us,h1,h2⟩:=h;exact ⟨us,h1.le hS hl,h2⟩
theorem RowT.snoc {S:Sto} {ids ts:List Nat} {a b:Nat} (h:RowT S ids ts) (ha:Den S a (.leaf b)):RowT S (ids++[a]) (ts++[b]):=by
 obtain ⟨us,h1,h2⟩:=h;exact ⟨us++[.leaf b],h1.snoc ha,by simp [h2,Tr.txt]⟩
end
section
open Go.RowKit Go.Maps
attribute [local go_sem] InGr strB_size
abbrev OfLPost (X1 X2:Px) (T:Tr) (x:Nat) (K:List (Nat×Nat)) (bm mp:Nat) (N:List Nat) (w:World) (e:Ending) (w':World):Prop :=
 ∃ (X':Px) (K':List (Nat×Nat)) (y:Nat),e=.returned (.tuple #[.int .i64 y,.nilIface])∧X2.Ext X'∧PxOk X'∧KnOk X'.S K'∧IdIs X'.S y (T.txt.map Tr.leaf)∧(∀ q∈K,q∈K')∧X'.S.list.length<=X2.S.list.length+14788∧(x<=40->X'.S.list.length+1200*unkN 40 (kys K')<=X2.S.list.length+1200*unkN 40 (kys K))∧St w N [pA X',blk bm (.cells #[.pointer (some ⟨X1.p,0,none⟩),.map (some mp)] 138),mapA Tryz.prog 26 mp (K'.map encK)] w'
theorem ofL_c {X1 X2:Px} {bm mp x:Nat} {T:Tr} {K:List (Nat×Nat)} (hD:Den X2.S x T) (hT:T.len<=300) (hm:X1.S.most=1048576) (hE:X1.Ext X2) (hO:PxOk X2) (hK:KnOk X2.S K) (hroom:X2.S.list.length<=900000) (w:World) (h:((pA X2).sep ((blk bm (.cells #[.pointer (some ⟨X1.p,0,none⟩),.map (some mp)] 138)).sep (mapA Tryz.prog 26 mp (K.map encK)))).ho w) (hd:(((pA X2).sep ((blk bm (.cells #[.pointer (some ⟨X1.p,0,none⟩),.map (some mp)] 138)).sep (mapA Tryz.prog 26 mp (K.map encK)))).sep deA).ho w) :
  Calls Tryz.prog 35 #[.pointer (some ⟨bm,0,none⟩),.int .i64 (x:Nat)] w (OfLPost X1 X2 T x K bm mp ((pA X2).sep ((blk bm (.cells #[.pointer (some ⟨X1.p,0,none⟩),.map (some mp)] 138)).sep (mapA Tryz.prog 26 mp (K.map encK)))).fp w):=by
 obtain ⟨i,en,hi,hx,hte⟩:=den_get hD;have hp2:T.Pow2:=(by rw [← hte];exact (tr_len hO.ok i en hx).2);have hc:=costT_le hp2 hT;have hmm:=hE.le.1;have htr:X2.S.tr x=T:=hD.2.2;rw [← hE.p] at h hd;by_cases h40:x<=40
 ·have:=of_g (X:=X2) (bm:=bm) (mp:=mp) (n0:=40) hO hD.1 hD.2.1 h40 hK (by rw [htr];exact hT) (by rw [htr];omega) (by omega) w h hd;rw [hE.p] at this;refine this.mono ?_;rintro e w' ⟨X',K',y,rfl,z1,z2,z3,z4,z5,z6,z7,z8⟩;rw [htr] at z4 z6;exact ⟨X',K',y,rfl,z1,z2,z3,z4,z5,by omega,fun _=>z7,by rw [hE.p] at z8;exact z8⟩
 ·have:=of_g (X:=X2) (bm:=bm) (mp:=mp) (n0:=x) hO hD.1 hD.2.1 (Nat.le_refl _) hK (by rw [htr];exact hT) (by rw [htr];omega) (by omega) w h hd;rw [hE.p] at this;refine this.mono ?_;rintro e w' ⟨X',K',y,rfl,z1,z2,z3,z4,z5,z6,z7,z8⟩;rw [htr] at z4 z6;exact ⟨X',K',y,rfl,z1,z2,z3,z4,z5,by omega,fun q=>absurd q h40,by rw [hE.p] at z8;exact z8⟩
theorem St.ho9 {w0 w:World} {M:List Nat} {A:As} {L:List As} (h:St w0 M (A::L) w):A.ho w:=h.ho _ List.mem_cons_self
structure LwOk (X1:Px) (ids:List Nat) (ts:List (List Nat)) (n:Nat):Prop where
 ok:PxOk X1
 most:X1.S.most=1048576
 len:X1.S.list.length<=40
 il:ids.length=n
 n40:n<=40
 at_:∀ j,j<n->∃ x T t,ids[j]?=some x∧ts[j]?=some t∧Den X1.S x T∧T.txt=t∧T.len<=300∧x<=40∧t.length<=300∧t≠[]∧∀ b∈t,b<256
theorem LwOk.of {X0 X1:Px} {g:List Gz} {ids:List Nat} {ts:List (List Nat)} {n:Nat} (hT:TxP g ts n) (hg:g.length=n) (hn:n<=40) (h0:X0.S=⟨1048576,[]⟩) (hE:X0.Ext X1) (hO:PxOk X1) (hI:IdsOk X1.S ids ts n) (hl:X1.S.list.length<=X0.S.list.length+n):LwOk X1 ids ts n:=by
 have hl0:X0.S.list.length=0:=(by rw [h0];rfl);have hm:X0.S.most=1048576:=(by rw [h0]);refine ⟨hO,hE.le.1.trans hm,by omega,hI.len,hn,fun j hj=>?_⟩;obtain ⟨t,h1,h2,h3,h4,_⟩:=hT.at_ j _ hj (zg (by omega));obtain ⟨x,hx,T,hD,hTt⟩:=hI.at_ j t hj h1;exact ⟨x,T,t,hx,h1,hD,hTt,by rw [← Tr.txt_len,hTt];exact h2,by have:=hD.2.1;omega,h2,h3,h4⟩
theorem unkN_nil:unkN 40 (kys [])=41:=by decide +kernel
theorem idIs_eq {S S':Sto} {y z:Nat} {s:List Tr} (h:IdIs S y s) (hS:S.Ok) (hl:S.Le S') (hS':S'.Ok) (k:IdIs S' z s):z=y:=k.uniq hS' (h.le hS hl)
theorem lw_text {P:PoolT} {g:List Gz} {v1:Value} {n:Nat} (r1:RowIn P encGz 5 v1 g) (hb:∀ q∈g,q.lt<256) (hn:g.length=n) (h40:n<=40) (w:World) (h:(poolA P).ho w):Calls Tryz.prog 32 #[v1,.int .i64 300] w fun e w'=>∃ (v:Value) (ok:Bool) (ts:List (List Nat)),e=.returned (.tuple #[v,.bool ok])∧(ok=true->TxP g ts n)∧St w [] [rowsA encW 9 1 v ts] w':=by
 subst hn;exact texts_c r1 hb h40 w h
theorem lw_add {P:PoolT} {g:List Gz} {ts:List (List Nat)} {v1:Value} {n:Nat} {X0:Px} (r1:RowIn P encGz 5 v1 g) (hb:∀ q∈g,q.lt<256) (hn:g.length=n) (h40:n<=40) (hX:PxOk X0) (h0:X0.S=⟨1048576,[]⟩) (hT:TxP g ts n) (w:World) (h:((pA X0).sep (poolA P)).ho w):Calls Tryz.prog 34 #[.pointer (some ⟨X0.s,0,none⟩),v1] w fun e w'=>∃ (X1:Px) (v':Value) (ids:List Nat),e=.returned (.tuple #[v',.bool true])∧X0.Ext X1∧PxOk X1∧IdsOk X1.S ids ts n∧X1.S.list.length<=X0.S.list.length+n∧St w (pA X0).fp [pA X1,rowsA encI 26 1 v' ids] w':=by
 subst hn;exact addL_c r1 hT hb h40 hX (by rw [h0];simp) w h
def OrRel (X1:Px) (w:World) (bm mp gi ci n:Nat) (ids:List Nat) (nb m:Nat) (v:Value) (wr:World):Prop :=
 ∃ (i:Nat) (X2:Px) (K2:List (Nat×Nat)),m=nb-i∧i<=nb∧v=.int .i64 i∧(X1.Ext X2∧PxOk X2∧KnOk X2.S K2∧X2.S.list.length+1200*unkN 40 (kys K2)<=X1.S.list.length+1200*41)∧St w [] [pA X2,blk bm (.cells #[.pointer (some ⟨X1.p,0,none⟩),.map (some mp)] 138),mapA Tryz.prog 26 mp (K2.map encK),rowsA encI 26 1 (.slice (some ⟨gi,0,none⟩) n ci) ids] wr
theorem order_law {P:PoolT} {g:List Gz} {bf:List Int} {v1 v2:Value} (r1:RowIn P encGz 5 v1 g) (r2:RowIn P encZ 1 v2 bf) (hb:∀ q∈g,q.lt<256) (w:World) (hde:deA.ho w) (hp:(poolA P).ho w) :
  Calls Tryz.prog 6 #[v1,v2] w fun e w'=>e=.returned (.bool true)∧St w [] [] w':=by
 have H:=St.nil w [];have HK:Ks w [] [deA,poolA P]:=Ks.two hde hp;have HAL:Hid (∀ w,deA.ho w->Calls Tryz.prog 31 #[] w fun e w'=>e=.returned (.bool true)∧St w [] [] w'):=zh fun w h=>alive_c w h
 have HST:Hid (∀ w,Calls Tryz.prog 33 #[.int .i64 1048576] w (StartR 1048576 w)):=zh fun w=>start_c 1048576 (by decide) _ rfl w
 obtain ⟨n,hn⟩:∃ n,g.length=n:=⟨_,rfl⟩
 obtain ⟨ad1,c1,e1,_⟩:=r1.shape;rw [hn] at e1;obtain ⟨m,hm⟩:∃ m,bf.length=m:=⟨_,rfl⟩
 obtain ⟨ad2,c2,e2,_⟩:=r2.shape;rw [hm] at e2;subst e1 e2;have HIN:Hid (RowIn P encGz 5 (.slice ad1 n c1) g∧g.length=n∧(∀ q∈g,q.lt<256)∧RowIn P encZ 1 (.slice ad2 m c2) bf∧bf.length=m):=zh ⟨r1,hn,hb,r2,hm⟩;clear r1 r2 hb hn hm hde hp;by_cases hz0:n=0
 ·have e0:((n:Int)==0)=true:=(by simp;omega);go_enter Tryz.func6,Tryz.ntmps6;go_wp2_with (first|refine sL ?_|(refine sS ?_;clear H;intros;rename_i H)|(go_at_call 31;with_reducible refine zm (HAL.out _ (H.known HK pk)) ?_;rintro e9 wc ⟨rfl,hb⟩;replace H:=H.grew hb.below;clear hb));go_ret;exact ⟨rfl,H.nix⟩
 have e0:((n:Int)==0)=false:=(by simp;omega);by_cases hz1:40<n
 ·have e1:decide ((40:Int)<(n:Int))=true:=(by simp;omega);have e2:decide (40<n)=true:=(by simp;omega);go_enter Tryz.func6,Tryz.ntmps6;go_wp2_with (first|refine sL ?_|(refine sS ?_;clear H;intros;rename_i H)|(go_at_call 31;with_reducible refine zm (HAL.out _ (H.known HK pk)) ?_;rintro e9 wc ⟨rfl,hb⟩;replace H:=H.grew hb.below;clear hb));go_ret;exact ⟨rfl,H.nix⟩
 have e1:decide ((40:Int)<(n:Int))=false:=(by simp;omega);have e2:decide (40<n)=false:=(by simp;omega);by_cases hz2:40<m
 ·have e3:decide ((40:Int)<(m:Int))=true:=(by simp;omega);have e4:decide (40<m)=true:=(by simp;omega);go_enter Tryz.func6,Tryz.ntmps6;go_wp2_with (first|refine sL ?_|(refine sS ?_;clear H;intros;rename_i H)|(go_at_call 31;with_reducible refine zm (HAL.out _ (H.known HK pk)) ?_;rintro e9 wc ⟨rfl,hb⟩;replace H:=H.grew hb.below;clear hb));go_ret;exact ⟨rfl,H.nix⟩
 have e3:decide ((40:Int)<(m:Int))=false:=(by simp;omega);have e4:decide (40<m)=false:=(by simp;omega);have HTX:Hid (∀ w,(poolA P).ho w->Calls Tryz.prog 32 #[.slice ad1 n c1,.int .i64 300] w fun e w'=>∃ (v:Value) (ok:Bool) (ts:List (List Nat)),e=.returned (.tuple #[v,.bool ok])∧(ok=true->TxP g ts n)∧St w [] [rowsA encW 9 1 v ts] w'):=zh fun w h=>lw_text HIN.out.1 HIN.out.2.2.1 HIN.out.2.1 (by omega) w h
 have HAD:Hid (∀ (X0:Px) (ts:List (List Nat)),PxOk X0->X0.S=⟨1048576,[]⟩->TxP g ts n->∀ w,((pA X0).sep (poolA P)).ho w->Calls Tryz.prog 34 #[.pointer (some ⟨X0.s,0,none⟩),.slice ad1 n c1] w fun e w'=>∃ (X1:Px) (v':Value) (ids:List Nat),e=.returned (.tuple #[v',.bool true])∧X0.Ext X1∧PxOk X1∧IdsOk X1.S ids ts n∧X1.S.list.length<=X0.S.list.length+n∧St w (pA X0).fp [pA X1,rowsA encI 26 1 v' ids] w'):=zh fun X0 ts q1 q2 q3 w h=>lw_add HIN.out.1 HIN.out.2.2.1 HIN.out.2.1 (by omega) q1 q2 q3 w h
 go_enter Tryz.func6,Tryz.ntmps6;go_wp2_with (first|refine sL ?_|(refine sS ?_;clear H;intros;rename_i H)|(go_at_call 31;with_reducible refine zm (HAL.out _ (H.known HK pk)) ?_;rintro e9 wc ⟨rfl,hb⟩;replace H:=H.grew hb.below;clear hb));refine zm (HTX.out _ (H.known HK pk)) ?_;rintro e9 wc ⟨vt,ok,ts,rfl,hok,hb⟩;replace H:=zn (H.call0 hb);clear hb;cases ok
 ·clear hok;go_wp2_with (first|refine sL ?_|(refine sS ?_;clear H;intros;rename_i H));go_ret;exact ⟨rfl,H.picks .nil⟩
 have HTP:=zh (hok rfl);clear hok;go_wp2_with (first|refine sL ?_|(refine sS ?_;clear H;intros;rename_i H)|(go_at_call 33;with_reducible refine zm (HST.out _) ?_;rintro e9 wc ⟨X0,bm,mp,rfl,y1,y2,hb⟩;have HX0:=zh (za y1 y2);clear y1 y2;replace H:=zn (H.call0 hb);clear hb)|(go_at_call 34;with_reducible refine zm (HAD.out X0 ts HX0.out.1 HX0.out.2 HTP.out _ (H.sepK HK pk pk)) ?_;rintro e9 wc ⟨X1,vi,ids,rfl,y1,y2,y3,y4,hb⟩;have HX1:=zh (za y1 (za y2 (za y3 y4)));clear y1 y2 y3 y4;replace H:=zn ((H.pick pk).call hb);clear hb));obtain ⟨gi,ci,e5,_⟩:=rowsA_cases (H.get (A:=rowsA encI 26 1 vi ids) pk) (by rw [HX1.out.2.2.1.len];omega);rw [HX1.out.2.2.1.len] at e5;subst e5;have HLW:=zh (LwOk.of HTP.out HIN.out.2.1 (by omega) HX0.out.2 HX1.out.1 HX1.out.2.1 HX1.out.2.2.1 HX1.out.2.2.2);have HPX:Hid (X1.p=X0.p):=zh HX1.out.1.p;have HOF:Hid (∀ (bm mp:Nat) (X2:Px) (K:List (Nat×Nat)) (x:Nat) (T:Tr),Den X1.S x T->T.len<=300->X1.Ext X2->PxOk X2->KnOk X2.S K->X2.S.list.length<=900000->∀ w,((pA X2).sep ((blk bm (.cells #[.pointer (some ⟨X1.p,0,none⟩),.map (some mp)] 138)).sep (mapA Tryz.prog 26 mp (K.map encK)))).ho w->(((pA X2).sep ((blk bm (.cells #[.pointer (some ⟨X1.p,0,none⟩),.map (some mp)] 138)).sep (mapA Tryz.prog 26 mp (K.map encK)))).sep deA).ho w->Calls Tryz.prog 35 #[.pointer (some ⟨bm,0,none⟩),.int .i64 (x:Nat)] w (OfLPost X1 X2 T x K bm mp ((pA X2).sep ((blk bm (.cells #[.pointer (some ⟨X1.p,0,none⟩),.map (some mp)] 138)).sep (mapA Tryz.prog 26 mp (K.map encK)))).fp w)):=zh fun bm mp X2 K x T q1 q2 q3 q4 q5 q6 w h hd=>ofL_c (q1.le HLW.out.ok.ok q3.le) q2 HLW.out.most q3 q4 q5 q6 w h hd
 have HRW:Hid (∀ (l a:Nat),ids[l]?=some a->∀ w,(rowsA encI 26 1 (.slice (some ⟨gi,0,none⟩) n ci) ids).ho w->w.cell? ⟨gi,l,none⟩=some (.int .i64 (a:Nat))):=zh fun l a hl w h=>by
  have:=rowsA_cell h encI_len hl (j:=0) rfl;simpa using this
 rw [← HPX.out] at H ⊢;have H2:=H.picks (.cons (A:=pA X1) pk (.cons (A:=blk bm (.cells #[.pointer (some ⟨X1.p,0,none⟩),.map (some mp)] 138)) pk (.cons (A:=mapA Tryz.prog 26 mp (([]:List (Nat×Nat)).map encK)) pk (.cons (A:=rowsA encI 26 1 (.slice (some ⟨gi,0,none⟩) n ci) ids) pk .nil))));clear H;have H:=H2;clear H2;have hn40:n<=40:=(by omega);have hm40:m<=40:=(by omega);have hn1:1<=n:=(by omega);clear e0 e1 e2 e3 e4 HAL HST HTX HAD hz0 hz1 hz2;go_loopg [12] m (fun mm v wr=>OrRel X1 w bm mp gi ci n ids m mm v wr);case atStart=>exact ⟨0,X1,[],rfl,Nat.zero_le _,rfl,⟨.refl _,HLW.out.ok,fun q hq=>by simp at hq,by rw [unkN_nil];exact Nat.le_refl _⟩,H⟩
 case round =>
  clear H;obtain ⟨i,X2,K2,rfl,hik,rfl,hrel,H⟩:=hrel;have HRL:=zh hrel;clear hrel;by_cases hlt:i<m
  ·have d90:decide ((i:Int)<(m:Int))=true:=(by simp;omega);have d90n:decide (i<m)=true:=(by simp;omega);have hil:i<m:=hlt;obtain ⟨z,hz⟩:∃ a,bf[i]?=some a:=⟨_,zg (by rw [HIN.out.2.2.2.2];exact hlt)⟩
   obtain ⟨gb,ob,rfl,hcz⟩:∃ gb ob,ad2=some ⟨gb,ob,none⟩∧∀ w,(poolA P).ho w->w.cell? ⟨gb,ob+i,none⟩=some (.int .i64 z):=by
    have hr:=HIN.out.2.2.2.1;obtain ⟨ad',c',e1,_,h3⟩:=id hr;obtain ⟨b,o,rfl,_⟩:=h3 (by have:=gelt hz;omega);injection e1 with e1 _ _
    subst e1;exact ⟨b,o,rfl,fun w h=>hr.cell h (fun _=>rfl) hz rfl⟩
   have HCZ:=zh hcz;clear hcz hz;by_cases hz1:z<0
   ·have d1:decide (0<=z)=false:=(by simp;omega);clear hz1;go_wp2_with (first|go_big_skip|refine sL ?_);go_roundg (m-(i+1));case measure=>omega
    case rel=>exact ⟨i+1,X2,K2,rfl,by omega,by go_num,HRL.out,H⟩
   obtain ⟨j,rfl⟩:∃ j:Nat,z=(j:Nat):=⟨z.toNat,by omega⟩
   have d1:decide ((0:Int)<=(j:Int))=true:=(by simp);by_cases hj:j<n
   ·have d2:decide ((j:Int)<(n:Int))=true:=(by simp;omega);have d2n:decide (j<n)=true:=(by simp;omega);obtain ⟨x,T,t,hx,_,hD,_,hT3,hx40,_⟩:=HLW.out.at_ j hj;have HXC:=zh (HRW.out j x hx);have hHR:=HRL.out;have HOF:=zh (HOF.out bm mp X2 K2 x T hD hT3 hHR.1 hHR.2.1 hHR.2.2.1 (by have:=HLW.out.len;omega));have HX40:=zh hx40;clear hx hD hT3 hHR hz1;go_wp2_with (first|go_big_skip|refine sL ?_|(go_at_call 35;with_reducible refine zm (HOF.out _ (St.join3 (H.pick3 (A:=pA X2) (B:=blk bm (.cells #[.pointer (some ⟨X1.p,0,none⟩),.map (some mp)] 138)) (C:=mapA Tryz.prog 26 mp (K2.map encK)) pk pk pk)).ho9 ((St.join3 (H.pick3 (A:=pA X2) (B:=blk bm (.cells #[.pointer (some ⟨X1.p,0,none⟩),.map (some mp)] 138)) (C:=mapA Tryz.prog 26 mp (K2.map encK)) pk pk pk)).sepK HK .here pk)) ?_;rintro e9 wc ⟨X3,K3,y3,rfl,z1,z2,z3,z4,z5,z6,z7,hb⟩;have HZ3:=zh (za z1 (za z2 (za z3 (za z4 (za z5 (za z6 z7))))));clear z1 z2 z3 z4 z5 z6 z7;replace H:=zn ((St.join3 (H.pick3 (A:=pA X2) (B:=blk bm (.cells #[.pointer (some ⟨X1.p,0,none⟩),.map (some mp)] 138)) (C:=mapA Tryz.prog 26 mp (K2.map encK)) pk pk pk)).call hb);clear hb));go_roundg (m-(i+1));case measure=>omega
    case rel =>
     have h1:=HRL.out;have h2:=HZ3.out;exact ⟨i+1,X3,K3,rfl,by omega,by go_num,⟨h1.1.trans h2.1,h2.2.1,h2.2.2.1,by have:=h2.2.2.2.2.2.2 HX40.out;omega⟩,H.picks (.cons pk (.cons pk (.cons pk (.cons pk .nil))))⟩
   ·have d2:decide ((j:Int)<(n:Int))=false:=(by simp;omega);have d2n:decide (j<n)=false:=(by simp;omega);clear hz1;go_wp2_with (first|go_big_skip|refine sL ?_);go_roundg (m-(i+1));case measure=>omega
    case rel=>exact ⟨i+1,X2,K2,rfl,by omega,by go_num,HRL.out,H⟩
  ·have d90:decide ((i:Int)<(m:Int))=false:=(by simp;omega);have d90n:decide (i<m)=false:=(by simp;omega);obtain ⟨n1,hnn1⟩:∃ k,n=k+1:=⟨n-1,by omega⟩
   obtain ⟨x,T,t,hx,_,hD,_,hT3,hx40,_⟩:=HLW.out.at_ n1 (by omega);have HXC:=zh (HRW.out n1 x hx);have i1:(n:Int)-1=(n1:Nat):=(by omega);have hn1n:n1<n:=(by omega);have HCN:Hid (∀ w,Calls Tryz.prog 36 #[.pointer (some ⟨X1.p,0,none⟩)] w fun e w'=>∃ bm mp:Nat,e=.returned (.pointer (some ⟨bm,0,none⟩))∧St w [] [blk bm (.cells #[.pointer (some ⟨X1.p,0,none⟩),.map (some mp)] 138),mapA Tryz.prog 26 mp (([]:List (Nat×Nat)).map encK)] w'):=zh fun w=>cnew_c w
   have hHR:=HRL.out;have HO1:=zh (HOF.out bm mp X2 K2 x T hD hT3 hHR.1 hHR.2.1 hHR.2.2.1 (by have:=HLW.out.len;omega));have HO2:Hid (∀ (X3:Px) (bm2 mp2:Nat),X2.Ext X3->PxOk X3->X3.S.list.length<=X2.S.list.length+14788->∀ w,((pA X3).sep ((blk bm2 (.cells #[.pointer (some ⟨X1.p,0,none⟩),.map (some mp2)] 138)).sep (mapA Tryz.prog 26 mp2 (([]:List (Nat×Nat)).map encK)))).ho w->(((pA X3).sep ((blk bm2 (.cells #[.pointer (some ⟨X1.p,0,none⟩),.map (some mp2)] 138)).sep (mapA Tryz.prog 26 mp2 (([]:List (Nat×Nat)).map encK)))).sep deA).ho w->Calls Tryz.prog 35 #[.pointer (some ⟨bm2,0,none⟩),.int .i64 (x:Nat)] w (OfLPost X1 X3 T x [] bm2 mp2 ((pA X3).sep ((blk bm2 (.cells #[.pointer (some ⟨X1.p,0,none⟩),.map (some mp2)] 138)).sep (mapA Tryz.prog 26 mp2 (([]:List (Nat×Nat)).map encK)))).fp w)):=zh fun X3 bm2 mp2 q1 q2 q3=>HOF.out bm2 mp2 X3 [] x T hD hT3 (hHR.1.trans q1) q2 (fun q hq=>by simp at hq) (by have:=HLW.out.len;have:=hHR.2.2.2;omega)
   have HX1P:=HPX;clear hx hD hT3 hHR hlt hx40 hnn1;go_wp2_with (first|refine sL ?_|(refine sS ?_;clear H;intros;rename_i H)|(go_at_call 36;with_reducible refine zm (HCN.out _) ?_;rintro e9 wc ⟨bm2,mp2,rfl,hb⟩;replace H:=zn (H.call0 hb);clear hb)|(first|(go_at_call 35;with_reducible refine zm (HO1.out _ (St.join3 (H.pick3 (A:=pA X2) (B:=blk bm (.cells #[.pointer (some ⟨X1.p,0,none⟩),.map (some mp)] 138)) (C:=mapA Tryz.prog 26 mp (K2.map encK)) pk pk pk)).ho9 ((St.join3 (H.pick3 (A:=pA X2) (B:=blk bm (.cells #[.pointer (some ⟨X1.p,0,none⟩),.map (some mp)] 138)) (C:=mapA Tryz.prog 26 mp (K2.map encK)) pk pk pk)).sepK HK .here pk)) ?_;rintro e9 wc ⟨X3,K3,y3,rfl,z1,z2,z3,z4,z5,z6,z7,hb⟩;have HZ3:=zh (za z1 (za z2 (za z3 (za z4 (za z5 (za z6 z7))))));clear z1 z2 z3 z4 z5 z6 z7;replace H:=zn ((St.join3 (H.pick3 (A:=pA X2) (B:=blk bm (.cells #[.pointer (some ⟨X1.p,0,none⟩),.map (some mp)] 138)) (C:=mapA Tryz.prog 26 mp (K2.map encK)) pk pk pk)).call hb);clear hb)|(go_at_call 35;with_reducible refine zm (HO2.out X3 bm2 mp2 HZ3.out.1 HZ3.out.2.1 HZ3.out.2.2.2.2.2.1 _ (St.join3 (H.pick3 (A:=pA X3) (B:=blk bm2 (.cells #[.pointer (some ⟨X1.p,0,none⟩),.map (some mp2)] 138)) (C:=mapA Tryz.prog 26 mp2 (([]:List (Nat×Nat)).map encK)) pk pk pk)).ho9 ((St.join3 (H.pick3 (A:=pA X3) (B:=blk bm2 (.cells #[.pointer (some ⟨X1.p,0,none⟩),.map (some mp2)] 138)) (C:=mapA Tryz.prog 26 mp2 (([]:List (Nat×Nat)).map encK)) pk pk pk)).sepK HK .here pk)) ?_;rintro e9 wc ⟨X4,K4,y4,rfl,z1,z2,z3,z4,z5,z6,z7,hb⟩;have HZ4:=zh (za z1 (za z2 (za z3 (za z4 (za z5 (za z6 z7))))));clear z1 z2 z3 z4 z5 z6 z7;replace H:=zn ((St.join3 (H.pick3 (A:=pA X3) (B:=blk bm2 (.cells #[.pointer (some ⟨X1.p,0,none⟩),.map (some mp2)] 138)) (C:=mapA Tryz.prog 26 mp2 (([]:List (Nat×Nat)).map encK)) pk pk pk)).call hb);clear hb;obtain rfl:=idIs_eq HZ3.out.2.2.2.1 HZ3.out.2.1.ok HZ4.out.1.le HZ4.out.2.1.ok HZ4.out.2.2.2.1)));go_ret;exact ⟨rfl,H.picks .nil⟩
end
section
open Go.ChangeShapes Go.WideShapes Go.ChangeAt Go.RowKit Go.Deep
theorem ownK:ownKnob Tryz.prog.godebug=none:=by kernel_rfl
theorem u8_wf {x:Int} (h:(Lit.int .u8 x).wf=true):∃ n:Nat,x=(n:Int)∧n<256:=by
 simp [Lit.wf,IntKind.min,IntKind.max,IntKind.signed,IntKind.bits] at h;exact ⟨x.toNat,by omega,by omega⟩
section
variable {H:Type} {enc:TypeId×Value->H} {w:World} {base:Nat} {spare:Nat->Bool} {held:Bool}
theorem open_row {α:Type} [Inhabited α] {ec:α->List Value} {k:Nat} (hk:∀ x,(ec x).length=k) (hk0:0<k) {t e:TypeId} (ht:Tryz.prog.underlying t=some (.slice e)) (hc:Tryz.prog.cellsOf e=k) (Ok:α->Prop)
  (el:∀ n cs y,cs.length=k->DataW.trod enc Tryz.prog w base spare held n e cs=some y->∃ x,cs=ec x∧Ok x) {fuel:Nat} {cs:List Value} {x:DataW H×List MemPlace} (h:DataW.trod enc Tryz.prog w base spare held fuel t cs=some x) :
  ∃ (v:Value) (xs:List α) (P:PoolT),cs=[v]∧RowIn P ec k v xs∧(poolA P).ho w∧(∀ x∈xs,Ok x)∧∃ ad c,v=.slice ad xs.length c∧xs.length<=c:=by
 rcases open_slice ht h with ⟨hcs,_⟩|⟨a,len,cap,m,n,D,Pl,hcs,_,hl,hm,hmm,_,hx⟩
 ·exact ⟨_,[],[],hcs,RowIn.nil 0,poolA_nil w,by simp,_,_,rfl,Nat.le_refl _⟩
 ·have hml:len<=m:=(by rw [hmm];split <;> omega);rw [hc] at hx;by_cases h0:len=0
  ·subst h0;exact ⟨_,[],[],hcs,⟨some a,cap,rfl,by simp,fun h=>by simp at h⟩,poolA_nil w,by simp,_,_,rfl,Nat.zero_le _⟩
  obtain ⟨b,o,spot⟩:=a;have key:∀ i,i<len->∃ x:α,w.cells? base ((⟨b,o,spot⟩:Addr).add (i*k)) k=some (ec x)∧Ok x:=fun i hi=>by
   obtain ⟨cs',h1,h2⟩:=hx i (by omega);obtain ⟨x,rfl,hok⟩:=el _ _ _ (World.cells?_some h1).2.1 h2;exact ⟨x,h1,hok⟩
  obtain ⟨f,hf2⟩:=choose_lt (α:=α) key;have hcell:∀ i,i<len->∀ j u,(ec (f i))[j]?=some u->w.cell? (((⟨b,o,spot⟩:Addr).add (i*k)).add j)=some u:=fun i hi j u hj=>by
   have hj4:j<k:=(by have:=(List.getElem?_eq_some_iff.1 hj).1;rwa [hk] at this);have:=(World.cells?_some (hf2 i hi).1).2.2 j hj4;rw [this,hj]
  have hl4:0<(ec (f 0)).length:=(by rw [hk];omega);have hspot:spot=none:=by
   have:=World.cell?_spot (hcell 0 (by omega) 0 _ (zg hl4));simpa [Addr.add] using this
  subst hspot;have hadd:∀ i j,((⟨b,o,none⟩:Addr).add (i*k)).add j=⟨b,o+(i*k+j),none⟩:=fun i j=>by rw [Addr.add_mid,Addr.add_mid];congr 1;omega
  have hblk:b<w.heap.size:=by
   have:=block_lt_of_cell (hcell 0 (by omega) 0 _ (zg hl4));rw [hadd] at this;exact this
  unfold maxLen at hm;have hlen:((List.range len).map f).length=len:=(by simp);refine ⟨_,(List.range len).map f,[(b,o,flatG ec ((List.range len).map f))],hcs,⟨some ⟨b,o,none⟩,cap,by rw [hlen],by rw [hlen];unfold maxLen;omega,fun _=>⟨b,o,rfl,by simp⟩⟩,?_,?_,_,cap,by rw [hlen],by rw [hlen];exact hl⟩
  ·rw [poolA_ho];intro y hy;simp only [List.mem_singleton] at hy;subst hy;refine ⟨hblk,fun jj u hj=>?_⟩;have hjl:=getElem_len hj;rw [flatG_len ec k hk,hlen] at hjl;have hi:jj/k<len:=(by rw [Nat.div_lt_iff_lt_mul hk0];exact hjl);have hjk:jj%k<k:=Nat.mod_lt _ hk0;have hget:((List.range len).map f)[jj/k]?=some (f (jj/k)):=(by rw [List.getElem?_map,List.getElem?_range hi];rfl);have hfl:=flatG_get ec k hk _ (jj/k) _ hget (jj%k) hjk;have hdm:jj/k*k+jj%k=jj:=(by have:=Nat.div_add_mod jj k;rw [Nat.mul_comm] at this;exact this);rw [hdm,hj] at hfl;have:=hcell (jj/k) hi (jj%k) u hfl.symm;rw [hadd,hdm] at this;exact this
  ·intro y hy;obtain ⟨i,hi,rfl⟩:=List.mem_map.1 hy;exact (hf2 i (List.mem_range.1 hi)).2
end
theorem gTab:Tryz.prog.globalNamed "math/bits.deBruijn64tab"=some 0:=by kernel_rfl
theorem tTab:(Tryz.prog.globals[0]?).map (·.type)=some 291:=by kernel_rfl
theorem tab_is {H:Type}:(Rows.laid_math_bits_deBruijn64tab:DataW H)=.agg (Lib.deBruijn64tab.map fun (n:Nat)=>.lit (.int .u8 n)):=rfl
theorem tab_of {W:World} (h:laidMetH Tryz.prog [("math/bits.deBruijn64tab",Rows.laid_math_bits_deBruijn64tab)] W):deA.ho W:=by
  rw [deA_ho];rw [MakeChecks.laidMetH_plain _ _ _ (by kernel_rfl)] at h;obtain ⟨ps,⟨g0,t0,cs0,f0,p0,q0,hg0,ht0,hv0,hd0,_,_⟩,_,_⟩:=h;obtain rfl:=Option.some.inj (gTab.symm.trans hg0);obtain rfl:=Option.some.inj (tTab.symm.trans ht0);obtain ⟨xs,m1,hfu,hx1,hlen,hn3,hel⟩:=DataW.trod_array Tryz.underlying291 hd0;have c5:Tryz.prog.cellsOf 5=1:=(by kernel_rfl);have key:∀ j,j<64->W.cell? ⟨0,j,none⟩=some (.int .u8 (Lib.deBruijn64tab.getD j 0:Nat)):=fun j hj=>by
    have h0:=hel j hj;rw [c5] at h0;obtain ⟨y,hy⟩:∃ y,xs[j]?=some y:=⟨xs[j]'(by omega),zg _⟩
    rw [hy] at h0;obtain ⟨k,e1,e2,_⟩:=DataW.trod_int Tryz.underlying5 h0;rw [tab_is] at hx1;simp only [Prod.mk.injEq,DataW.agg.injEq] at hx1;have e3:=congrArg (fun l:List (DataW Unit)=>l[j]?) hx1.1;simp only [List.getElem?_map,hy,Option.map_some] at e3
    have hl : j < Lib.deBruijn64tab.length := by have : Lib.deBruijn64tab.length = 64 := by decide
                                                 omega
    rw [zg hl,Option.map_some] at e3;have hk:k=(Lib.deBruijn64tab[j]:Nat):=by
      have:=Option.some.inj e3;rw [e2] at this;simp at this;exact this.symm
    have hcl:=World.var?_cell hg0 hv0 j;have e4:cs0.toList[j]?=some (.int .u8 k):=by
      have:=congrArg List.head? e1;rw [Nat.mul_one,List.head?_take,if_neg (by omega),List.head?_drop] at this;simpa using this
    rw [hcl,← Array.getElem?_toList,e4,hk];simp [List.getD,hl]
  have h64:Lib.deBruijn64tab.length=64:=(by decide);exact ⟨fun j hj=>key j (by omega),by have:=block_lt_of_cell (key 0 (by omega));exact this⟩
theorem door_met (os:Os) (args:Array Value):laidMetH Tryz.prog [("math/bits.deBruijn64tab",Rows.laid_math_bits_deBruijn64tab)] ((World.doorLaid Tryz.prog 400 os).forCall (fun _ _=>0) ⟨#[],args,[]⟩).memory :=
 laidMetH_of_parts3 (fuel:=80) (laidMet_of_run' 80 (by kernel_rfl) (by kernel_rfl)) (by kernel_rfl) (by kernel_rfl)
end
section
open Go.ChangeShapes Go.WideShapes Go.ChangeAt Go.RowKit Go.Deep
section
variable {H:Type} {enc:TypeId×Value->H} {w:World} {base:Nat} {spare:Nat->Bool} {held:Bool}
instance:Inhabited Gz:=⟨⟨0,0,0,0,0⟩⟩
theorem argZ_ints {r:Reach} {b0:Nat} {v:Value} {d:DataW H} {p:List MemPlace} (hv:Value.okWide Tryz.prog w r b0 55 v) (h:DataW.Trod enc Tryz.prog w base spare held 55 v d p) :
  ∃ (xs:List Int) (P:PoolT),RowIn P encZ 1 v xs∧(poolA P).ho w:=by
 obtain ⟨a,n,c,rfl⟩:=okWide_slice Tryz.underlying55 hv;obtain ⟨fuel,hf⟩:=h;have c5:Tryz.prog.cellsOf 3=1:=(by kernel_rfl);obtain ⟨v2,xs,P,e,h1,h2,h3,ad,c2,h4,h5⟩:=open_row (ec:=encZ) encZ_len (by omega) Tryz.underlying55 c5 (fun _=>True) (fun n cs y hl hy=>by
  obtain ⟨z,rfl,_,hz⟩:=DataW.trod_int Tryz.underlying3 hy;exact ⟨z,rfl,trivial⟩) hf
 simp only [Value.cells,List.cons.injEq,and_true] at e;first|subst e|(have e:=(List.cons.inj e).1;subst e)
 exact ⟨xs,P,h1,h2⟩
theorem trod_rule {n:Nat} {cs:List Value} {y:DataW H×List MemPlace} (hl:cs.length=5) (h:DataW.trod enc Tryz.prog w base spare held n 131 cs=some y):∃ q:Gz,cs=encGz q∧q.lt<256:=by
 obtain ⟨a0,a1,a2,a3,a4,rfl⟩:∃ a0 a1 a2 a3 a4,cs=[a0,a1,a2,a3,a4]:=by
  match cs,hl with
  |[a0,a1,a2,a3,a4],_=>exact ⟨a0,a1,a2,a3,a4,rfl⟩
 have c3:Tryz.prog.cellsOf 3=1:=(by kernel_rfl);have c4:Tryz.prog.cellsOf 5=1:=(by kernel_rfl);have c9:Tryz.prog.cellsOf 26=1:=(by kernel_rfl);obtain ⟨xs,n2,_,rfl,hcl,hlen,hf⟩:=DataW.trod_struct Tryz.underlying131 h
 match xs,hlen with
 |[y0,y1,y2,y3,y4],_ =>
  have f0:DataW.trod enc Tryz.prog w base spare held n2 3 [a0]=some y0:=by
   have:=hf 0 _ rfl;simpa [c3,c4,c9] using this
  have f1:DataW.trod enc Tryz.prog w base spare held n2 5 [a1]=some y1:=by
   have:=hf 1 _ rfl;simpa [c3,c4,c9] using this
  have f2:DataW.trod enc Tryz.prog w base spare held n2 26 [a2]=some y2:=by
   have:=hf 2 _ rfl;simpa [c3,c4,c9] using this
  have f3:DataW.trod enc Tryz.prog w base spare held n2 26 [a3]=some y3:=by
   have:=hf 3 _ rfl;simpa [c3,c4,c9] using this
  have f4:DataW.trod enc Tryz.prog w base spare held n2 3 [a4]=some y4:=by
   have:=hf 4 _ rfl;simpa [c3,c4,c9] using this
  obtain ⟨z0,e0,_,w0⟩:=DataW.trod_int Tryz.underlying3 f0;obtain ⟨z1,e1,_,w1⟩:=DataW.trod_int Tryz.underlying5 f1;obtain ⟨z2,e2,_,w2⟩:=DataW.trod_int Tryz.underlying26 f2;obtain ⟨z3,e3,_,w3⟩:=DataW.trod_int Tryz.underlying26 f3;obtain ⟨z4,e4,_,w4⟩:=DataW.trod_int Tryz.underlying3 f4;simp only [List.cons.injEq,and_true] at e0 e1 e2 e3 e4;subst e0 e1 e2 e3 e4;obtain ⟨k,rfl,hk⟩:=u8_wf w1;exact ⟨⟨z0,k,z2,z3,z4⟩,rfl,hk⟩
theorem arg_rules {r:Reach} {b0:Nat} {v:Value} {d:DataW H} {p:List MemPlace} (hv:Value.okWide Tryz.prog w r b0 54 v) (h:DataW.Trod enc Tryz.prog w base spare held 54 v d p) :
  ∃ (g:List Gz) (P:PoolT),RowIn P encGz 5 v g∧(∀ q∈g,q.lt<256)∧(poolA P).ho w:=by
 obtain ⟨a,n,c,rfl⟩:=okWide_slice Tryz.underlying54 hv;obtain ⟨fuel,hf⟩:=h;have c5:Tryz.prog.cellsOf 131=5:=(by kernel_rfl);obtain ⟨v2,xs,P,e,h1,h2,h3,ad,c2,h4,h5⟩:=open_row (ec:=encGz) encGz_len (by omega) Tryz.underlying54 c5 (fun q=>q.lt<256) (fun n cs y hl hy=>trod_rule hl hy) hf;simp only [Value.cells,List.cons.injEq,and_true] at e;first|subst e|(have e:=(List.cons.inj e).1;subst e)
 exact ⟨xs,P,h1,h3,h2⟩
end
end
end Go.Proofs.YtgnppnokkdghcaaGreatDoor
