/-
  Part 3 of the texts behind the statements of this seat: walks and laws Fu, Gc, Fv, Fx, Gd, Ge, Fh, Fi, Fj, Fy. Conditions: as each states.
-/
import Derived.Test.YtgnppnokkdghcaaGreatDoorAw2
set_option linter.unusedSimpArgs false
set_option linter.unusedVariables false
set_option maxRecDepth 100000
set_option maxHeartbeats 80000000
namespace Go.Proofs.YtgnppnokkdghcaaGreatDoor
section
def jn (k q:Pz):Option Pz :=
 if k.c=true∧q.c=true∧k.f+k.n=q.f then some ⟨k.c,k.f,k.n+q.n,k.t⟩ else if k.c=false∧q.c=false then some ⟨k.c,k.f,k.n,k.t++q.t⟩ else none
def nst (out:List Pz) (q:Pz):List Pz:=match out.getLast? with
 |none=>[q]
 |some k=>match jn k q with
  |some k'=>out.dropLast++[k']
  |none=>out++[q]
def nrm (qs:List Pz):List Pz:=qs.foldl nst []
theorem nst_nil (q:Pz):nst [] q=[q]:=rfl
theorem nst_join {L:List Pz} {k q k':Pz} (h:jn k q=some k'):nst (L++[k]) q=L++[k']:=by
 unfold nst;simp [h]
theorem nst_none {L:List Pz} {k q:Pz} (h:jn k q=none):nst (L++[k]) q=L++[k]++[q]:=by
 unfold nst;simp [h]
theorem nrm_take_succ {l:List Pz} {i:Nat} {q:Pz} (h:l[i]?=some q):nrm (l.take (i+1))=nst (nrm (l.take i)) q:=by
 unfold nrm;rw [List.take_add_one,h];simp [List.foldl_append]
theorem snoc_pz (l:List Pz):l=[]∨∃ L k,l=L++[k]:=by
 rcases List.eq_nil_or_concat l with h|⟨L,k,h⟩
 ·exact .inl h
 ·exact .inr ⟨L,k,by simpa using h⟩
theorem jn_chk {s:Nat} {k q k':Pz} (h:jn k q=some k') (h1:chkP s k=0) (h2:chkP s q=0):chkP s k'=0:=by
 unfold jn at h;obtain ⟨kc,kf,kn,kt⟩:=k;obtain ⟨qc,qf,qn,qt⟩:=q;simp only at h;unfold chkP at h1 h2 ⊢;split at h
 ·rename_i hc;obtain ⟨rfl,rfl,h3⟩:=hc;cases h
  simp only [if_true] at h1 h2 ⊢;have a1:¬ (kt≠[]∨kn<1):=(by intro h;rw [if_pos h] at h1;cases h1);rw [if_neg a1] at h1;have a2:¬ (qt≠[]∨qn<1):=(by intro h;rw [if_pos h] at h2;cases h2);rw [if_neg a2] at h2;have b1:0<=kf∧kf+kn<=s:=by
   by_cases hb:0<=kf∧kf+kn<=s
   ·exact hb
   ·rw [if_neg hb] at h1;cases h1
  have b2:0<=qf∧qf+qn<=s:=by
   by_cases hb:0<=qf∧qf+qn<=s
   ·exact hb
   ·rw [if_neg hb] at h2;cases h2
  rw [if_neg (fun h=>by
   rcases h with h|h
   ·exact a1 (.inl h)
   ·have a3:¬ kn<1:=fun h=>a1 (.inr h)
    have a4:¬ qn<1:=fun h=>a2 (.inr h)
    omega),if_pos ⟨b1.1,by omega⟩]
 ·split at h
  ·rename_i hc;obtain ⟨rfl,rfl⟩:=hc;cases h
   simp only [Bool.false_eq_true,if_false] at h1 h2 ⊢;have a1:¬ (kf≠0∨kn≠0∨kt=[]):=(by intro h;rw [if_pos h] at h1;cases h1);rw [if_neg (fun h=>a1 (by
    rcases h with h|h|h
    ·exact .inl h
    ·exact .inr (.inl h)
    ·exact .inr (.inr (List.append_eq_nil_iff.1 h).1)))]
  ·cases h
theorem nst_chk {s:Nat} {out:List Pz} {q:Pz} (h:∀ x∈out,chkP s x=0) (hq:chkP s q=0):∀ x∈nst out q,chkP s x=0:=by
 rcases snoc_pz out with rfl|⟨L,k,rfl⟩
 ·intro x hx;simp [nst_nil] at hx;subst hx;exact hq
 ·have hk:=h k (by simp);cases hj:jn k q with
  |none =>
   rw [nst_none hj];intro x hx;rcases List.mem_append.1 hx with hx|hx
   ·exact h x hx
   ·simp at hx;subst hx;exact hq
  |some k' =>
   rw [nst_join hj];intro x hx;rcases List.mem_append.1 hx with hx|hx
   ·exact h x (by simp [hx])
   ·simp at hx;subst hx;exact jn_chk hj hk hq
theorem foldl_nst_chk {s:Nat} {qs:List Pz}:∀ {out:List Pz},(∀ x∈out,chkP s x=0)->(∀ q∈qs,chkP s q=0)->∀ x∈qs.foldl nst out,chkP s x=0:=by
 induction qs with
 |nil=>intro out h _;exact h
 |cons q r ih=>intro out h hq;exact ih (nst_chk h (hq q (by simp))) fun x hx=>hq x (by simp [hx])
theorem nrm_chk {s:Nat} {qs:List Pz} (h:∀ q∈qs,chkP s q=0):∀ q∈nrm qs,chkP s q=0:=foldl_nst_chk (by simp) h
theorem nst_len (out:List Pz) (q:Pz):(nst out q).length<=out.length+1:=by
 rcases snoc_pz out with rfl|⟨L,k,rfl⟩
 ·simp [nst_nil]
 ·cases hj:jn k q with
  |none=>rw [nst_none hj];simp
  |some k'=>rw [nst_join hj];simp
theorem foldl_nst_len {qs:List Pz}:∀ {out:List Pz},(qs.foldl nst out).length<=out.length+qs.length:=by
 induction qs with
 |nil=>intro out;simp
 |cons q r ih=>intro out;have h1:=ih (out:=nst out q);have h2:=nst_len out q;simp only [List.foldl_cons,List.length_cons];omega
theorem nrm_len (qs:List Pz):(nrm qs).length<=qs.length:=by have:=foldl_nst_len (qs:=qs) (out:=[]);simpa [nrm] using this
theorem txL_app (a b:List Pz):txL (a++b)=txL a+txL b:=by simp [txL]
theorem jn_tx {s:Nat} {k q k':Pz} (h:jn k q=some k') (hq:chkP s q=0):k'.t.length=k.t.length+q.t.length:=by
 unfold jn at h;split at h
 ·rename_i hc;cases h
  have:q.t=[]:=by
   unfold chkP at hq;rw [if_pos hc.2.1] at hq;by_cases ht:q.t≠[]∨q.n<1
   ·rw [if_pos ht] at hq;cases hq
   ·by_cases h9:q.t=[]
    ·exact h9
    ·exact absurd (.inl h9) ht
  simp [this]
 ·split at h
  ·cases h;simp
  ·cases h
theorem nst_tx {s:Nat} {out:List Pz} {q:Pz} (hq:chkP s q=0):txL (nst out q)=txL out+q.t.length:=by
 rcases snoc_pz out with rfl|⟨L,k,rfl⟩
 ·simp [nst_nil,txL]
 ·cases hj:jn k q with
  |none=>rw [nst_none hj,txL_app _ [q]];simp [txL]
  |some k' =>
   rw [nst_join hj,txL_app,txL_app];have:=jn_tx hj hq;simp [txL,this];omega
theorem foldl_nst_tx {s:Nat} {qs:List Pz}:∀ {out:List Pz},(∀ q∈qs,chkP s q=0)->txL (qs.foldl nst out)=txL out+txL qs:=by
 induction qs with
 |nil=>intro out _;simp [txL]
 |cons q r ih =>
  intro out h;have h1:=ih (out:=nst out q) fun x hx=>h x (by simp [hx])
  have h2:=nst_tx (out:=out) (h q (by simp));have h3:txL (q::r)=q.t.length+txL r:=(by simp [txL]);simp only [List.foldl_cons];omega
theorem nrm_tx {s:Nat} {qs:List Pz} (h:∀ q∈qs,chkP s q=0):txL (nrm qs)=txL qs:=by have:=foldl_nst_tx (out:=[]) h;simpa [nrm,txL] using this
end
section
def sgP (q:Pz) (a k:Nat):Pz:=if q.c then ⟨true,q.f+a,k,[]⟩ else ⟨false,0,0,(q.t.drop a).take k⟩
def win:List Pz->Nat->Nat->List Pz
 |[],_,_=>[]
 |q::r,f,n=>if n=0 then [] else if szP q<=f then win r (f-szP q) n else sgP q f (min n (szP q-f))::win r 0 (n-min n (szP q-f))
def cmpW (qs es:List Pz):List Pz:=es.flatMap fun e=>if e.c then win qs e.f.toNat e.n.toNat else [e]
theorem sg_tx (q:Pz) (a k:Nat):(sgP q a k).t.length<=k:=by
 unfold sgP;split
 ·simp
 ·simp;omega
theorem sg_chk {s:Nat} {q:Pz} {a k:Nat} (h:chkP s q=0) (hk:1<=k) (ha:a+k<=szP q):chkP s (sgP q a k)=0:=by
 have h1:=chk_pos h;unfold szP at ha;unfold sgP chkP;split
 ·rename_i hc;have h2:=h1.2 hc;rw [if_pos hc] at ha;simp only [if_true];rw [if_neg (by simp;omega),if_pos (by omega)]
 ·rename_i hc;rw [if_neg hc] at ha;simp only [Bool.false_eq_true,if_false];rw [if_neg];simp;omega
theorem sg_whole {s:Nat} {q:Pz} (h:chkP s q=0):sgP q 0 (szP q)=q:=by
 obtain ⟨c,f,n,t⟩:=q;have h1:=chk_pos h;unfold chkP at h;cases c
 ·simp only [Bool.false_eq_true,if_false] at h;by_cases h9:f≠0∨n≠0∨t=[]
  ·rw [if_pos h9] at h;cases h
  ·have e1:f=0:=(by omega);have e2:n=0:=(by omega);simp [sgP,szP,e1,e2]
 ·simp only [if_true] at h;by_cases h9:t≠[]∨n<1
  ·rw [if_pos h9] at h;cases h
  ·have e1:t=[]:=by
    by_cases e:t=[]
    ·exact e
    ·exact absurd (.inl e) h9
   simp only [sgP,szP,if_true,e1];have:=h1.1;simp only at this;congr 1
   ·simp
   ·omega
theorem win_chk {s:Nat}:∀ {qs:List Pz} {f n:Nat},(∀ q∈qs,chkP s q=0)->∀ x∈win qs f n,chkP s x=0
 |[],f,n,_,x,hx=>by simp [win] at hx
 |q::r,f,n,h,x,hx=>by
  rw [win] at hx;split at hx
  ·simp at hx
  ·split at hx
   ·exact win_chk (fun y hy=>h y (by simp [hy])) x hx
   ·rcases List.mem_cons.1 hx with rfl|hx
    ·exact sg_chk (h q (by simp)) (by omega) (by omega)
    ·exact win_chk (fun y hy=>h y (by simp [hy])) x hx
theorem win_len:∀ (qs:List Pz) (f n:Nat),(win qs f n).length<=n∧txL (win qs f n)<=n
 |[],f,n=>by simp [win,txL]
 |q::r,f,n=>by
  rw [win];split
  ·simp [txL]
  ·split
   ·exact win_len r _ n
   ·have h1:=win_len r 0 (n-min n (szP q-f));have h2:=sg_tx q f (min n (szP q-f));unfold txL at h1 ⊢;simp only [List.length_cons,List.map_cons,List.sum_cons];omega
theorem win_whole {s:Nat}:∀ {qs:List Pz},(∀ q∈qs,chkP s q=0)->win qs 0 (szL qs)=qs
 |[],_=>rfl
 |q::r,h=>by
  have h0:szL (q::r)=szP q+szL r:=(by simp [szL]);have h1:1<=szP q:=by
   have:=h q (by simp);obtain ⟨c,f,n,t⟩:=q;have h1:=chk_pos this;unfold chkP at this;unfold szP;cases c
   ·simp only [Bool.false_eq_true,if_false] at this ⊢;cases t with
    |nil=>simp at this
    |cons x t=>simp
   ·have:=h1.2 rfl;simp only [if_true] at this ⊢;omega
  rw [win,if_neg (by omega),if_neg (by omega)];have h2:min (szL (q::r)) (szP q-0)=szP q:=(by omega);rw [h2,sg_whole (h q (by simp)),show szL (q::r)-szP q=szL r by omega,win_whole fun x hx=>h x (by simp [hx])]
theorem chk_one {s:Nat} {q:Pz} (h:chkP s q=0):1<=szP q:=by
 obtain ⟨c,f,n,t⟩:=q;have h1:=chk_pos h;unfold chkP at h;unfold szP;cases c
 ·simp only [Bool.false_eq_true,if_false] at h ⊢;cases t with
  |nil=>simp at h
  |cons x t=>simp
 ·have:=h1.2 rfl;simp only [if_true] at this ⊢;omega
theorem cmp_cons (qs:List Pz) (e:Pz) (r:List Pz):cmpW qs (e::r)=(if e.c then win qs e.f.toNat e.n.toNat else [e])++cmpW qs r:=by simp [cmpW]
theorem cmp_app (qs a b:List Pz):cmpW qs (a++b)=cmpW qs a++cmpW qs b:=by simp [cmpW]
theorem cmp_take_succ {qs es:List Pz} {i:Nat} {e:Pz} (h:es[i]?=some e):cmpW qs (es.take (i+1))=cmpW qs (es.take i)++(if e.c then win qs e.f.toNat e.n.toNat else [e]):=by
 rw [List.take_add_one,h,Option.toList_some,cmp_app,cmp_cons];simp [cmpW]
theorem chk_text_any {s s':Nat} {q:Pz} (hc:q.c=false) (h:chkP s q=0):chkP s' q=0:=by
 unfold chkP at h ⊢;rw [hc] at h ⊢;exact h
theorem cmp_chk {s s':Nat} {qs:List Pz} (h:∀ q∈qs,chkP s q=0):∀ {es:List Pz},(∀ e∈es,chkP s' e=0)->∀ x∈cmpW qs es,chkP s x=0
 |[],_,x,hx=>by simp [cmpW] at hx
 |e::r,h2,x,hx=>by
  rw [cmp_cons] at hx;rcases List.mem_append.1 hx with hx|hx
  ·split at hx
   ·exact win_chk h x hx
   ·rename_i hc;simp at hx;subst hx;exact chk_text_any (by simpa using hc) (h2 x (by simp))
  ·exact cmp_chk h (fun y hy=>h2 y (by simp [hy])) x hx
theorem cmp_len {s:Nat} {qs:List Pz}:∀ {es:List Pz},(∀ e∈es,chkP s e=0)->(cmpW qs es).length<=szL es∧txL (cmpW qs es)<=szL es
 |[],_=>by simp [cmpW,szL,txL]
 |e::r,h=>by
  have h0:szL (e::r)=szP e+szL r:=(by simp [szL]);have h1:=cmp_len (qs:=qs) (es:=r) fun y hy=>h y (by simp [hy])
  have h2:=chk_one (h e (by simp));rw [cmp_cons,txL_app,List.length_append];split
  ·rename_i hc;have h3:=win_len qs e.f.toNat e.n.toNat;have h4:szP e=e.n.toNat:=(by simp [szP,hc]);omega
  ·rename_i hc;have h4:szP e=e.t.length:=(by simp [szP,hc]);have h5:txL [e]=e.t.length:=(by simp [txL]);simp only [List.length_cons,List.length_nil];omega
end
section
open Go.RowKit Go.Maps
attribute [local go_sem] InGr strB_size
theorem same_c {v1 v2:Value} {ps:List Pi} (hn:ps.length<=65536) (w:World) (h1:(rowsA encPi 98 4 v1 ps).ho w) (h2:(rowsA encPi 98 4 v2 ps).ho w) :
  Calls Tryz.prog 28 #[v1,v2] w fun e w'=>e=.returned (.bool true)∧St w [] [] w':=by
 have H:=St.nil w [];obtain ⟨n,hnn⟩:∃ n,ps.length=n:=⟨_,rfl⟩
 obtain ⟨ad1,c1,rfl,_⟩:=rowsA_shape h1;obtain ⟨ad2,c2,rfl,_⟩:=rowsA_shape h2;rw [hnn] at h1 h2 hn ⊢;have HRW:Hid (∀ (i:Nat) (a:Pi),ps[i]?=some a->∃ g1 g2,ad1=some ⟨g1,0,none⟩∧ad2=some ⟨g2,0,none⟩∧(∀ w,(rowsA encPi 98 4 (.slice ad1 n c1) ps).ho w->w.rangeAt g1 (i*4) [.bool a.c,.int .i64 a.f,.int .i64 a.n,.int .i64 a.id])∧∀ w,(rowsA encPi 98 4 (.slice ad2 n c2) ps).ho w->w.rangeAt g2 (i*4) [.bool a.c,.int .i64 a.f,.int .i64 a.n,.int .i64 a.id]):=zh fun i a hi=>by
  obtain ⟨g1,c8,e1,_⟩:=rowsA_cases h1 (by have:=gelt hi;omega);obtain ⟨g2,c9,e2,_⟩:=rowsA_cases h2 (by have:=gelt hi;omega);injection e1 with e1 _ _
  injection e2 with e2 _ _
  exact ⟨g1,g2,e1,e2,fun w h=>by rw [e1] at h;exact rowsA_rng h encPi_len hi,fun w h=>by rw [e2] at h;exact rowsA_rng h encPi_len hi⟩
 have HK:Ks w [] [rowsA encPi 98 4 (.slice ad1 n c1) ps,rowsA encPi 98 4 (.slice ad2 n c2) ps]:=Ks.two h1 h2;have HN:=zh hnn;clear h1 h2 hnn;go_enter Tryz.func28,Tryz.ntmps28;go_wp2_with (first|refine sL ?_|(refine sS ?_;clear H;intros;rename_i H));go_loopg [5] n (fun m v wr=>∃ i:Nat,m=n-i∧i<=n∧v=.int .i64 i∧St w [] [] wr);case atStart=>exact ⟨0,rfl,Nat.zero_le _,rfl,H.nix⟩
 case round =>
  clear H;obtain ⟨i,rfl,hik,rfl,H⟩:=hrel;by_cases hlt:i<n
  ·obtain ⟨p,hp⟩:∃ a,ps[i]?=some a:=⟨_,zg (by rw [HN.out];exact hlt)⟩
   obtain ⟨g1,g2,rfl,rfl,r1,r2⟩:=HRW.out i p hp;have d5:decide ((i:Int)<(n:Int))=true:=(by simp;omega);have d5n:decide (i<n)=true:=(by simp;omega);have R1:=zh r1;have R2:=zh r2;have hil:=hlt;obtain ⟨pc,pf,pn,pd⟩:=p;simp only at R1 R2;clear r1 r2 hp hlt;go_wp2_with (first|refine sL ?_|(refine sS ?_;clear H;intros;rename_i H));refine wp_region_h H 9 [] [] (by kernel_rfl) (by kernel_rfl) ?_;apply Exists.intro;refine ⟨fun w1 hw1 HX=>?_,fun bs wr Hr=>?_⟩
   ·refine sG ?_;repeat (first|refine sQ ?_|((with_reducible refine isQLoad ?_);first|(refine QtLoad.rngT rfl rfl rfl (fun y=>R1.out _ ((HX y).known (A:=rowsA encPi 98 4 (.slice (some ⟨g1,0,none⟩) n c1) ps) HK pk)) rfl ?_;simp only [Act.put,puA,puB,puC])|(refine QtLoad.rngT rfl rfl rfl (fun y=>R2.out _ ((HX y).known (A:=rowsA encPi 98 4 (.slice (some ⟨g2,0,none⟩) n c2) ps) HK pk)) rfl ?_;simp only [Act.put,puA,puB,puC]))|go_big_quiet_step (fail))
    exact wpQuiet_nil rfl
   clear H;have H:=Hr;clear Hr;replace H:=sH H;refine sT ?_;go_wp2_with (first|refine sL ?_|(refine sS ?_;clear H;intros;rename_i H));go_roundg (n-(i+1));case measure=>omega
   case rel=>exact ⟨i+1,rfl,by omega,rfl,H.nix⟩
  ·have d5:decide ((i:Int)<(n:Int))=false:=(by simp;omega);have d5n:decide (i<n)=false:=(by simp;omega);clear hlt;go_wp2_with (first|refine sL ?_|(refine sS ?_;clear H;intros;rename_i H));go_ret;exact ⟨rfl,H.nix⟩
end
section
open Go.RowKit Go.Maps
attribute [local go_sem] InGr strB_size
abbrev JnPost (X:Px) (qs:List Pz) (k:Nat) (M:List Nat) (w:World) (e:Ending) (w':World):Prop :=
 ∃ (X':Px) (v':Value) (ps:List Pi),e=.returned (.tuple #[v',.nilIface])∧X.Ext X'∧PxOk X'∧PiL X'.S ps qs∧X'.S.list.length<=X.S.list.length+k∧St w M [pA X',rowsA encPi 98 4 v' ps] w'
theorem chk_text {s:Nat} {f n:Int} {t:List Nat} (h:chkP s ⟨false,f,n,t⟩=0):f=0∧n=0:=by
 unfold chkP at h;simp only [Bool.false_eq_true,if_false] at h;by_cases h9:f≠0∨n≠0∨t=[]
 ·rw [if_pos h9] at h;cases h
 ·exact ⟨by by_cases h:f=0;exact h;exact absurd (.inl h) h9,by by_cases h:n=0;exact h;exact absurd (.inr (.inl h)) h9⟩
def JoRel (X:Px) (N:List Nat) (w:World) (qs:List Pz) (n T m:Nat) (v1 v:Value) (wr:World):Prop :=
 ∃ (i:Nat) (X1:Px) (out:List Pi),m=n-i∧i<=n∧v=.int .i64 i∧(PiL X1.S out (nrm (qs.take i))∧X.Ext X1∧PxOk X1∧X1.S.list.length<=X.S.list.length+i*T∧∀ q,qs[i]?=some q->nst (nrm (qs.take i)) q=nrm (qs.take i)++[q])∧St w N [pA X1,rowsA encPi 98 4 v1 out] wr
theorem normjoin_c {X:Px} {ps:List Pi} {qs:List Pz} {ad:Option Addr} {c s:Nat} (hX:PxOk X) (hps:PiL X.S ps qs) (hn:ps.length<=1024) (hall:∀ q∈qs,chkP s q=0) (hs:s<=1048576) (htx:txL qs<=1048576) (hroom:X.S.list.length+ps.length*txL qs<=X.S.most) (w:World) (h:PH X w) (hr:((pA X).sep (rowsA encPi 98 4 (.slice ad ps.length c) ps)).ho w) :
  Calls Tryz.prog 65 #[.pointer (some ⟨X.p,0,none⟩),.slice ad ps.length c] w (JnPost X (nrm qs) (ps.length*txL qs) (pA X).fp w):=by
 have h:((pA X).sep deA).ho w:=h;rw [sep_ho] at h hr;have H:=St.one h.1;have HK:Ks w (pA X).fp [deA,(rowsA encPi 98 4 (.slice ad ps.length c) ps)]:=⟨fun A hA=>by
   simp at hA;rcases hA with rfl|rfl
   ·exact h.2.1
   ·exact hr.2.1,fun A hA b hbA hm=>by
   simp at hA;rcases hA with rfl|rfl
   ·exact h.2.2 b hm hbA
   ·exact hr.2.2 b hm hbA⟩
 generalize (pA X).fp=N at *;clear h hr;obtain ⟨n,hnn⟩:∃ n,ps.length=n:=⟨_,rfl⟩
 have hsl:=hps.len;rw [hnn] at hsl hn HK ⊢;have HRW:Hid (∀ (i:Nat) (a:Pi),ps[i]?=some a->∃ g,ad=some ⟨g,0,none⟩∧∀ w,(rowsA encPi 98 4 (.slice ad n c) ps).ho w->w.rangeAt g (i*4) [.bool a.c,.int .i64 a.f,.int .i64 a.n,.int .i64 a.id]):=zh fun i a hi=>by
  obtain ⟨g,c8,e1,_⟩:=rowsA_cases (HK.ho (rowsA encPi 98 4 (.slice ad n c) ps) (by simp)) (by have:=gelt hi;omega);injection e1 with e1 _ _
  exact ⟨g,e1,fun w h=>by rw [e1] at h;exact rowsA_rng h encPi_len hi⟩
 obtain ⟨T,hT⟩:∃ m,txL qs=m:=⟨_,rfl⟩
 rw [hT] at hroom htx ⊢;rw [hnn] at hroom;have HIN:Hid (PiL X.S ps qs∧ps.length=n∧qs.length=n∧(∀ q∈qs,chkP s q=0)∧PxOk X∧s<=1048576∧txL qs=T∧T<=1048576∧X.S.list.length+n*T<=X.S.most):=zh ⟨hps,hnn,by omega,hall,hX,hs,hT,htx,hroom⟩;clear hX hps hall hs htx hroom hT hnn hsl;go_enter Tryz.func65,Tryz.ntmps65;go_wp2_with (first|refine sL ?_|(refine sS ?_;clear H;intros;rename_i H));replace H:=H.empty (A:=rowsA encPi 98 4 (.slice none 0 0) []) (rowsA_nil _) (by rw [rowsA_fp'];rfl);go_loopg [6,7] n (fun m v1 v2 wr=>JoRel X N w qs n T m v1 v2 wr);case atStart=>exact ⟨0,X,[],rfl,Nat.zero_le _,rfl,⟨trivial,.refl _,HIN.out.2.2.2.2.1,by omega,fun q _=>rfl⟩,H.picks (.cons pk (.cons pk .nil))⟩
 case round =>
  clear H;obtain ⟨i,X1,out,rfl,hik,rfl,hrel,H⟩:=hrel;have HX1:=zh hrel;obtain ⟨ad2,c2,rfl,_⟩:=rowsA_shape (H.get (A:=rowsA encPi 98 4 _ out) pk);by_cases hlt:i<n
  ·obtain ⟨p,hp⟩:∃ a,ps[i]?=some a:=⟨_,zg (by rw [HIN.out.2.1];exact hlt)⟩
   obtain ⟨q,hq,hpq⟩:=HIN.out.1.get hp;obtain ⟨g,rfl,hcell⟩:=HRW.out i p hp;have d5:decide ((i:Int)<(n:Int))=true:=(by simp;omega);have d5n:decide (i<n)=true:=(by simp;omega);have HRX:=zh hcell;have hiL:i<=1024:=(by omega);obtain ⟨i1,hi1⟩:∃ n,i+1=n:=⟨_,rfl⟩
   have HI1:=zh hi1;have hck:=HIN.out.2.2.2.1 q (List.mem_of_getElem? hq);have HNS:=zh (za hck (za (nrm_take_succ hq) (hrel.2.2.2.2 q hq)));obtain ⟨pc,pf,pn,id⟩:=p;obtain ⟨qc,qf,qn,qt⟩:=q;obtain ⟨g1,g2,g3,g4⟩:=hpq;simp only at g1 g2 g3 g4 HRX;subst g1 g2 g3;have HG4:=zh g4;clear hrel hp hq hcell hck g4 hi1;cases pc with
   |true =>
    go_wp2_with (first|refine sL ?_|(refine sS ?_;clear H;intros;rename_i H)|((with_reducible refine isLoad ?_);refine AtLoad.rngT rfl rfl rfl (HRX.out _ (H.known HK pk)) rfl ?_;simp only [Act.put,puA,puB,puC]))
    rename Nat=>b
    obtain ⟨e1,e2⟩:=chk_pos HNS.out.1;obtain ⟨e3,e4,e5⟩:=e2 rfl;simp only at e1 e3 e4 e5;obtain ⟨f,rfl⟩:∃ f:Nat,pf=f:=⟨pf.toNat,by omega⟩
    obtain ⟨m0,rfl⟩:∃ f:Nat,pn=f:=⟨pn.toNat,by omega⟩
    clear e1 e2 e3 e4 e5;have HOL:Hid (out.length<=1024):=zh (by have h1:=HX1.out.1.len;have h2:=nrm_len (qs.take i);rw [List.length_take] at h2;omega);go_loopg [7] n (fun m v wr=>∃ (j mm:Nat),m=n-(j-(i+1))∧j<=n∧v=.int .i64 j∧(i+1<=j∧nrm (qs.take j)=nrm (qs.take i)++[(⟨true,f,mm,qt⟩:Pz)])∧St w N [pA X1,rowsA encPi 98 4 (.slice ad2 out.length c2) out,blk b (.cells #[.bool true,.int .i64 f,.int .i64 mm,.int .i64 id] 98)] wr);case atStart=>exact ⟨i+1,m0,by omega,by omega,by go_num,⟨Nat.le_refl _,by rw [HNS.out.2.1,HNS.out.2.2]⟩,H.picks (.cons pk (.cons pk (.cons pk .nil)))⟩
    case round =>
     clear H;obtain ⟨j,mm,rfl,hjk,rfl,hrel,H⟩:=hrel;have HJR:=zh hrel;have hkc:chkP s ⟨true,f,mm,qt⟩=0:=nrm_chk (qs:=qs.take j) (fun q hq=>HIN.out.2.2.2.1 q (List.mem_of_mem_take hq)) _ (by rw [hrel.2];simp);obtain ⟨e1,e2⟩:=chk_pos hkc;obtain ⟨e3,e4,e5⟩:=e2 rfl;simp only at e1 e3 e4 e5;have hs9:=HIN.out.2.2.2.2.2.1;obtain ⟨z,hz⟩:∃ e,f+mm=e:=⟨_,rfl⟩
     have y1:(f:Int)+(mm:Int)=(z:Int):=(by omega);have y3:z<=1048576:=(by omega);have hjL:j<=1024:=(by omega);clear hrel hkc e1 e2 e3 e4 e5 hs9;by_cases hlj:j<n
     ·obtain ⟨p2,hp2⟩:∃ a,ps[j]?=some a:=⟨_,zg (by rw [HIN.out.2.1];exact hlj)⟩
      obtain ⟨q2,hq2,hpq2⟩:=HIN.out.1.get hp2;have d6:decide ((j:Int)<(n:Int))=true:=(by simp;omega);have d6n:decide (j<n)=true:=(by simp;omega);have hck2:=HIN.out.2.2.2.1 q2 (List.mem_of_getElem? hq2);have HN2:=zh (za hck2 (nrm_take_succ hq2));have HQ2:=zh hq2;obtain ⟨pc2,pf2,pn2,id2⟩:=p2;obtain ⟨qc2,qf2,qn2,qt2⟩:=q2;obtain ⟨g1,g2,g3,g4⟩:=hpq2;simp only at g1 g2 g3 g4;subst g1 g2 g3;have hcl:∀ w,(rowsA encPi 98 4 (.slice (some ⟨g,0,none⟩) n c) ps).ho w->w.cell? ⟨g,j*4,none⟩=some (.bool pc2)∧w.cell? ⟨g,j*4+1,none⟩=some (.int .i64 pf2)∧w.cell? ⟨g,j*4+2,none⟩=some (.int .i64 pn2):=fun w h=>⟨rowsA_cell h encPi_len hp2 (j:=0) rfl,rowsA_cell h encPi_len hp2 (j:=1) rfl,rowsA_cell h encPi_len hp2 (j:=2) rfl⟩
      have HO0:=zh fun w h=>(hcl w h).1
      have HO1:=zh fun w h=>(hcl w h).2.1
      have HO2:=zh fun w h=>(hcl w h).2.2
      clear hcl hp2 hq2 hck2 g4;cases pc2 with
      |false =>
       go_wp2_with (first|refine sL ?_|(refine sS ?_;clear H;intros;rename_i H));refine wp_region_h H 24 [] [] (by kernel_rfl) (by kernel_rfl) ?_;apply Exists.intro;refine ⟨fun w1 hw1 HX=>?_,fun bs wr Hr=>?_⟩
       ·refine sG ?_;repeat (first|go_big_quiet_skip|refine sQ ?_|go_big_quiet_step (fail))
        exact wpQuiet_nil rfl
       clear H;have H:=Hr;clear Hr;replace H:=sH H;refine sT ?_;go_wp2_with (first|refine sL ?_|(refine sS ?_;clear H;intros;rename_i H)|((with_reducible refine isSlice ?_);refine AtSlice.one H rfl rfl rfl rfl rfl rfl rfl rfl rfl ?_;clear H;intro b9 _ H;simp only [Act.put,puA,puB,puC])|((with_reducible refine isAppend ?_);refine AtAppend.go (enc:=encPi) H rfl rfl rfl rfl rfl (by decide) (by decide) rfl pk rfl (H.at pk) [(⟨true,f,mm,id⟩:Pi)] rfl (by simp [flatG,encPi]) encPi_len encPi_one (by have:=HOL.out;simp;omega) ?_;clear H;intro ad9 cp9 _ H;simp only [Act.put,puA,puB,puC]));go_roundg (n-j);case measure=>have:=HJR.out.1;omega
       case rel =>
        have h1:=HX1.out;have h5:i*T<=j*T:=Nat.mul_le_mul_right _ (by have:=HJR.out.1;omega);refine ⟨j,X1,out++[(⟨true,f,mm,id⟩:Pi)],rfl,by omega,rfl,⟨?_,h1.2.1,h1.2.2.1,by omega,?_⟩,H.picks (.cons pk (.cons pk .nil))⟩
        ·rw [HJR.out.2];exact h1.1.append ⟨⟨rfl,rfl,rfl,HG4.out.le HIN.out.2.2.2.2.1.ok h1.2.1.le⟩,trivial⟩
        ·intro q9 hq9;rw [HQ2.out] at hq9;cases hq9
         rw [HJR.out.2,nst_none (by simp [jn])]
      |true =>
       obtain ⟨e1,e2⟩:=chk_pos HN2.out.1;obtain ⟨e3,e4,e5⟩:=e2 rfl;simp only at e1 e3 e4 e5;obtain ⟨f2,rfl⟩:∃ f:Nat,pf2=f:=⟨pf2.toNat,by omega⟩
       obtain ⟨m2,rfl⟩:∃ f:Nat,pn2=f:=⟨pn2.toNat,by omega⟩
       have hs9:=HIN.out.2.2.2.2.2.1;obtain ⟨m3,hm3⟩:∃ e,mm+m2=e:=⟨_,rfl⟩
       have y2:(mm:Int)+(m2:Int)=(m3:Int):=(by omega);have y4:m3<=2097152:=(by omega);by_cases hzf:z=f2
       ·have HJ:Hid (jn ⟨true,f,mm,qt⟩ ⟨true,f2,m2,qt2⟩=some ⟨true,f,m3,qt⟩):=zh (by rw [← y2,← hzf,← y1];simp [jn]);subst hzf;have y5:((z:Int)==(z:Int))=true:=(by simp);clear e1 e2 e3 e4 e5 hs9 hz hm3;go_wp2_with (first|refine sL ?_|(refine sS ?_;clear H;intros;rename_i H));refine wp_region_h H 24 [] [] (by kernel_rfl) (by kernel_rfl) ?_;apply Exists.intro;refine ⟨fun w1 hw1 HX=>?_,fun bs wr Hr=>?_⟩
        ·refine sG ?_;repeat (first|go_big_quiet_skip|refine sQ ?_|go_big_quiet_step (fail))
         exact wpQuiet_nil rfl
        clear H;have H:=Hr;clear Hr;replace H:=sH H;refine sT ?_;go_wp2_with (first|refine sL ?_|(refine sS ?_;clear H;intros;rename_i H));refine wp_region_h H 9 [] [] (by kernel_rfl) (by kernel_rfl) ?_;apply Exists.intro;refine ⟨fun w1 hw1 HX=>?_,fun bs wr Hr=>?_⟩
        ·refine sG ?_;repeat (first|refine sQ ?_|go_big_quiet_step (fail))
         exact wpQuiet_nil rfl
        clear H;have H:=Hr;clear Hr;replace H:=sH H;refine sT ?_;go_wp2_with (first|refine sL ?_|(refine sS ?_;clear H;intros;rename_i H));go_roundg (n-(j+1-(i+1)));case measure=>have:=HJR.out.1;omega
        case rel =>
         have h1:=HJR.out;exact ⟨j+1,m3,rfl,by omega,rfl,⟨by omega,by rw [HN2.out.2,h1.2,nst_join HJ.out]⟩,H.picks (.cons pk (.cons pk (.cons pk .nil)))⟩
       ·have HJ:Hid (jn ⟨true,f,mm,qt⟩ ⟨true,f2,m2,qt2⟩=none):=zh (by
         unfold jn;rw [if_neg (fun h=>hzf (by have:=h.2.2;simp only at this;omega)),if_neg (by simp)])
        have y5:((f2:Int)==(z:Int))=false:=(by simp;omega);clear e1 e2 e3 e4 e5 hs9 hz hm3 hzf;go_wp2_with (first|refine sL ?_|(refine sS ?_;clear H;intros;rename_i H));refine wp_region_h H 24 [] [] (by kernel_rfl) (by kernel_rfl) ?_;apply Exists.intro;refine ⟨fun w1 hw1 HX=>?_,fun bs wr Hr=>?_⟩
        ·refine sG ?_;repeat (first|go_big_quiet_skip|refine sQ ?_|go_big_quiet_step (fail))
         exact wpQuiet_nil rfl
        clear H;have H:=Hr;clear Hr;replace H:=sH H;refine sT ?_;go_wp2_with (first|refine sL ?_|(refine sS ?_;clear H;intros;rename_i H)|((with_reducible refine isSlice ?_);refine AtSlice.one H rfl rfl rfl rfl rfl rfl rfl rfl rfl ?_;clear H;intro b9 _ H;simp only [Act.put,puA,puB,puC])|((with_reducible refine isAppend ?_);refine AtAppend.go (enc:=encPi) H rfl rfl rfl rfl rfl (by decide) (by decide) rfl pk rfl (H.at pk) [(⟨true,f,mm,id⟩:Pi)] rfl (by simp [flatG,encPi]) encPi_len encPi_one (by have:=HOL.out;simp;omega) ?_;clear H;intro ad9 cp9 _ H;simp only [Act.put,puA,puB,puC]));go_roundg (n-j);case measure=>have:=HJR.out.1;omega
        case rel =>
         have h1:=HX1.out;have h5:i*T<=j*T:=Nat.mul_le_mul_right _ (by have:=HJR.out.1;omega);refine ⟨j,X1,out++[(⟨true,f,mm,id⟩:Pi)],rfl,by omega,rfl,⟨?_,h1.2.1,h1.2.2.1,by omega,?_⟩,H.picks (.cons pk (.cons pk .nil))⟩
         ·rw [HJR.out.2];exact h1.1.append ⟨⟨rfl,rfl,rfl,HG4.out.le HIN.out.2.2.2.2.1.ok h1.2.1.le⟩,trivial⟩
         ·intro q9 hq9;rw [HQ2.out] at hq9;cases hq9
          rw [HJR.out.2,nst_none (HJ.out)]
     ·have d6:decide ((j:Int)<(n:Int))=false:=(by simp;omega);have d6n:decide (j<n)=false:=(by simp;omega);clear hz;go_wp2_with (first|refine sL ?_|(refine sS ?_;clear H;intros;rename_i H));refine wp_region_h H 24 [] [] (by kernel_rfl) (by kernel_rfl) ?_;apply Exists.intro;refine ⟨fun w1 hw1 HX=>?_,fun bs wr Hr=>?_⟩
      ·refine sG ?_;repeat (first|go_big_quiet_skip|refine sQ ?_|go_big_quiet_step (fail))
       exact wpQuiet_nil rfl
      clear H;have H:=Hr;clear Hr;replace H:=sH H;refine sT ?_;go_wp2_with (first|refine sL ?_|(refine sS ?_;clear H;intros;rename_i H)|((with_reducible refine isSlice ?_);refine AtSlice.one H rfl rfl rfl rfl rfl rfl rfl rfl rfl ?_;clear H;intro b9 _ H;simp only [Act.put,puA,puB,puC])|((with_reducible refine isAppend ?_);refine AtAppend.go (enc:=encPi) H rfl rfl rfl rfl rfl (by decide) (by decide) rfl pk rfl (H.at pk) [(⟨true,f,mm,id⟩:Pi)] rfl (by simp [flatG,encPi]) encPi_len encPi_one (by have:=HOL.out;simp;omega) ?_;clear H;intro ad9 cp9 _ H;simp only [Act.put,puA,puB,puC]));go_roundg (n-j);case measure=>have:=HJR.out.1;omega
      case rel =>
       have h1:=HX1.out;have h5:i*T<=j*T:=Nat.mul_le_mul_right _ (by have:=HJR.out.1;omega);refine ⟨j,X1,out++[(⟨true,f,mm,id⟩:Pi)],rfl,by omega,rfl,⟨?_,h1.2.1,h1.2.2.1,by omega,?_⟩,H.picks (.cons pk (.cons pk .nil))⟩
       ·rw [HJR.out.2];exact h1.1.append ⟨⟨rfl,rfl,rfl,HG4.out.le HIN.out.2.2.2.2.1.ok h1.2.1.le⟩,trivial⟩
       ·intro q9 hq9;exact absurd hq9 (by rw [List.getElem?_eq_none (by rw [HIN.out.2.2.1];omega)];simp)
   |false =>
    have hf0:pf=0∧pn=0:=by
     have:=HNS.out.1;unfold chkP at this;simp only [Bool.false_eq_true,if_false] at this;by_cases h9:pf≠0∨pn≠0∨qt=[]
     ·rw [if_pos h9] at this;cases this
     ·exact ⟨by by_cases h:pf=0;exact h;exact absurd (.inl h) h9,by by_cases h:pn=0;exact h;exact absurd (.inr (.inl h)) h9⟩
    obtain ⟨rfl,rfl⟩:=hf0;go_wp2_with (first|refine sL ?_|(refine sS ?_;clear H;intros;rename_i H)|((with_reducible refine isLoad ?_);refine AtLoad.rngT rfl rfl rfl (HRX.out _ (H.known HK pk)) rfl ?_;simp only [Act.put,puA,puB,puC])|((with_reducible refine isSlice ?_);rename Nat=>b;refine AtSlice.one H rfl rfl rfl rfl rfl rfl rfl rfl rfl ?_;clear H;intro b9 _ H;simp only [Act.put,puA,puB,puC]));replace H:=H.conv (A':=rowsA encI 26 1 (.slice (some ⟨b9,0,none⟩) 1 1) [id]) (by rw [rowsA_fp',blk_fp];rfl) fun hb=>rowsA_of_blk (xs:=[id]) (by rw [blk_ho] at hb;exact hb) (by simp [maxLen]) (by simp [flatG,encI]) encI_len
    have HG1:Hid (IdIs X1.S id (qt.map Tr.leaf)):=zh (HG4.out.le HIN.out.2.2.2.2.1.ok HX1.out.2.1.le);have HOL:Hid (out.length<=1024):=zh (by have h1:=HX1.out.1.len;have h2:=nrm_len (qs.take i);rw [List.length_take] at h2;omega);go_loopg [7,9] n (fun m v1 v2 wr=>∃ (j:Nat) (ids:List Nat) (ts:List (List Nat)),m=n-(j-(i+1))∧j<=n∧v1=.int .i64 j∧(i+1<=j∧ids.length=j-i∧ids.head?=some id∧IdL X1.S ids (ts.map (·.map Tr.leaf))∧nrm (qs.take j)=nrm (qs.take i)++[(⟨false,0,0,ts.flatten⟩:Pz)])∧St w N [pA X1,rowsA encPi 98 4 (.slice ad2 out.length c2) out,blk b (.cells #[.bool false,.int .i64 0,.int .i64 0,.int .i64 id] 98),rowsA encI 26 1 v2 ids] wr);case atStart=>exact ⟨i+1,[id],[qt],by omega,by omega,by go_num,⟨Nat.le_refl _,by simp,rfl,⟨HG1.out,trivial⟩,by rw [HNS.out.2.1,HNS.out.2.2];simp⟩,H.picks (.cons pk (.cons pk (.cons pk (.cons pk .nil))))⟩
    case round =>
     clear H;obtain ⟨j,ids,ts,rfl,hjk,rfl,hrel,H⟩:=hrel;have HJR:=zh hrel;obtain ⟨ad3,c3,rfl,_⟩:=rowsA_shape (H.get (A:=rowsA encI 26 1 _ ids) pk);have hjL:j<=1024:=(by omega);have HLI:Hid (ids.length<=1024):=zh (by have:=hrel.2.1;omega);clear hrel;by_cases hlj:j<n
     ·obtain ⟨p2,hp2⟩:∃ a,ps[j]?=some a:=⟨_,zg (by rw [HIN.out.2.1];exact hlj)⟩
      obtain ⟨q2,hq2,hpq2⟩:=HIN.out.1.get hp2;have d6:decide ((j:Int)<(n:Int))=true:=(by simp;omega);have d6n:decide (j<n)=true:=(by simp;omega);have hck2:=HIN.out.2.2.2.1 q2 (List.mem_of_getElem? hq2);have HN2:=zh (za hck2 (nrm_take_succ hq2));have HQ2:=zh hq2;obtain ⟨pc2,pf2,pn2,id2⟩:=p2;obtain ⟨qc2,qf2,qn2,qt2⟩:=q2;obtain ⟨g1,g2,g3,g4⟩:=hpq2;simp only at g1 g2 g3 g4;subst g1 g2 g3;have hcl:∀ w,(rowsA encPi 98 4 (.slice (some ⟨g,0,none⟩) n c) ps).ho w->w.cell? ⟨g,j*4,none⟩=some (.bool pc2)∧w.cell? ⟨g,j*4+3,none⟩=some (.int .i64 id2):=fun w h=>⟨rowsA_cell h encPi_len hp2 (j:=0) rfl,rowsA_cell h encPi_len hp2 (j:=3) rfl⟩
      have HO0:=zh fun w h=>(hcl w h).1
      have HO3:=zh fun w h=>(hcl w h).2
      have HID2:Hid (IdIs X1.S id2 (qt2.map Tr.leaf)):=zh (g4.le HIN.out.2.2.2.2.1.ok HX1.out.2.1.le);clear hcl hp2 hq2 hck2 g4;cases pc2 with
      |false =>
       obtain ⟨rfl,rfl⟩:=chk_text HN2.out.1;have HJ:Hid (jn ⟨false,0,0,ts.flatten⟩ ⟨false,0,0,qt2⟩=some ⟨false,0,0,ts.flatten++qt2⟩):=zh (by simp [jn]);go_wp2_with (first|refine sL ?_|(refine sS ?_;clear H;intros;rename_i H)|((with_reducible refine isSlice ?_);refine AtSlice.one H rfl rfl rfl rfl rfl rfl rfl rfl rfl ?_;clear H;intro b8 _ H;simp only [Act.put,puA,puB,puC])|((with_reducible refine isAppend ?_);refine AtAppend.go (enc:=encI) H rfl rfl rfl rfl rfl (by decide) (by decide) rfl pk rfl (H.at pk) [id2] rfl (by simp [flatG,encI]) encI_len encI_one (by have:=HLI.out;simp;omega) ?_;clear H;intro ad9 cp9 _ H;simp only [Act.put,puA,puB,puC]));go_roundg (n-(j+1-(i+1)));case measure=>have:=HJR.out.1;omega
       case rel =>
        have h1:=HJR.out;refine ⟨j+1,ids++[id2],ts++[qt2],rfl,by omega,rfl,⟨by omega,by rw [List.length_append];simp;omega,?_,?_,?_⟩,H.picks (.cons pk (.cons pk (.cons pk (.cons pk .nil))))⟩
        ·rw [List.head?_append,h1.2.2.1];rfl
        ·rw [List.map_append];exact h1.2.2.2.1.snoc HID2.out
        ·rw [HN2.out.2,h1.2.2.2.2,nst_join HJ.out,List.flatten_append];simp
      |true =>
       have HNJ:Hid (∀ q,qs[j]?=some q->nst (nrm (qs.take j)) q=nrm (qs.take j)++[q]):=zh fun q9 hq9=>by
        rw [HQ2.out] at hq9;cases hq9
        rw [HJR.out.2.2.2.2,nst_none (by simp [jn])]
       obtain ⟨l9,hl9⟩:∃ m,ids.length=m:=⟨_,rfl⟩
       have HSI:Hid (¬ 1<l9->IdIs X1.S id (ts.flatten.map Tr.leaf)):=zh fun h9=>by
        have h2:=HJR.out
        match ids,ts,h2.2.2.1,h2.2.2.2.1,hl9 with
        |[a],[t0],e1,e2,_=>cases e1;simpa using e2.1
        |[_],[],_,e2,_=>exact e2.elim
        |[_],_::_::_,_,e2,_=>exact e2.2.elim
        |_::_::_,_,_,_,e3=>simp at e3;omega
       have HRM:Hid ((l9=j-i)∧ts.flatten.length<=T∧X1.S.list.length+l9*ts.flatten.length<=X.S.list.length+j*T∧j*T<=n*T):=zh (by
        have h1:=HX1.out;have h2:=HJR.out;have h3:=nrm_tx (qs:=qs.take j) (s:=s) fun q hq=>HIN.out.2.2.2.1 q (List.mem_of_mem_take hq)
        rw [h2.2.2.2.2,txL_app] at h3;have h4:txL [(⟨false,0,0,ts.flatten⟩:Pz)]=ts.flatten.length:=(by simp [txL]);have h5:=txL_take qs j;have h6:=HIN.out.2.2.2.2.2.2.1;have h7:ts.flatten.length<=T:=(by omega);have h8:l9*ts.flatten.length<=(j-i)*T:=(by rw [← hl9,h2.2.1];exact Nat.mul_le_mul_left _ h7);have h10:(j-i)*T+i*T=j*T:=(by rw [← Nat.add_mul];congr 1;omega);have h11:j*T<=n*T:=Nat.mul_le_mul_right _ hjk;exact ⟨by omega,h7,by omega,h11⟩)
       have HCC:Hid (∀ w,((pA X1).sep deA).ho w->((pA X1).sep (rowsA encI 26 1 (.slice ad3 l9 c3) ids)).ho w->Calls Tryz.prog 57 #[.pointer (some ⟨X.p,0,none⟩),.slice ad3 l9 c3] w (IdPost X1 (ts.flatten.map Tr.leaf) (l9*ts.flatten.length) (pA X1).fp w)):=zh fun w h k=>by
        have h1:=HX1.out;have h2:=HJR.out;have h3:=HIN.out;have h4:=HRM.out;have e0:(ts.map (·.map Tr.leaf)).flatten=ts.flatten.map Tr.leaf:=(by rw [List.map_flatten]);have e1:totL (ts.map (·.map Tr.leaf))=ts.flatten.length:=(by unfold totL;rw [e0,List.length_map]);have:=concat_c (ad:=ad3) (c:=c3) h1.2.2.1 h2.2.2.2.1 (by omega) (by rw [e1];omega) (by rw [e1,hl9,h1.2.1.le.1];omega) w h (by rw [hl9];exact k);rwa [h1.2.1.p,hl9,e1,e0] at this
       have hl1:1<=l9:=(by have h2:=HJR.out;omega);have hl2:l9<=1024:=(by have:=HLI.out;omega);rw [hl9] at H ⊢;clear hl9;by_cases h9:1<l9
       ·have d8:decide ((1:Int)<(l9:Int))=true:=(by simp;omega);have d8n:decide (1<l9)=true:=(by simp;omega);go_wp2_with (first|refine sL ?_|(refine sS ?_;clear H;intros;rename_i H));go_at_call 57
        with_reducible refine zm (HCC.out _ (H.sepK HK pk pk) (H.sepO pk pk)) ?_
        rintro e9 wc ⟨X2,id3,rfl,y1,y2,y3,y4,hb⟩;have HZ:=zh (za y1 (za y2 (za y3 y4)));clear y1 y2 y3 y4;replace H:=zn ((H.pick pk).call hb);clear hb;go_wp2_with (first|refine sL ?_|(refine sS ?_;clear H;intros;rename_i H)|((with_reducible refine isSlice ?_);refine AtSlice.one H rfl rfl rfl rfl rfl rfl rfl rfl rfl ?_;clear H;intro b7 _ H;simp only [Act.put,puA,puB,puC])|((with_reducible refine isAppend ?_);refine AtAppend.go (enc:=encPi) H rfl rfl rfl rfl rfl (by decide) (by decide) rfl pk rfl (H.at pk) [(⟨false,0,0,id3⟩:Pi)] rfl (by simp [flatG,encPi]) encPi_len encPi_one (by have:=HOL.out;simp;omega) ?_;clear H;intro ad9 cp9 _ H;simp only [Act.put,puA,puB,puC]));go_roundg (n-j);case measure=>have:=HJR.out.1;omega
        case rel =>
         have h1:=HX1.out;have h2:=HJR.out;have h3:=HZ.out;have h4:=HRM.out;refine ⟨j,X2,out++[(⟨false,0,0,id3⟩:Pi)],rfl,by omega,rfl,⟨?_,h1.2.1.trans h3.1,h3.2.1,by omega,HNJ.out⟩,H.picks (.cons pk (.cons pk .nil))⟩;rw [h2.2.2.2.2];exact (h1.1.le h1.2.2.1.ok h3.1.le).append ⟨⟨rfl,rfl,rfl,h3.2.2.1⟩,trivial⟩
       ·have d8:decide ((1:Int)<(l9:Int))=false:=(by simp;omega);have d8n:decide (1<l9)=false:=(by simp;omega);go_wp2_with (first|refine sL ?_|(refine sS ?_;clear H;intros;rename_i H)|((with_reducible refine isSlice ?_);refine AtSlice.one H rfl rfl rfl rfl rfl rfl rfl rfl rfl ?_;clear H;intro b7 _ H;simp only [Act.put,puA,puB,puC])|((with_reducible refine isAppend ?_);refine AtAppend.go (enc:=encPi) H rfl rfl rfl rfl rfl (by decide) (by decide) rfl pk rfl (H.at pk) [(⟨false,0,0,id⟩:Pi)] rfl (by simp [flatG,encPi]) encPi_len encPi_one (by have:=HOL.out;simp;omega) ?_;clear H;intro ad9 cp9 _ H;simp only [Act.put,puA,puB,puC]));go_roundg (n-j);case measure=>have:=HJR.out.1;omega
        case rel =>
         have h1:=HX1.out;have h2:=HJR.out;have h5:i*T<=j*T:=Nat.mul_le_mul_right _ (by omega);refine ⟨j,X1,out++[(⟨false,0,0,id⟩:Pi)],rfl,by omega,rfl,⟨?_,h1.2.1,h1.2.2.1,by omega,HNJ.out⟩,H.picks (.cons pk (.cons pk .nil))⟩;rw [h2.2.2.2.2];exact h1.1.append ⟨⟨rfl,rfl,rfl,HSI.out h9⟩,trivial⟩
     ·have d6:decide ((j:Int)<(n:Int))=false:=(by simp;omega);have d6n:decide (j<n)=false:=(by simp;omega);have HNJ:Hid (∀ q,qs[j]?=some q->nst (nrm (qs.take j)) q=nrm (qs.take j)++[q]):=zh fun q9 hq9=>by
       exact absurd hq9 (by rw [List.getElem?_eq_none (by rw [HIN.out.2.2.1];omega)];simp)
      obtain ⟨l9,hl9⟩:∃ m,ids.length=m:=⟨_,rfl⟩
      have HSI:Hid (¬ 1<l9->IdIs X1.S id (ts.flatten.map Tr.leaf)):=zh fun h9=>by
       have h2:=HJR.out
       match ids,ts,h2.2.2.1,h2.2.2.2.1,hl9 with
       |[a],[t0],e1,e2,_=>cases e1;simpa using e2.1
       |[_],[],_,e2,_=>exact e2.elim
       |[_],_::_::_,_,e2,_=>exact e2.2.elim
       |_::_::_,_,_,_,e3=>simp at e3;omega
      have HRM:Hid ((l9=j-i)∧ts.flatten.length<=T∧X1.S.list.length+l9*ts.flatten.length<=X.S.list.length+j*T∧j*T<=n*T):=zh (by
       have h1:=HX1.out;have h2:=HJR.out;have h3:=nrm_tx (qs:=qs.take j) (s:=s) fun q hq=>HIN.out.2.2.2.1 q (List.mem_of_mem_take hq)
       rw [h2.2.2.2.2,txL_app] at h3;have h4:txL [(⟨false,0,0,ts.flatten⟩:Pz)]=ts.flatten.length:=(by simp [txL]);have h5:=txL_take qs j;have h6:=HIN.out.2.2.2.2.2.2.1;have h7:ts.flatten.length<=T:=(by omega);have h8:l9*ts.flatten.length<=(j-i)*T:=(by rw [← hl9,h2.2.1];exact Nat.mul_le_mul_left _ h7);have h10:(j-i)*T+i*T=j*T:=(by rw [← Nat.add_mul];congr 1;omega);have h11:j*T<=n*T:=Nat.mul_le_mul_right _ hjk;exact ⟨by omega,h7,by omega,h11⟩)
      have HCC:Hid (∀ w,((pA X1).sep deA).ho w->((pA X1).sep (rowsA encI 26 1 (.slice ad3 l9 c3) ids)).ho w->Calls Tryz.prog 57 #[.pointer (some ⟨X.p,0,none⟩),.slice ad3 l9 c3] w (IdPost X1 (ts.flatten.map Tr.leaf) (l9*ts.flatten.length) (pA X1).fp w)):=zh fun w h k=>by
       have h1:=HX1.out;have h2:=HJR.out;have h3:=HIN.out;have h4:=HRM.out;have e0:(ts.map (·.map Tr.leaf)).flatten=ts.flatten.map Tr.leaf:=(by rw [List.map_flatten]);have e1:totL (ts.map (·.map Tr.leaf))=ts.flatten.length:=(by unfold totL;rw [e0,List.length_map]);have:=concat_c (ad:=ad3) (c:=c3) h1.2.2.1 h2.2.2.2.1 (by omega) (by rw [e1];omega) (by rw [e1,hl9,h1.2.1.le.1];omega) w h (by rw [hl9];exact k);rwa [h1.2.1.p,hl9,e1,e0] at this
      have hl1:1<=l9:=(by have h2:=HJR.out;omega);have hl2:l9<=1024:=(by have:=HLI.out;omega);rw [hl9] at H ⊢;clear hl9;by_cases h9:1<l9
      ·have d8:decide ((1:Int)<(l9:Int))=true:=(by simp;omega);have d8n:decide (1<l9)=true:=(by simp;omega);go_wp2_with (first|refine sL ?_|(refine sS ?_;clear H;intros;rename_i H));go_at_call 57
       with_reducible refine zm (HCC.out _ (H.sepK HK pk pk) (H.sepO pk pk)) ?_
       rintro e9 wc ⟨X2,id3,rfl,y1,y2,y3,y4,hb⟩;have HZ:=zh (za y1 (za y2 (za y3 y4)));clear y1 y2 y3 y4;replace H:=zn ((H.pick pk).call hb);clear hb;go_wp2_with (first|refine sL ?_|(refine sS ?_;clear H;intros;rename_i H)|((with_reducible refine isSlice ?_);refine AtSlice.one H rfl rfl rfl rfl rfl rfl rfl rfl rfl ?_;clear H;intro b7 _ H;simp only [Act.put,puA,puB,puC])|((with_reducible refine isAppend ?_);refine AtAppend.go (enc:=encPi) H rfl rfl rfl rfl rfl (by decide) (by decide) rfl pk rfl (H.at pk) [(⟨false,0,0,id3⟩:Pi)] rfl (by simp [flatG,encPi]) encPi_len encPi_one (by have:=HOL.out;simp;omega) ?_;clear H;intro ad9 cp9 _ H;simp only [Act.put,puA,puB,puC]));go_roundg (n-j);case measure=>have:=HJR.out.1;omega
       case rel =>
        have h1:=HX1.out;have h2:=HJR.out;have h3:=HZ.out;have h4:=HRM.out;refine ⟨j,X2,out++[(⟨false,0,0,id3⟩:Pi)],rfl,by omega,rfl,⟨?_,h1.2.1.trans h3.1,h3.2.1,by omega,HNJ.out⟩,H.picks (.cons pk (.cons pk .nil))⟩;rw [h2.2.2.2.2];exact (h1.1.le h1.2.2.1.ok h3.1.le).append ⟨⟨rfl,rfl,rfl,h3.2.2.1⟩,trivial⟩
      ·have d8:decide ((1:Int)<(l9:Int))=false:=(by simp;omega);have d8n:decide (1<l9)=false:=(by simp;omega);go_wp2_with (first|refine sL ?_|(refine sS ?_;clear H;intros;rename_i H)|((with_reducible refine isSlice ?_);refine AtSlice.one H rfl rfl rfl rfl rfl rfl rfl rfl rfl ?_;clear H;intro b7 _ H;simp only [Act.put,puA,puB,puC])|((with_reducible refine isAppend ?_);refine AtAppend.go (enc:=encPi) H rfl rfl rfl rfl rfl (by decide) (by decide) rfl pk rfl (H.at pk) [(⟨false,0,0,id⟩:Pi)] rfl (by simp [flatG,encPi]) encPi_len encPi_one (by have:=HOL.out;simp;omega) ?_;clear H;intro ad9 cp9 _ H;simp only [Act.put,puA,puB,puC]));go_roundg (n-j);case measure=>have:=HJR.out.1;omega
       case rel =>
        have h1:=HX1.out;have h2:=HJR.out;have h5:i*T<=j*T:=Nat.mul_le_mul_right _ (by omega);refine ⟨j,X1,out++[(⟨false,0,0,id⟩:Pi)],rfl,by omega,rfl,⟨?_,h1.2.1,h1.2.2.1,by omega,HNJ.out⟩,H.picks (.cons pk (.cons pk .nil))⟩;rw [h2.2.2.2.2];exact h1.1.append ⟨⟨rfl,rfl,rfl,HSI.out h9⟩,trivial⟩
  ·have d5:decide ((i:Int)<(n:Int))=false:=(by simp;omega);have d5n:decide (i<n)=false:=(by simp;omega);have hin:i=n:=(by omega);subst hin;have HE:Hid (qs.take i=qs):=zh (List.take_of_length_le (by rw [HIN.out.2.2.1];exact Nat.le_refl _));clear hrel hlt;go_wp2_with (first|refine sL ?_|(refine sS ?_;clear H;intros;rename_i H));go_ret2;exact ⟨X1,_,out,rfl,HX1.out.2.1,HX1.out.2.2.1,by have:=HX1.out.1;rwa [HE.out] at this,HX1.out.2.2.2.1,H.picks (.cons pk (.cons pk .nil))⟩
end
section
open Go.RowKit Go.Maps
attribute [local go_sem] InGr strB_size
theorem sint_c {ns:List Nat} {g n c b5 b6 i x y:Nat} (hy:ns[i]?=some y) (hn:ns.length=n) (hn2:n<=65536) (w:World) (hk:Ks w [] [(blk b5 (.cells #[.slice (some ⟨g,0,none⟩) n c] 55)),(blk b6 (.cells #[.int .i64 (x:Nat)] 3)),(rowsA encI 3 1 (.slice (some ⟨g,0,none⟩) n c) ns)]) :
  Calls Tryz.prog 128 #[.int .i64 (i:Nat),.pointer (some ⟨b5,0,none⟩),.pointer (some ⟨b6,0,none⟩)] w fun e w'=>e=.returned (.bool (decide (x<=y)))∧St w [] [] w':=by
 have H:=St.nil w [];have HK:=hk;clear hk;have hil:i<n:=(by have:=gelt hy;omega);have HY:Hid (∀ w,(rowsA encI 3 1 (.slice (some ⟨g,0,none⟩) n c) ns).ho w->w.cell? ⟨g,i,none⟩=some (.int .i64 (y:Nat))):=zh fun w h=>by
  have:=rowsA_cell h encI_len hy (j:=0) rfl;simpa using this
 have hd:decide ((x:Int)<=(y:Int))=decide (x<=y):=(by simp);obtain ⟨bo,hbo⟩:∃ b,decide (x<=y)=b:=⟨_,rfl⟩
 rw [hbo] at hd;rw [hbo];clear hy hn;go_enter Tryz.func128,Tryz.ntmps128;go_wp2_with (first|refine sL ?_|(refine sS ?_;clear H;intros;rename_i H));refine wp_region_h H 7 [] [] (by kernel_rfl) (by kernel_rfl) ?_;apply Exists.intro;refine ⟨fun w1 hw1 HX=>?_,fun bs wr Hr=>?_⟩
 ·refine sG ?_;repeat (first|go_big_quiet_skip|refine sQ ?_|((with_reducible refine isQLoad ?_);refine QtLoad.cel rfl rfl rfl rfl (fun y=>HY.out _ ((HX y).known HK pk)) ?_;simp only [Act.put,puA,puB,puC])|go_big_quiet_step (fail))
  exact wpQuiet_nil rfl
 clear H;have H:=Hr;clear Hr;replace H:=sH H;refine sT ?_;go_wp2_with (first|refine sL ?_|(refine sS ?_;clear H;intros;rename_i H));go_ret;exact ⟨rfl,H.nix⟩
theorem Ks.three {w:World} {A B C:As} (h:Ks w [] [A,B]) (hc:C.ho w):Ks w [] [A,B,C]:=⟨fun D hD=>by simp at hD;rcases hD with rfl|rfl|rfl;exact h.ho _ (by simp);exact h.ho _ (by simp);exact hc,by simp⟩
structure First (ns:List Nat) (x k:Nat):Prop where
 le:k<=ns.length
 lt:∀ (i y:Nat),i<k->ns[i]?=some y->y<x
 ge:∀ (i y:Nat),k<=i->ns[i]?=some y->x<=y
def SeRel (w:World) (ns:List Nat) (n x m:Nat) (v1 v2:Value) (wr:World):Prop :=
 ∃ i j:Nat,m=j-i∧i<=j∧j<=n∧v1=.int .i64 i∧v2=.int .i64 j∧((∀ (k y:Nat),k<i->ns[k]?=some y->y<x)∧∀ (k y:Nat),j<=k->ns[k]?=some y->x<=y)∧St w [] [] wr
theorem search_c {ns:List Nat} {g n c b5 b6 x:Nat} (hs:∀ (i j a b:Nat),i<=j->ns[i]?=some a->ns[j]?=some b->a<=b) (hn:ns.length=n) (hn2:n<=65536) (w:World) (hk:Ks w [] [(blk b5 (.cells #[.slice (some ⟨g,0,none⟩) n c] 55)),(blk b6 (.cells #[.int .i64 (x:Nat)] 3)),(rowsA encI 3 1 (.slice (some ⟨g,0,none⟩) n c) ns)]) :
  Calls Tryz.prog 127 #[.int .i64 (n:Nat),.func (.func 128) #[] #[.pointer (some ⟨b5,0,none⟩),.pointer (some ⟨b6,0,none⟩)]] w fun e w'=>∃ k:Nat,e=.returned (.int .i64 k)∧First ns x k∧St w [] [] w':=by
 have H:=St.nil w [];have HK:=hk;clear hk;have HIN:Hid ((∀ (i j a b:Nat),i<=j->ns[i]?=some a->ns[j]?=some b->a<=b)∧ns.length=n):=zh ⟨hs,hn⟩;clear hs hn;go_enter Tryz.func127,Tryz.ntmps127;go_wp2_with (first|refine sL ?_|(refine sS ?_;clear H;intros;rename_i H));go_loopg [5,6] n (fun m v1 v2 wr=>SeRel w ns n x m v1 v2 wr);case atStart=>exact ⟨0,n,rfl,Nat.zero_le _,Nat.le_refl _,rfl,rfl,⟨fun k y h=>by omega,fun k y h hk=>by have:=gelt hk;have:=HIN.out.2;omega⟩,H⟩
 case round =>
  clear H;obtain ⟨i,j,rfl,hij,hjn,rfl,rfl,hrel,H⟩:=hrel;have HRL:=zh hrel;clear hrel;by_cases hlt:i<j
  ·have d5:decide ((i:Int)<(j:Int))=true:=(by simp;omega);have d5n:decide (i<j)=true:=(by simp;omega);go_wp2_with (first|refine sL ?_|(refine sS ?_;clear H;intros;rename_i H));obtain ⟨h,hh⟩:∃ h:Nat,((i:Int)+(j:Int))/2=(h:Int):=⟨(i+j)/2,by omega⟩
   have hih:i<=h∧h<j:=(by omega);rw [hh];clear hh;obtain ⟨y,hy⟩:∃ y,ns[h]?=some y:=⟨_,zg (by rw [HIN.out.2];omega)⟩
   have HY:=zh hy;have HSI:Hid (∀ w,Ks w [] [(blk b5 (.cells #[.slice (some ⟨g,0,none⟩) n c] 55)),(blk b6 (.cells #[.int .i64 (x:Nat)] 3)),(rowsA encI 3 1 (.slice (some ⟨g,0,none⟩) n c) ns)]->Calls Tryz.prog 128 #[.int .i64 (h:Nat),.pointer (some ⟨b5,0,none⟩),.pointer (some ⟨b6,0,none⟩)] w fun e w'=>e=.returned (.bool (decide (x<=y)))∧St w [] [] w'):=zh fun w hk=>sint_c HY.out HIN.out.2 hn2 w hk
   clear hy;with_reducible refine zm (HSI.out _ ((Ks.two (H.known HK (A:=(blk b5 (.cells #[.slice (some ⟨g,0,none⟩) n c] 55))) pk) (H.known HK (A:=(blk b6 (.cells #[.int .i64 (x:Nat)] 3))) pk)).three (H.known HK (A:=(rowsA encI 3 1 (.slice (some ⟨g,0,none⟩) n c) ns)) pk))) ?_
   rintro e9 wc ⟨rfl,hb⟩;replace H:=H.grew hb.below;clear hb;by_cases hxy:x<=y
   ·have d6:decide (x<=y)=true:=(by simpa using hxy);rw [d6];go_wp2_with (first|refine sL ?_|(refine sS ?_;clear H;intros;rename_i H));go_roundg (h-i);case measure=>omega
    case rel=>exact ⟨i,h,rfl,hih.1,by omega,rfl,rfl,⟨HRL.out.1,fun k z h1 h2=>Nat.le_trans hxy (HIN.out.1 h k y z h1 HY.out h2)⟩,H⟩
   ·have d6:decide (x<=y)=false:=(by simpa using hxy);rw [d6];go_wp2_with (first|refine sL ?_|(refine sS ?_;clear H;intros;rename_i H));go_roundg (j-(h+1));case measure=>omega
    case rel=>exact ⟨h+1,j,rfl,by omega,hjn,by go_num,rfl,⟨fun k z h1 h2=>by have:=HIN.out.1 k h z y (by omega) h2 HY.out;omega,HRL.out.2⟩,H⟩
  ·have d5:decide ((i:Int)<(j:Int))=false:=(by simp;omega);have d5n:decide (i<j)=false:=(by simp;omega);have hji:j=i:=(by omega);subst hji;go_wp2_with (first|refine sL ?_|(refine sS ?_;clear H;intros;rename_i H));go_ret;exact ⟨j,rfl,⟨by rw [HIN.out.2];exact hjn,HRL.out.1,HRL.out.2⟩,H⟩
theorem searchInts_c {ns:List Nat} {g n c x:Nat} (hs:∀ (i j a b:Nat),i<=j->ns[i]?=some a->ns[j]?=some b->a<=b) (hn:ns.length=n) (hn2:n<=65536) (w:World) (h:(rowsA encI 3 1 (.slice (some ⟨g,0,none⟩) n c) ns).ho w) :
  Calls Tryz.prog 100 #[.slice (some ⟨g,0,none⟩) n c,.int .i64 (x:Nat)] w fun e w'=>∃ k:Nat,e=.returned (.int .i64 k)∧First ns x k∧St w [] [] w':=by
 have H:=St.nil w [];have HK:=Ks.one h;have HSC:Hid (∀ b5 b6 w,Ks w [] [(blk b5 (.cells #[.slice (some ⟨g,0,none⟩) n c] 55)),(blk b6 (.cells #[.int .i64 (x:Nat)] 3)),(rowsA encI 3 1 (.slice (some ⟨g,0,none⟩) n c) ns)]->Calls Tryz.prog 127 #[.int .i64 (n:Nat),.func (.func 128) #[] #[.pointer (some ⟨b5,0,none⟩),.pointer (some ⟨b6,0,none⟩)]] w fun e w'=>∃ k:Nat,e=.returned (.int .i64 k)∧First ns x k∧St w [] [] w'):=zh fun b5 b6 w hk=>search_c hs hn hn2 w hk
 have hmf:∀ (fn:Fn) (first cap:Array Value) (w:World),(Instr.makeFunc fn first cap).run Tryz.prog w=.ok (.func fn first cap) w:=fun _ _ _ _=>rfl
 clear hs hn h;go_enter Tryz.func100,Tryz.ntmps100;go_wp2_with (first|refine sL ?_|(refine sS ?_;clear H;intros;rename_i H));with_reducible refine zm (HSC.out _ _ _ ((Ks.two (H.get (A:=blk _ (.cells #[.slice (some ⟨g,0,none⟩) n c] 55)) pk) (H.get (A:=blk _ (.cells #[.int .i64 (x:Nat)] 3)) pk)).three (H.known HK (A:=(rowsA encI 3 1 (.slice (some ⟨g,0,none⟩) n c) ns)) pk))) ?_
 rintro e9 wc ⟨k,rfl,hf,hb⟩;replace H:=H.grew hb.below;clear hb;go_wp2_with (first|refine sL ?_|(refine sS ?_;clear H;intros;rename_i H));go_ret;exact ⟨k,rfl,hf,H.nix⟩
end
section
open Go.RowKit Go.Maps
attribute [local go_sem] InGr strB_size
theorem win_zero:∀ (qs:List Pz) (f:Nat),win qs f 0=[]
 |[],_=>rfl
 |q::r,f=>by rw [win,if_pos rfl]
theorem win_skip {f n:Nat}:∀ (k:Nat) (qs:List Pz),k<=qs.length->(∀ i,i<k->szL (qs.take (i+1))<=f)->win qs f n=win (qs.drop k) (f-szL (qs.take k)) n
 |0,qs,_,_=>by simp [szL]
 |k+1,qs,hk,h=>by
  rw [win_skip k qs (by omega) fun i hi=>h i (by omega)];obtain ⟨q,hq⟩:∃ q,qs[k]?=some q:=⟨_,zg (by omega)⟩
  have e1:qs.drop k=q::qs.drop (k+1):=by
   rw [List.drop_eq_getElem_cons (by omega)];congr 1
   have:=zg (l:=qs) (i:=k) (by omega);rw [hq] at this;exact (Option.some.inj this).symm
  have e2:=szL_take_succ hq;have e3:=h k (by omega);rw [e1,win];split
  ·rename_i h0;subst h0;rw [win_zero]
  ·rw [if_pos (by omega),e2,Nat.sub_sub]
theorem win_at {qs:List Pz} {i cur rem:Nat} {q:Pz} (hq:qs[i]?=some q) (h1:szL (qs.take i)<=cur) (h2:cur<szL (qs.take (i+1))) (hr:0<rem) :
  win (qs.drop i) (cur-szL (qs.take i)) rem=sgP q (cur-szL (qs.take i)) (min rem (szP q-(cur-szL (qs.take i))))::win (qs.drop (i+1)) (cur+min rem (szP q-(cur-szL (qs.take i)))-szL (qs.take (i+1))) (rem-min rem (szP q-(cur-szL (qs.take i)))):=by
 have hi:=gelt hq;have e1:qs.drop i=q::qs.drop (i+1):=by
  rw [List.drop_eq_getElem_cons hi];congr 1
  have:=zg (l:=qs) (i:=i) hi;rw [hq] at this;exact (Option.some.inj this).symm
 have e2:=szL_take_succ hq;rw [e1,win,if_neg (by omega),if_neg (by omega)];congr 1
 by_cases h0:rem-min rem (szP q-(cur-szL (qs.take i)))=0
 ·rw [h0,win_zero,win_zero]
 ·rw [show cur+min rem (szP q-(cur-szL (qs.take i)))-szL (qs.take (i+1))=0 by omega]
def endsL (qs:List Pz):List Nat:=(List.range qs.length).map fun i=>szL (qs.take (i+1))
theorem endsL_len (qs:List Pz):(endsL qs).length=qs.length:=by simp [endsL]
theorem endsL_at {qs:List Pz} {i:Nat} (h:i<qs.length):(endsL qs)[i]?=some (szL (qs.take (i+1))):=by simp [endsL,List.getElem?_range h]
theorem szL_mono (qs:List Pz) (i j:Nat) (h:i<=j):szL (qs.take i)<=szL (qs.take j):=by
 have:=szL_take (qs.take j) i;rwa [List.take_take,Nat.min_eq_left h] at this
theorem endsL_asc (qs:List Pz) (i j a b:Nat) (h:i<=j) (ha:(endsL qs)[i]?=some a) (hb:(endsL qs)[j]?=some b):a<=b:=by
 have hi:=gelt ha;have hj:=gelt hb;rw [endsL_len] at hi hj;rw [endsL_at hi] at ha;rw [endsL_at hj] at hb;cases ha
 cases hb
 exact szL_mono qs _ _ (by omega)
def WiRel (X:Px) (N:List Nat) (w:World) (b9 xid:Nat) (qs outq:List Pz) (o0 f0 n0 n m:Nat) (v1 v:Value) (wr:World):Prop :=
 ∃ (i:Nat) (X1:Px) (out:List Pi) (cur rem:Nat),m=n-i∧i<=n∧v=.int .i64 i∧((∃ L,PiL X1.S out (outq++L)∧win qs f0 n0=L++win (qs.drop i) (cur-szL (qs.take i)) rem)∧(rem=0∨szL (qs.take i)<=cur∧(i<n->cur<szL (qs.take (i+1))))∧cur+rem=f0+n0∧X.Ext X1∧PxOk X1∧X1.S.list.length<=X.S.list.length+2*txL (qs.take i)∧out.length<=o0+i)∧St w N [pA X1,rowsA encPi 98 4 v1 out,blk b9 (.cells #[.bool true,.int .i64 (cur:Nat),.int .i64 (rem:Nat),.int .i64 (xid:Nat)] 98)] wr
abbrev WiPost (X:Px) (qs:List Pz) (o0 k:Nat) (M:List Nat) (w:World) (e:Ending) (w':World):Prop :=
 ∃ (X':Px) (v':Value) (ps:List Pi),e=.returned (.tuple #[v',.nilIface])∧X.Ext X'∧PxOk X'∧PiL X'.S ps qs∧X'.S.list.length<=X.S.list.length+k∧ps.length<=o0∧St w M [pA X',rowsA encPi 98 4 v' ps] w'
theorem within_c {X:Px} {ps out:List Pi} {qs outq:List Pz} {ad:Option Addr} {c ge ce n s f m xid:Nat} {v1:Value} (hX:PxOk X) (hps:PiL X.S ps qs) (hn:ps.length=n) (hnb:n<=1024) (hchk:∀ q∈qs,chkP s q=0) (hs:s<=1048576) (htot:szL qs<=1048576) (hout:PiL X.S out outq) (hob:out.length<=65536) (hfm:f+m<=szL qs) (hroom:X.S.list.length+2*txL qs<=X.S.most) (w:World) (h:(((pA X).sep (rowsA encPi 98 4 v1 out)).sep deA).ho w) (hd:(((pA X).sep (rowsA encPi 98 4 v1 out)).sep (rowsA encPi 98 4 (.slice ad n c) ps)).ho w) (he:(((pA X).sep (rowsA encPi 98 4 v1 out)).sep (rowsA encI 3 1 (.slice (some ⟨ge,0,none⟩) n ce) (endsL qs))).ho w) :
  Calls Tryz.prog 66 #[.pointer (some ⟨X.p,0,none⟩),v1,.slice ad n c,.slice (some ⟨ge,0,none⟩) n ce,.agg #[.bool true,.int .i64 (f:Nat),.int .i64 (m:Nat),.int .i64 (xid:Nat)]] w (WiPost X (outq++win qs f m) (out.length+n) (2*txL qs) ((pA X).sep (rowsA encPi 98 4 v1 out)).fp w):=by
 rw [sep_ho] at h hd he;have H:=(St.one h.1).sep;have HK:Ks w ((pA X).sep (rowsA encPi 98 4 v1 out)).fp [deA,rowsA encPi 98 4 (.slice ad n c) ps,rowsA encI 3 1 (.slice (some ⟨ge,0,none⟩) n ce) (endsL qs)]:=⟨fun A hA=>by
   simp at hA;rcases hA with rfl|rfl|rfl
   ·exact h.2.1
   ·exact hd.2.1
   ·exact he.2.1,fun A hA b hbA hm=>by
   simp at hA;rcases hA with rfl|rfl|rfl
   ·exact h.2.2 b hm hbA
   ·exact hd.2.2 b hm hbA
   ·exact he.2.2 b hm hbA⟩
 generalize ((pA X).sep (rowsA encPi 98 4 v1 out)).fp=N at H HK ⊢;clear h hd he;have hsl:=hps.len;have HRW:Hid (∀ (i:Nat) (a:Pi),ps[i]?=some a->∃ g,ad=some ⟨g,0,none⟩∧∀ w,(rowsA encPi 98 4 (.slice ad n c) ps).ho w->w.rangeAt g (i*4) [.bool a.c,.int .i64 a.f,.int .i64 a.n,.int .i64 a.id]):=zh fun i a hi=>by
  obtain ⟨g,c8,e1,_⟩:=rowsA_cases (HK.ho (rowsA encPi 98 4 (.slice ad n c) ps) (by simp)) (by have:=gelt hi;omega);injection e1 with e1 _ _
  exact ⟨g,e1,fun w h=>by rw [e1] at h;exact rowsA_rng h encPi_len hi⟩
 have HEN:Hid (∀ i,i<n->∀ w,(rowsA encI 3 1 (.slice (some ⟨ge,0,none⟩) n ce) (endsL qs)).ho w->w.cell? ⟨ge,i,none⟩=some (.int .i64 (szL (qs.take (i+1)):Nat))):=zh fun i hi w h=>by
  have:=rowsA_cell h encI_len (endsL_at (i:=i) (by omega)) (j:=0) rfl;simpa using this
 have HSI:Hid (∀ w,(rowsA encI 3 1 (.slice (some ⟨ge,0,none⟩) n ce) (endsL qs)).ho w->Calls Tryz.prog 100 #[.slice (some ⟨ge,0,none⟩) n ce,.int .i64 ((f:Int)+1)] w fun e w'=>∃ k:Nat,e=.returned (.int .i64 k)∧First (endsL qs) (f+1) k∧St w [] [] w'):=zh fun w h=>searchInts_c (x:=f+1) (endsL_asc qs) (by rw [endsL_len];omega) (by omega) w h
 have HIN:Hid (PiL X.S ps qs∧ps.length=n∧qs.length=n∧n<=1024∧(∀ q∈qs,chkP s q=0)∧PxOk X∧X.S.list.length+2*txL qs<=X.S.most∧szL qs<=1048576∧s<=1048576∧f+m<=szL qs∧out.length<=65536∧PiL X.S out outq):=zh ⟨hps,hn,by omega,hnb,hchk,hX,hroom,htot,hs,hfm,hob,hout⟩;have hfb:f+m<=1048576:=(by omega);clear hX hps hn hchk htot hs hfm hob hout hroom hsl;go_enter Tryz.func66,Tryz.ntmps66;go_wp2_with (first|refine sL ?_|(refine sS ?_;clear H;intros;rename_i H)|(go_at_call 100;with_reducible refine zm (HSI.out _ (H.known HK pk)) ?_;rintro e9 wc ⟨k0,rfl,hf0,hb⟩;have HF0:=zh hf0;clear hf0;replace H:=H.grew hb.below;clear hb));rename_i b9 w9 K9 a9;go_loopg [1,13] (n-k0) (fun q v1 v2 wr=>WiRel X N w b9 xid qs outq out.length f m n q v1 v2 wr);case atStart =>
  have h1:=HF0.out;have h2:=h1.le;rw [endsL_len,HIN.out.2.2.1] at h2;have hlo:∀ i,i<k0->szL (qs.take (i+1))<=f:=fun i hi=>by
   have:=h1.lt i _ hi (endsL_at (by have:=HIN.out.2.2.1;omega));omega
  refine ⟨k0,X,out,f,m,rfl,h2,rfl,⟨⟨[],by simpa using HIN.out.2.2.2.2.2.2.2.2.2.2.2,by rw [List.nil_append];exact win_skip k0 qs (by have:=HIN.out.2.2.1;omega) hlo⟩,.inr ⟨?_,fun hk=>?_⟩,rfl,.refl _,HIN.out.2.2.2.2.2.1,by omega,by omega⟩,H.picks (.cons pk (.cons pk (.cons pk .nil)))⟩
  ·cases k0 with
   |zero=>simp [szL]
   |succ k=>exact hlo k (by omega)
  ·have:=h1.ge k0 _ (Nat.le_refl _) (endsL_at (by have:=HIN.out.2.2.1;omega));omega
 case round =>
  clear H;obtain ⟨i,X1,out1,cur,rem,rfl,hik,rfl,hrel,H⟩:=hrel;have HRL:=zh hrel;obtain ⟨ad2,c2,rfl,_⟩:=rowsA_shape (H.get (A:=rowsA encPi 98 4 _ out1) pk);have HTT9:Hid (∀ i,txL (qs.take i)<=txL qs):=zh fun i=>txL_take qs i
  by_cases hlt:i<n
  ·have d5:decide ((i:Int)<(n:Int))=true:=(by simp;omega);have d5n:decide (i<n)=true:=(by simp;omega);have hib:i<=1024:=(by omega);by_cases hrm:0<rem
   ·have d6:decide ((0:Int)<(rem:Int))=true:=(by simp;omega);have d6n:decide (0<rem)=true:=(by simp;omega);obtain ⟨p,hp⟩:∃ a,ps[i]?=some a:=⟨_,zg (by rw [HIN.out.2.1];exact hlt)⟩
    obtain ⟨q,hq,hpq⟩:=HIN.out.1.get hp;obtain ⟨g,rfl,hcell⟩:=HRW.out i p hp;have hck:=HIN.out.2.2.2.2.1 q (List.mem_of_getElem? hq);have HRX:=zh hcell;obtain ⟨hq1,hq2⟩:=hrel.2.1.resolve_left (by omega);have hq2:=hq2 hlt;have hts:=szL_take_succ hq;have HTX:=zh (txL_take_succ hq);have HTT:=zh (txL_take qs (i+1));have hE:=szL_take qs (i+1);have HWA:=zh (win_at hq hq1 hq2 hrm);have HEC:=zh (HEN.out i hlt);have hcr:=hrel.2.2.1;obtain ⟨B,hB⟩:∃ k,szL (qs.take i)=k:=⟨_,rfl⟩
    obtain ⟨E,hEe⟩:∃ k,szL (qs.take (i+1))=k:=⟨_,rfl⟩
    obtain ⟨sz,hsz⟩:∃ k,szP q=k:=⟨_,rfl⟩
    obtain ⟨a,ha⟩:∃ k,cur-B=k:=⟨_,rfl⟩
    obtain ⟨rr,hrr⟩:∃ k,sz-a=k:=⟨_,rfl⟩
    obtain ⟨k,hk⟩:∃ k,min rem rr=k:=⟨_,rfl⟩
    have htt:=HIN.out.2.2.2.2.2.2.2.1;rw [hB] at hq1 hts HWA;rw [hEe] at hq2 hts hE HWA HEC;rw [hsz] at hts HWA;rw [ha,hrr,hk] at HWA;have HWA0:cur-B=a:=ha;have HEQ:Hid (szL (qs.take i)=B∧szL (qs.take (i+1))=E∧szP q=sz):=zh ⟨hB,hEe,hsz⟩;have hEs:E<=1048576:=(by omega);have i1:(E:Int)-(sz:Int)=(B:Int):=(by omega);have i2:(cur:Int)-(B:Int)=(a:Int):=(by omega);have i3:(sz:Int)-(a:Int)=(rr:Int):=(by omega);have i4:(if rr<rem then (rr:Int) else (rem:Int))=(k:Int):=(by split <;> omega);have i6:1<=k∧k<=rem∧a+k<=sz:=(by omega);have i5:(rem:Int)-(k:Int)=((rem-k:Nat):Int):=(by omega);have HPS:Hid (∀ w,(pA X1).ho w->Calls Tryz.prog 58 #[.pointer (some ⟨X.p,0,none⟩),.agg #[.bool p.c,.int .i64 p.f,.int .i64 p.n,.int .i64 p.id]] w fun e w'=>e=.returned (.tuple #[.int .i64 (sz:Nat),.nilIface])∧St w [] [] w'):=zh fun w h=>by
     have:=pieceSize_c HRL.out.2.2.2.2.1 (hpq.le HIN.out.2.2.2.2.2.1.ok HRL.out.2.2.2.1.le) (chk_pos hck).1 w h;rwa [HRL.out.2.2.2.1.p,hsz] at this
    clear hrel hp hq hcell hB hEe hsz hk ha;go_wp2_with (first|refine sL ?_|(refine sS ?_;clear H;intros;rename_i H)|(go_at_call 58;with_reducible refine zm (HPS.out _ (H.get pk)) ?_;rintro e9 wc ⟨rfl,hb⟩;replace H:=H.grew hb.below;clear hb)|((with_reducible refine isLoad ?_);refine AtLoad.rngT rfl rfl rfl (HRX.out _ (H.known HK pk)) rfl ?_;simp only [Act.put,puA,puB,puC]));refine wp_region_h H 10 [] [] (by kernel_rfl) (by kernel_rfl) ?_;apply Exists.intro;refine ⟨fun w1 hw1 HX=>?_,fun bs wr Hr=>?_⟩
    ·refine sG ?_;repeat (first|go_big_quiet_skip|refine sQ ?_|((with_reducible refine isQLoad ?_);refine QtLoad.cel rfl rfl rfl rfl (fun y=>HEC.out _ ((HX y).known HK (A:=rowsA encI 3 1 (.slice (some ⟨ge,0,none⟩) n ce) (endsL qs)) pk)) ?_;simp only [Act.put,puA,puB,puC])|go_big_quiet_step (fail))
     exact wpQuiet_nil rfl
    clear H;have H:=Hr;clear Hr;replace H:=sH H;refine sT ?_;obtain ⟨pc,pf,pn,pid⟩:=p;obtain ⟨qc,qf,qn,qt⟩:=q;obtain ⟨g1,g2,g3,g4⟩:=hpq;simp only at g1 g2 g3 g4 HRX;subst g1 g2 g3;have HC0:Hid (∀ w,(rowsA encPi 98 4 (.slice (some ⟨g,0,none⟩) n c) ps).ho w->w.cell? ⟨g,i*4,none⟩=some (.bool pc)):=zh fun w h=>HRX.out w h 0 _ rfl
    have HC1:Hid (∀ w,(rowsA encPi 98 4 (.slice (some ⟨g,0,none⟩) n c) ps).ho w->w.cell? ⟨g,i*4+1,none⟩=some (.int .i64 pf)):=zh fun w h=>HRX.out w h 1 _ rfl
    have HC3:Hid (∀ w,(rowsA encPi 98 4 (.slice (some ⟨g,0,none⟩) n c) ps).ho w->w.cell? ⟨g,i*4+3,none⟩=some (.int .i64 (pid:Nat))):=zh fun w h=>HRX.out w h 3 _ rfl
    have HCK:=zh hck;have HID:Hid (IdIs X1.S pid (qt.map Tr.leaf)):=zh (g4.le HIN.out.2.2.2.2.2.1.ok HRL.out.2.2.2.1.le);have hob:out1.length<=70000:=(by have h1:=HRL.out;have h2:=HIN.out;omega);have hrest:Hid (∀ (X2:Px) (p2:Pi),X1.Ext X2->PxOk X2->X2.S.list.length<=X1.S.list.length+2*qt.length->PiOk X2.S p2 (sgP ⟨pc,pf,pn,qt⟩ a k)->(∃ L,PiL X2.S (out1++[p2]) (outq++L)∧win qs f m=L++win (qs.drop (i+1)) (cur+k-szL (qs.take (i+1))) (rem-k))∧(rem-k=0∨szL (qs.take (i+1))<=cur+k∧(i+1<n->cur+k<szL (qs.take (i+1+1))))∧cur+k+(rem-k)=f+m∧X.Ext X2∧PxOk X2∧X2.S.list.length<=X.S.list.length+2*txL (qs.take (i+1))∧(out1++[p2]).length<=out.length+(i+1)):=zh fun X2 p2 q1 q2 q3 q4=>by
     obtain ⟨⟨L,r1,r2⟩,r3,r4,r5,r6,r7,r8⟩:=HRL.out;obtain ⟨z1,z2,z3⟩:=HEQ.out;refine ⟨⟨L++[sgP ⟨pc,pf,pn,qt⟩ a k],?_,?_⟩,?_,by omega,r5.trans q1,q2,?_,by simp;omega⟩
     ·rw [← List.append_assoc];exact (r1.le r6.ok q1.le).append ⟨q4,trivial⟩
     ·rw [r2,z1,HWA0,HWA.out,z2];simp
     ·by_cases h0:rem-k=0
      ·exact .inl h0
      ·refine .inr ⟨by rw [z2];omega,fun hi=>?_⟩;obtain ⟨q',hq'⟩:∃ a,qs[i+1]?=some a:=⟨_,zg (by rw [HIN.out.2.2.1];exact hi)⟩
       have e1:=szL_take_succ hq';have e2:=chk_one (HIN.out.2.2.2.2.1 q' (List.mem_of_getElem? hq'));rw [z2] at e1;omega
     ·have:=HTX.out;simp only at this;omega
    clear hck g4;cases pc with
    |true =>
     obtain ⟨e1,e2⟩:=chk_pos HCK.out;obtain ⟨e3,e4,e5⟩:=e2 rfl;simp only at e1 e3 e4 e5;obtain ⟨f1,rfl⟩:∃ f:Nat,pf=f:=⟨pf.toNat,by omega⟩
     have hfb1:f1<=1048576:=(by have:=HIN.out.2.2.2.2.2.2.2.2.1;omega);clear e1 e2 e3 e4 e5;go_wp2_with (first|refine sL ?_|(refine sS ?_;clear H;intros;rename_i H)|((with_reducible refine isSlice ?_);refine AtSlice.one H rfl rfl rfl rfl rfl rfl rfl rfl rfl ?_;clear H;intro b8 _ H;simp only [Act.put,puA,puB,puC])|((with_reducible refine isAppend ?_);refine AtAppend.go (enc:=encPi) H rfl rfl rfl rfl rfl (by decide) (by decide) rfl pk rfl (H.at pk) [(⟨true,(f1:Int)+(a:Int),(k:Int),0⟩:Pi)] rfl (by simp [flatG,encPi]) encPi_len encPi_one (by simp;omega) ?_;clear H;intro ad9 cp9 _ H;simp only [Act.put,puA,puB,puC]));go_roundg (n-(i+1));case measure=>omega
     case rel =>
      have h1:=hrest.out X1 ⟨true,(f1:Int)+(a:Int),(k:Int),0⟩ (.refl _) HRL.out.2.2.2.2.1 (by omega) ⟨rfl,rfl,rfl,.inl ⟨rfl,rfl⟩⟩;exact ⟨i+1,X1,_,cur+k,rem-k,rfl,by omega,rfl,h1,H.picks (.cons pk (.cons pk (.cons pk .nil)))⟩
    |false =>
     have HSE:Hid (∀ w,((pA X1).sep deA).ho w->Calls Tryz.prog 56 #[.pointer (some ⟨X.p,0,none⟩),.int .i64 (pid:Nat),.int .i64 (a:Nat),.int .i64 (k:Nat)] w (IdPost X1 (((qt.drop a).take k).map Tr.leaf) (2*qt.length) (pA X1).fp w)):=zh fun w h=>by
      have h1:=HRL.out;have h2:=HIN.out;have h3:=HTX.out;have h4:=HTT.out;have h5:=HEQ.out;have hm:X1.S.most=X.S.most:=h1.2.2.2.1.le.1;have hz:sz=qt.length:=(by rw [← h5.2.2];simp [szP]);simp only at h3;have:=Section_ok h1.2.2.2.2.1 HID.out (from_:=a) (n:=k) (by simp;omega) (by simp;omega) (by rw [hm];simp;omega) w h;rw [h1.2.2.2.1.p,List.length_map,← List.map_drop,← List.map_take] at this;exact this
     go_wp2_with (first|refine sL ?_|(refine sS ?_;clear H;intros;rename_i H)|(go_at_call 56;with_reducible refine zm (HSE.out _ (H.sepK HK pk pk)) ?_;rintro e9 wc ⟨X2,id2,rfl,y1,y2,y3,y4,hb⟩;have HZ:=zh (za y1 (za y2 (za y3 y4)));clear y1 y2 y3 y4;replace H:=zn ((H.pick pk).call hb);clear hb)|((with_reducible refine isSlice ?_);refine AtSlice.one H rfl rfl rfl rfl rfl rfl rfl rfl rfl ?_;clear H;intro b8 _ H;simp only [Act.put,puA,puB,puC])|((with_reducible refine isAppend ?_);refine AtAppend.go (enc:=encPi) H rfl rfl rfl rfl rfl (by decide) (by decide) rfl pk rfl (H.at pk) [(⟨false,0,0,id2⟩:Pi)] rfl (by simp [flatG,encPi]) encPi_len encPi_one (by simp;omega) ?_;clear H;intro ad9 cp9 _ H;simp only [Act.put,puA,puB,puC]));go_roundg (n-(i+1));case measure=>omega
     case rel =>
      have h1:=hrest.out X2 ⟨false,0,0,id2⟩ HZ.out.1 HZ.out.2.1 HZ.out.2.2.2 ⟨rfl,rfl,rfl,HZ.out.2.2.1⟩;exact ⟨i+1,X2,_,cur+k,rem-k,rfl,by omega,rfl,h1,H.picks (.cons pk (.cons pk (.cons pk .nil)))⟩
   ·have h0:rem=0:=(by omega);subst h0;have d6:decide ((0:Int)<((0:Nat):Int))=false:=(by simp);clear hrel;go_wp2_with (first|refine sL ?_|(refine sS ?_;clear H;intros;rename_i H));go_ret2;obtain ⟨⟨L,r1,r2⟩,r3,r4,r5,r6,r7,r8⟩:=HRL.out;rw [win_zero,List.append_nil] at r2;have:=HTT9.out i;refine ⟨X1,_,out1,rfl,r5,r6,by rw [r2];exact r1,by omega,by omega,H.picks (.cons pk (.cons pk .nil))⟩
  ·have d5:decide ((i:Int)<(n:Int))=false:=(by simp;omega);have d5n:decide (i<n)=false:=(by simp;omega);have hin:i=n:=(by omega);clear hrel;go_wp2_with (first|refine sL ?_|(refine sS ?_;clear H;intros;rename_i H));go_ret2;obtain ⟨⟨L,r1,r2⟩,r3,r4,r5,r6,r7,r8⟩:=HRL.out;rw [List.drop_eq_nil_of_le (by rw [HIN.out.2.2.1];omega),win,List.append_nil] at r2;have:=HTT9.out i;refine ⟨X1,_,out1,rfl,r5,r6,by rw [r2];exact r1,by omega,by omega,H.picks (.cons pk (.cons pk .nil))⟩
end
section
open Go.RowKit Go.Maps
attribute [local go_sem] InGr strB_size
theorem AtSlice.litK {t e:TypeId} {n:Nat} {ps:Array (Nat×Operand)} {ops:Array Oper} {Q:Exit->Act->World->Prop} {rest:List Oper} {a:Act} {w w0:World} {M:List Nat} {L:List As} {o1:Oper} (H:St w0 M L w) (hw:Region.wanted o1 (yielded ops a.tmps)=true) (ho:o1.op=.buildSlice t n ps) (hte:sliceO t=some e) {z:Value} {k bytes:Nat} {cs:Array Value} (hi:infoO e=some (z,k,bytes)) (hn:¬ n*k > 2 ^ 24) (hn0:¬ n*k=0)
  (hf:Instr.fill (fun i=>some (i*k,k)) ((Array.range (n*k)).map (z.cells[·%z.cells.size]!)) (ps.map fun (i,x)=>(i,a.eval x)).toList=some cs)
  (h:∀ b w',St w0 M (blk b (.cells cs e)::L) w'->wpList Tryz.prog ops Q rest (a.put o1.dst (.slice (some ⟨b,0,none⟩) n n)) w'):AtSlice Tryz.prog ops Q o1 t n ps rest a w :=
 wpList_step fun _ hK=>by
  rw [if_pos hw];obtain ⟨i,h2,h3,h4,h5⟩:=infoO_ok hi;have hr:=run_buildSlice (P:=Tryz.prog) w t e n (ps.map fun (i,x)=>(i,a.eval x)) cs i z (sliceO_ok hte) h2 h3 (by rw [h4];exact hn) (by rw [h4];exact hn0) (by rw [h4];exact hf);unfold Oper.wp execOp;simp only [ho,Sem.run_bind,hr,Result.andThen_ok,Sem.run_pure];exact hK _ _ (h _ _ (H.alloc _))
def alQs:List Pz:=[⟨true,1,2,[]⟩,⟨true,3,1,[]⟩,⟨false,0,0,[120]⟩]
theorem al_flat:flatG encR alQs=[.bool true,.int .i64 1,.int .i64 2,.string ⟨#[]⟩,.bool true,.int .i64 3,.int .i64 1,.string ⟨#[]⟩,.bool false,.int .i64 0,.int .i64 0,.string ⟨#[120]⟩]:=by
 simp [flatG,encR,alQs,strB]
theorem alive_c (w:World) (hde:deA.ho w):Calls Tryz.prog 13 #[] w fun e w'=>e=.returned (.bool true)∧St w [] [] w':=by
 have H:=St.nil w [];have HK:Ks w [] [deA]:=Ks.one hde;clear hde;have HP:Hid (∀ w,deA.ho w->Calls Tryz.prog 15 #[.string ⟨#[97,98,99,100,101]⟩] w (ParsePost [97,98,99,100,101] w)):=zh fun w h=>by
  have:=parse_c (text:=[97,98,99,100,101]) (by decide) (by decide) w h;rw [show strB [97,98,99,100,101]=⟨#[97,98,99,100,101]⟩ from by simp [strB]] at this;exact this
 go_enter Tryz.func13,Tryz.ntmps13;go_wp2_with (first|refine sL ?_|(refine sS ?_;clear H;intros;rename_i H)|(go_at_call 15;with_reducible refine zm (HP.out _ (H.known HK pk)) ?_;rintro e9 wc ⟨X,id1,rfl,y1,y2,y3,y4,hb⟩;have HX:=zh (za y1 (za y2 (za y3 y4)));clear y1 y2 y3 y4;replace H:=zn (H.call0 hb);clear hb)|((with_reducible refine isSlice ?_);refine AtSlice.litK H rfl rfl rfl (cs:=#[.bool true,.int .i64 1,.int .i64 2,.string ⟨#[]⟩,.bool true,.int .i64 3,.int .i64 1,.string ⟨#[]⟩,.bool false,.int .i64 0,.int .i64 0,.string ⟨#[120]⟩]) rfl (by decide) (by decide) (by kernel_rfl) ?_;clear H;intro b9 _ H;simp only [Act.put,puA,puB,puC]));obtain ⟨P2,hP2⟩:∃ P2:PoolT,P2=[(b9,0,flatG encR alQs)]:=⟨_,rfl⟩
 have H2:=St.blk_poolF (H.pick (A:=blk b9 (.cells #[.bool true,.int .i64 1,.int .i64 2,.string ⟨#[]⟩,.bool true,.int .i64 3,.int .i64 1,.string ⟨#[]⟩,.bool false,.int .i64 0,.int .i64 0,.string ⟨#[120]⟩] 106)) pk);rw [al_flat] at hP2;simp only [← hP2] at H2;have hr2:RowIn P2 encR 4 (.slice (some ⟨b9,0,none⟩) 3 3) alQs:=⟨_,_,rfl,by simp [maxLen,alQs],fun _=>⟨b9,0,rfl,by rw [hP2,al_flat];exact List.mem_cons_self⟩⟩
 clear H hP2;have H:=H2;clear H2;have HPC:=zh (fun w h1 h2=>pieces_c (X:=X) (P:=P2) HX.out.1 hr2 (by decide) (by decide) (by decide) (by rw [HX.out.2.1];have:=HX.out.2.2.2;simp [txL,alQs] at this ⊢;omega) w h1 h2);go_at_call 16
 with_reducible refine zm (HPC.out _ (H.sepK HK pk pk) (H.sepO pk pk)) ?_
 rintro e9 wc ⟨X2,v2,ps,rfl,y1,y2,y3,y4,hb⟩;have HY:=zh (za y1 (za y2 (za y3 y4)));clear y1 y2 y3 y4;replace H:=zn ((H.pick pk).call hb);clear hb;have HM2:Hid (X2.S.most=1048576∧X2.S.list.length<=12∧ps.length=3):=zh ⟨by rw [HY.out.1.le.1,HX.out.2.1],by have h1:=HY.out.2.2.2;have h2:=HX.out.2.2.2;simp [txL,alQs] at h1 h2;omega,by have:=HY.out.2.2.1.len;simpa [alQs] using this⟩;obtain ⟨ad2,c2,rfl,_⟩:=rowsA_shape (H.get (A:=rowsA encPi 98 4 v2 ps) pk);have HAP:=fun w h1 h2=>apply_c (X:=X2) (b:=id1) (base:=[97,98,99,100,101]) (qs:=alQs) (ad:=ad2) (c:=c2) HY.out.2.1 (HX.out.2.2.1.le HX.out.1.ok HY.out.1.le) HY.out.2.2.1 (by rw [HM2.out.2.2];decide) (by decide) (by decide) (by decide) (by rw [HM2.out.1,HM2.out.2.2,show szL alQs=4 from by decide];have:=HM2.out.2.1;simp only [List.length_cons,List.length_nil];omega) w h1 h2
 rw [HY.out.1.p] at HAP;have HAP:=zh HAP;go_wp2_with (first|refine sL ?_|(refine sS ?_;clear H;intros;rename_i H)|(go_at_call 18;with_reducible refine zm (HAP.out _ (H.sepK HK pk pk) (H.sepO pk pk)) ?_;rintro e9 wc ⟨X3,id3,rfl,y1,y2,y3,y4,hb⟩;have HZ:=zh (za y1 (za y2 (za y3 y4)));clear y1 y2 y3 y4;replace H:=zn ((H.pick pk).call hb);clear hb)|((with_reducible refine isSlice ?_);refine AtSlice.lit H rfl rfl rfl (cs:=#[.int .u8 98,.int .u8 99,.int .u8 100,.int .u8 120]) rfl rfl rfl (by decide) (by decide) (by kernel_rfl) ?_;clear H;intro b8 _ H;simp only [Act.put,puA,puB,puC])|((with_reducible refine isConv ?_);refine AtConv.bytes (e:=5) H rfl rfl rfl rfl pk ?_;clear H;intro _ H;simp only [Act.put,puA,puB,puC]));obtain ⟨P3,hP3⟩:∃ P2:PoolT,P2=[(b8,0,[.int .u8 98,.int .u8 99,.int .u8 100,.int .u8 120])]:=⟨_,rfl⟩
 have H2:=St.blk_poolF (H.pick (A:=blk b8 (.cells #[.int .u8 98,.int .u8 99,.int .u8 100,.int .u8 120] 5 (4,4+1))) pk);simp only [← hP3] at H2;have hr3:RowIn P3 encT 1 (.slice (some ⟨b8,0,none⟩) 4 4) [98,99,100,120]:=⟨_,_,rfl,by simp [maxLen],fun _=>⟨b8,0,rfl,by rw [hP3];exact List.mem_cons_self⟩⟩
 clear H hP3;have H:=H2;clear H2;have HM3:Hid (X3.S.most=1048576∧X3.S.list.length<=54):=zh ⟨by rw [HZ.out.1.le.1,HM2.out.1],by have h1:=HZ.out.2.2.2;have h2:=HM2.out;rw [h2.2.2,show szL alQs=4 from by decide] at h1;simp only [List.length_cons,List.length_nil] at h1;omega⟩;have ho2:=fun w h1 h2=>of_any (X:=X3) (P:=P3) HZ.out.2.1 hr3 (by decide) (by decide) (by rw [HM3.out.1];have:=HM3.out.2;simp only [List.length_cons,List.length_nil];omega) w h1 h2
 rw [(HY.out.1.trans HZ.out.1).p] at ho2;have HO2:=zh ho2;clear ho2;go_at_call 22;with_reducible refine zm (HO2.out _ (H.sepK HK pk pk) (H.sepO pk pk)) ?_;rintro e9 wc ⟨X4,id4,rfl,y1,y2,y3,y4,hb⟩;have HW:=zh (za y1 (za y2 (za y3 y4)));clear y1 y2 y3 y4;replace H:=zn ((H.pick pk).call hb);clear hb
 have hid:id3=id4:=IdIs.uniq HW.out.2.1.ok (HZ.out.2.2.1.le HZ.out.2.1.ok HW.out.1.le) (by have:=HW.out.2.2.1;exact this);subst hid;have e1:((id3:Int)==(id3:Int))=true:=(by simp);go_wp2_with (first|refine sL ?_|(refine sS ?_;clear H;intros;rename_i H)|fail);go_ret;exact ⟨rfl,H.nix⟩
end
section
open Go.RowKit Go.Maps
attribute [local go_sem] InGr strB_size
def shQ (q:Pz):Nat:=q.t.length+(if q.c=true∧0<q.n then min q.n.toNat 1000 else 0)
def shL (l:List Pz):Nat:=(l.map shQ).sum
theorem shL_take_succ {l:List Pz} {i:Nat} {q:Pz} (h:l[i]?=some q):shL (l.take (i+1))=shL (l.take i)+shQ q:=by
 unfold shL;rw [List.take_add_one,h];simp
def ShRel (P:PoolT) (w:World) (qs:List Pz) (bl n m:Nat) (v1 v:Value) (wr:World):Prop :=
 ∃ (i sm:Nat),m=n-i∧i<=n∧v1=.int .i64 sm∧v=.int .i64 i∧(sm=bl+shL (qs.take i)∧sm<=2305843009213693951)∧St w [] [] wr
theorem short_c {P:PoolT} {qs:List Pz} {v:Value} {base:List Nat} (hr:RowIn P encR 4 v qs) (hbl:base.length<=1152921504606846976) (htl:∀ q∈qs,q.t.length<=1152921504606846976) (hf:∀ q∈qs,q.n<=9223372036854775807) (w:World) (hp:(poolA P).ho w) :
  Calls Tryz.prog 14 #[.string (strB base),v] w fun e w'=>∃ b:Bool,e=.returned (.bool b)∧(b=true->base.length+shL qs<=400∧qs.length<=40)∧St w [] [] w':=by
 have H:=St.nil w [];have HK:=Ks.one hp;obtain ⟨n,hnn⟩:∃ n,qs.length=n:=⟨_,rfl⟩
 obtain ⟨ad,c,rfl,hmx9⟩:=hr.shape;have HCL:Hid (∀ (i:Nat) (q:Pz),qs[i]?=some q->∃ g o,ad=some ⟨g,o,none⟩∧(∀ w,(poolA P).ho w->w.cell? ⟨g,o+i*4,none⟩=some (.bool q.c)∧w.cell? ⟨g,o+i*4+1,none⟩=some (.int .i64 q.f)∧w.cell? ⟨g,o+i*4+2,none⟩=some (.int .i64 q.n)∧w.cell? ⟨g,o+i*4+3,none⟩=some (.string (strB q.t)))∧∀ w,(poolA P).ho w->w.rangeAt g (o+i*4) [.bool q.c,.int .i64 q.f,.int .i64 q.n,.string (strB q.t)]):=zh fun i q hq=>by
  obtain ⟨ad',c',e1,_,h3⟩:=id hr;obtain ⟨g,o,rfl,_⟩:=h3 (by have:=gelt hq;omega);injection e1 with e1 _ _
  subst e1;exact ⟨g,o,rfl,row_cells hr hq,fun w h=>hr.rng h encR_len hq⟩
 obtain ⟨bl,hbb⟩:∃ n,base.length=n:=⟨_,rfl⟩
 have hsz:(strB base).size=bl:=(by rw [strB_size];exact hbb);have hmx:n<=9223372036854775807:=by
  have:=hmx9;unfold maxLen at this;omega
 rw [hnn,hbb];have HIN:Hid (qs.length=n∧n<=9223372036854775807∧(∀ q∈qs,q.t.length<=1152921504606846976)∧∀ q∈qs,q.n<=9223372036854775807):=zh ⟨hnn,hmx,htl,hf⟩;rw [hbb] at hbl;clear hr htl hnn hbb hf hp hmx9;go_enter Tryz.func14,Tryz.ntmps14;go_wp2_with (first|refine sL ?_|(refine sS ?_;clear H;intros;rename_i H));go_loopg [5,6] n (fun m v1 v2 wr=>ShRel P w qs bl n m v1 v2 wr);case atStart=>exact ⟨0,bl,rfl,Nat.zero_le _,rfl,rfl,⟨by simp [shL],by omega⟩,H⟩
 case round =>
  clear H;obtain ⟨i,sm,rfl,hik,rfl,rfl,hrel,H⟩:=hrel;have HRL:=zh hrel;have hsb:=hrel.2;by_cases hlt:i<n
  ·obtain ⟨q,hq⟩:∃ a,qs[i]?=some a:=⟨_,zg (by rw [HIN.out.1];exact hlt)⟩
   obtain ⟨g,o,rfl,hcell,hrng⟩:=HCL.out i q hq;have d5:decide ((i:Int)<(n:Int))=true:=(by simp;omega);have d5n:decide (i<n)=true:=(by simp;omega);have hil:i<n:=hlt;have hib:i<=9223372036854775806:=(by have:=HIN.out.2.1;omega);by_cases h4:sm<=400
   ·have d6:decide ((sm:Int)<=400)=true:=(by simp;omega);have d6n:decide (sm<=400)=true:=(by simp;omega);obtain ⟨k,hk⟩:∃ k,q.t.length=k:=⟨_,rfl⟩
    have hkb:k<=1152921504606846976:=(by rw [← hk];exact HIN.out.2.2.1 q (List.mem_of_getElem? hq));have hqn:=HIN.out.2.2.2 q (List.mem_of_getElem? hq);have HTK:=zh (shL_take_succ hq);obtain ⟨qc,qf,qn,qt⟩:=q;simp only at hcell hk hqn HTK;have hz:(strB qt).size=k:=(by rw [strB_size];exact hk);have HC0:Hid (∀ w,(poolA P).ho w->w.cell? ⟨g,o+i*4,none⟩=some (.bool qc)):=zh fun w h=>(hcell w h).1
    have HC1:Hid (∀ w,(poolA P).ho w->w.cell? ⟨g,o+i*4+1,none⟩=some (.int .i64 qf)):=zh fun w h=>(hcell w h).2.1
    have HC2:Hid (∀ w,(poolA P).ho w->w.cell? ⟨g,o+i*4+2,none⟩=some (.int .i64 qn)):=zh fun w h=>(hcell w h).2.2.1
    have HC3:Hid (∀ w,(poolA P).ho w->w.cell? ⟨g,o+i*4+3,none⟩=some (.string (strB qt))):=zh fun w h=>(hcell w h).2.2.2
    clear hrel hq hcell hrng;cases qc with
    |false =>
     have HQ:Hid (shQ ⟨false,qf,qn,qt⟩=k):=zh (by simp [shQ,hk]);clear hk hqn;go_wp2_with (first|refine sL ?_|(refine sS ?_;clear H;intros;rename_i H));go_roundg (n-(i+1));case measure=>omega
     case rel=>exact ⟨i+1,sm+k,rfl,by omega,by go_num,rfl,⟨by rw [HTK.out,HQ.out];have:=HRL.out.1;omega,by omega⟩,H⟩
    |true =>
     by_cases hn0:0<qn
     ·have d7:decide (0<qn)=true:=(by simp;omega);obtain ⟨m,rfl⟩:∃ m:Nat,qn=m:=⟨qn.toNat,by omega⟩
      have d7n:decide (0<m)=true:=(by simp;omega);have hmb:m<=9223372036854775807:=(by omega);have hmm:min (m:Int) 1000=((min m 1000:Nat):Int):=(by omega);have HQ:Hid (shQ ⟨true,qf,(m:Int),qt⟩=k+min m 1000):=zh (by simp [shQ,hk];omega);have hmn:min m 1000<=1000:=Nat.min_le_right _ _;generalize min m 1000=mm at *;clear hk hqn hn0;go_wp2_with (first|refine sL ?_|(refine sS ?_;clear H;intros;rename_i H));all_goals
       go_roundg (n-(i+1));case measure=>omega
       case rel=>exact ⟨i+1,sm+k+mm,rfl,by omega,by go_num,rfl,⟨by rw [HTK.out,HQ.out];have:=HRL.out.1;omega,by omega⟩,H⟩
     ·have d7:decide (0<qn)=false:=(by simp;omega);have HQ:Hid (shQ ⟨true,qf,qn,qt⟩=k):=zh (by simp [shQ,hk];intro h;omega);clear hk hqn hn0;go_wp2_with (first|refine sL ?_|(refine sS ?_;clear H;intros;rename_i H));go_roundg (n-(i+1));case measure=>omega
      case rel=>exact ⟨i+1,sm+k,rfl,by omega,by go_num,rfl,⟨by rw [HTK.out,HQ.out];have:=HRL.out.1;omega,by omega⟩,H⟩
   ·have d6:decide ((sm:Int)<=400)=false:=(by simp;omega);have d6n:decide (sm<=400)=false:=(by simp;omega);clear hrel hq hcell hrng;go_wp2_with (first|refine sL ?_|(refine sS ?_;clear H;intros;rename_i H));go_ret;exact ⟨false,rfl,fun h=>(by cases h),H⟩
  ·have d5:decide ((i:Int)<(n:Int))=false:=(by simp;omega);have d5n:decide (i<n)=false:=(by simp;omega);have hin:i=n:=(by omega);subst hin;have HE:Hid (qs.take i=qs):=zh (List.take_of_length_le (by rw [HIN.out.1];exact Nat.le_refl _));by_cases h4:sm<=400
   ·have d6:decide ((sm:Int)<=400)=true:=(by simp;omega);have d6n:decide (sm<=400)=true:=(by simp;omega);by_cases h5:i<=40
    ·have d7:decide ((i:Int)<=40)=true:=(by simp;omega);have d7n:decide (i<=40)=true:=(by simp;omega);clear hrel;go_wp2_with (first|refine sL ?_|(refine sS ?_;clear H;intros;rename_i H));go_ret;exact ⟨true,rfl,fun _=>⟨by have:=HRL.out.1;rw [HE.out] at this;omega,h5⟩,H⟩
    ·have d7:decide ((i:Int)<=40)=false:=(by simp;omega);have d7n:decide (i<=40)=false:=(by simp;omega);clear hrel;go_wp2_with (first|refine sL ?_|(refine sS ?_;clear H;intros;rename_i H));go_ret;exact ⟨false,rfl,fun h=>(by cases h),H⟩
   ·have d6:decide ((sm:Int)<=400)=false:=(by simp;omega);have d6n:decide (sm<=400)=false:=(by simp;omega);clear hrel;go_wp2_with (first|refine sL ?_|(refine sS ?_;clear H;intros;rename_i H));go_ret;exact ⟨false,rfl,fun h=>(by cases h),H⟩
end
section
open Go.RowKit Go.Maps
attribute [local go_sem] InGr strB_size
theorem strB_isE (l:List Nat):(strB l).toList.isEmpty=decide (l=[]):=by
 unfold strB;rw [ByteArray.toList_mk];cases l <;> simp
def RkRel (P:PoolT) (w:World) (qs:List Pz) (bl n m:Nat) (v:Value) (wr:World):Prop :=
 ∃ i:Nat,m=n-i∧i<=n∧v=.int .i64 i∧(∀ j q,j<i->qs[j]?=some q->chkP bl q=0)∧St w [] [] wr
theorem rcheck_c {P:PoolT} {qs:List Pz} {v:Value} {base:List Nat} (hr:RowIn P encR 4 v qs) (hbl:base.length<=1152921504606846976) (w:World) (hp:(poolA P).ho w) :
  Calls Tryz.prog 17 #[.string (strB base),v] w fun e w'=>e=.returned (.int .i64 (chkL base.length qs:Nat))∧St w [] [] w':=by
 have H:=St.nil w [];have HK:=Ks.one hp;obtain ⟨n,hnn⟩:∃ n,qs.length=n:=⟨_,rfl⟩
 obtain ⟨ad,c,rfl,hmx9⟩:=hr.shape;have HCL:Hid (∀ (i:Nat) (q:Pz),qs[i]?=some q->∃ g o,ad=some ⟨g,o,none⟩∧(∀ w,(poolA P).ho w->w.cell? ⟨g,o+i*4,none⟩=some (.bool q.c)∧w.cell? ⟨g,o+i*4+1,none⟩=some (.int .i64 q.f)∧w.cell? ⟨g,o+i*4+2,none⟩=some (.int .i64 q.n)∧w.cell? ⟨g,o+i*4+3,none⟩=some (.string (strB q.t)))∧∀ w,(poolA P).ho w->w.rangeAt g (o+i*4) [.bool q.c,.int .i64 q.f,.int .i64 q.n,.string (strB q.t)]):=zh fun i q hq=>by
  obtain ⟨ad',c',e1,_,h3⟩:=id hr;obtain ⟨g,o,rfl,_⟩:=h3 (by have:=gelt hq;omega);injection e1 with e1 _ _
  subst e1;exact ⟨g,o,rfl,row_cells hr hq,fun w h=>hr.rng h encR_len hq⟩
 obtain ⟨bl,hbb⟩:∃ n,base.length=n:=⟨_,rfl⟩
 have hsz:(strB base).size=bl:=(by rw [strB_size];exact hbb);have hmx:n<=9223372036854775807:=by
  have:=hmx9;unfold maxLen at this;omega
 rw [hnn,hbb];have HIN:Hid (qs.length=n∧n<=9223372036854775807):=zh ⟨hnn,hmx⟩;rw [hbb] at hbl;clear hr hnn hbb hp hmx9;go_enter Tryz.func17,Tryz.ntmps17;go_wp2_with (first|refine sL ?_|(refine sS ?_;clear H;intros;rename_i H));go_loopg [5] n (fun m v1 wr=>RkRel P w qs bl n m v1 wr);case atStart=>exact ⟨0,rfl,Nat.zero_le _,rfl,fun j q hj=>absurd hj (Nat.not_lt_zero _),H⟩
 case round =>
  clear H;obtain ⟨i,rfl,hik,rfl,hrel,H⟩:=hrel;have HRL:=zh hrel;by_cases hlt:i<n
  ·obtain ⟨q,hq⟩:∃ a,qs[i]?=some a:=⟨_,zg (by rw [HIN.out.1];exact hlt)⟩
   obtain ⟨g,o,rfl,hcell,hrng⟩:=HCL.out i q hq;have d5:decide ((i:Int)<(n:Int))=true:=(by simp;omega);have d5n:decide (i<n)=true:=(by simp;omega);have hil:i<n:=hlt;have hib:i<=9223372036854775806:=(by have:=HIN.out.2;omega);have HRX:=zh hrng;have HQ:=zh hq;have HFI:Hid (∀ k,chkP bl q=k->k≠0->chkL bl qs=k):=zh fun k hk h0=>by
    rw [← hk];exact chkL_first HRL.out HQ.out (by rw [hk];exact h0)
   have HNX:Hid (chkP bl q=0->∀ j q',j<i+1->qs[j]?=some q'->chkP bl q'=0):=zh fun hk j q' hj hq'=>by
    rcases Nat.lt_or_ge j i with h9|h9
    ·exact HRL.out j q' h9 hq'
    ·obtain rfl:j=i:=by omega
     rw [HQ.out] at hq';injection hq' with hq'
     rw [← hq'];exact hk
   obtain ⟨qc,qf,qn,qt⟩:=q;simp only at HRX HFI HNX;have hst:=strB_isE qt;clear hrel hq hcell hrng HQ;cases qc with
   |true =>
    by_cases h1:qn<1
    ·have d1:decide (qn<1)=true:=(by simp;omega);have HE:Hid (chkL bl qs=4):=zh (HFI.out 4 (by simp [chkP,h1]) (by omega));clear HFI HNX h1;go_wp2_with (first|go_big_skip|refine sL ?_|(refine sS ?_;clear H;intros;rename_i H)|((with_reducible refine isLoad ?_);refine AtLoad.rngT rfl rfl rfl (HRX.out _ (H.known HK pk)) rfl ?_;simp only [Act.put,puA,puB,puC]));go_ret;exact ⟨by rw [HE.out];rfl,H.nix⟩
    ·have d1:decide (qn<1)=false:=(by simp;omega);by_cases h2:qt=[]
     ·rw [show decide (qt=[])=true by simp [h2]] at hst;by_cases h3:qf<0
      ·have d2:decide (qf<0)=true:=(by simp;omega);have HE:Hid (chkL bl qs=1):=zh (HFI.out 1 (by simp only [chkP,if_true];rw [if_neg (by simp [h2,h1]),if_neg (by omega)]) (by omega));clear HFI HNX h1 h2 h3;go_wp2_with (first|go_big_skip|refine sL ?_|(refine sS ?_;clear H;intros;rename_i H)|((with_reducible refine isLoad ?_);refine AtLoad.rngT rfl rfl rfl (HRX.out _ (H.known HK pk)) rfl ?_;simp only [Act.put,puA,puB,puC]));go_ret;exact ⟨by rw [HE.out];rfl,H.nix⟩
      ·obtain ⟨f,rfl⟩:∃ f:Nat,qf=f:=⟨qf.toNat,by omega⟩
       obtain ⟨m,rfl⟩:∃ f:Nat,qn=f:=⟨qn.toNat,by omega⟩
       have d2:decide ((f:Int)<0)=false:=(by simp);by_cases h4:bl<f
       ·have d3:decide ((bl:Int)<(f:Int))=true:=(by simp;omega);have d3n:decide (bl<f)=true:=(by simp;omega);have HE:Hid (chkL bl qs=1):=zh (HFI.out 1 (by simp only [chkP,if_true];rw [if_neg (by simp only [h2];simp;omega),if_neg (by omega)]) (by omega));clear HFI HNX h1 h2 h3 h4;go_wp2_with (first|go_big_skip|refine sL ?_|(refine sS ?_;clear H;intros;rename_i H)|((with_reducible refine isLoad ?_);refine AtLoad.rngT rfl rfl rfl (HRX.out _ (H.known HK pk)) rfl ?_;simp only [Act.put,puA,puB,puC]));go_ret;exact ⟨by rw [HE.out];rfl,H.nix⟩
       ·have d3:decide ((bl:Int)<(f:Int))=false:=(by simp;omega);have d3n:decide (bl<f)=false:=(by simp;omega);obtain ⟨rs,hrs⟩:∃ k,bl-f=k:=⟨_,rfl⟩
        have i1:(bl:Int)-(f:Int)=(rs:Nat):=(by omega);by_cases h5:rs<m
        ·have d4:decide ((rs:Int)<(m:Int))=true:=(by simp;omega);have d4n:decide (rs<m)=true:=(by simp;omega);have HE:Hid (chkL bl qs=1):=zh (HFI.out 1 (by simp only [chkP,if_true];rw [if_neg (by simp only [h2];simp;omega),if_neg (by omega)]) (by omega));clear HFI HNX h1 h2 h3 h4 h5 hrs;go_wp2_with (first|go_big_skip|refine sL ?_|(refine sS ?_;clear H;intros;rename_i H)|((with_reducible refine isLoad ?_);refine AtLoad.rngT rfl rfl rfl (HRX.out _ (H.known HK pk)) rfl ?_;simp only [Act.put,puA,puB,puC]));go_ret;exact ⟨by rw [HE.out];rfl,H.nix⟩
        ·have d4:decide ((rs:Int)<(m:Int))=false:=(by simp;omega);have d4n:decide (rs<m)=false:=(by simp;omega);have HE:=zh (HNX.out (by simp only [chkP,if_true];rw [if_neg (by simp only [h2];simp;omega),if_pos (by omega)]));clear HFI HNX h1 h2 h3 h4 h5 hrs;go_wp2_with (first|go_big_skip|refine sL ?_|(refine sS ?_;clear H;intros;rename_i H)|((with_reducible refine isLoad ?_);refine AtLoad.rngT rfl rfl rfl (HRX.out _ (H.known HK pk)) rfl ?_;simp only [Act.put,puA,puB,puC]));go_roundg (n-(i+1));case measure=>omega
         case rel=>exact ⟨i+1,rfl,by omega,rfl,HE.out,H.nix⟩
     ·rw [show decide (qt=[])=false by simp [h2]] at hst;have HE:Hid (chkL bl qs=4):=zh (HFI.out 4 (by simp [chkP,h2]) (by omega));clear HFI HNX h1 h2;go_wp2_with (first|go_big_skip|refine sL ?_|(refine sS ?_;clear H;intros;rename_i H)|((with_reducible refine isLoad ?_);refine AtLoad.rngT rfl rfl rfl (HRX.out _ (H.known HK pk)) rfl ?_;simp only [Act.put,puA,puB,puC]));go_ret;exact ⟨by rw [HE.out];rfl,H.nix⟩
   |false =>
    by_cases h1:qf=0
    ·have d1:(qf != 0)=false:=(by simpa using h1);by_cases h2:qn=0
     ·have d2:(qn != 0)=false:=(by simpa using h2);by_cases h3:qt=[]
      ·rw [show decide (qt=[])=true by simp [h3]] at hst;have HE:Hid (chkL bl qs=4):=zh (HFI.out 4 (by simp [chkP,h3]) (by omega));clear HFI HNX h1 h2 h3;go_wp2_with (first|go_big_skip|refine sL ?_|(refine sS ?_;clear H;intros;rename_i H)|((with_reducible refine isLoad ?_);refine AtLoad.rngT rfl rfl rfl (HRX.out _ (H.known HK pk)) rfl ?_;simp only [Act.put,puA,puB,puC]));go_ret;exact ⟨by rw [HE.out];rfl,H.nix⟩
      ·rw [show decide (qt=[])=false by simp [h3]] at hst;have HE:=zh (HNX.out (by simp [chkP,h1,h2,h3]));clear HFI HNX h1 h2 h3;go_wp2_with (first|go_big_skip|refine sL ?_|(refine sS ?_;clear H;intros;rename_i H)|((with_reducible refine isLoad ?_);refine AtLoad.rngT rfl rfl rfl (HRX.out _ (H.known HK pk)) rfl ?_;simp only [Act.put,puA,puB,puC]));go_roundg (n-(i+1));case measure=>omega
       case rel=>exact ⟨i+1,rfl,by omega,rfl,HE.out,H.nix⟩
     ·have d2:(qn != 0)=true:=(by simpa using h2);have HE:Hid (chkL bl qs=4):=zh (HFI.out 4 (by simp [chkP,h2]) (by omega));clear HFI HNX h1 h2;go_wp2_with (first|go_big_skip|refine sL ?_|(refine sS ?_;clear H;intros;rename_i H)|((with_reducible refine isLoad ?_);refine AtLoad.rngT rfl rfl rfl (HRX.out _ (H.known HK pk)) rfl ?_;simp only [Act.put,puA,puB,puC]));go_ret;exact ⟨by rw [HE.out];rfl,H.nix⟩
    ·have d1:(qf != 0)=true:=(by simpa using h1);have HE:Hid (chkL bl qs=4):=zh (HFI.out 4 (by simp [chkP,h1]) (by omega));clear HFI HNX h1;go_wp2_with (first|go_big_skip|refine sL ?_|(refine sS ?_;clear H;intros;rename_i H)|((with_reducible refine isLoad ?_);refine AtLoad.rngT rfl rfl rfl (HRX.out _ (H.known HK pk)) rfl ?_;simp only [Act.put,puA,puB,puC]));go_ret;exact ⟨by rw [HE.out];rfl,H.nix⟩
  ·have d5:decide ((i:Int)<(n:Int))=false:=(by simp;omega);have d5n:decide (i<n)=false:=(by simp;omega);have HZ:Hid (chkL bl qs=0):=zh (chkL_zero.2 fun q hq=>by
    obtain ⟨j,hj,e⟩:=List.getElem_of_mem hq;exact HRL.out j q (by have:=HIN.out.1;omega) (by rw [zg hj,e]))
   clear hrel;go_wp2_with (first|refine sL ?_|(refine sS ?_;clear H;intros;rename_i H));go_ret;exact ⟨by rw [HZ.out];rfl,H.nix⟩
end
section
open Go.RowKit Go.Maps
attribute [local go_sem] InGr strB_size
theorem normal_no {X:Px} {b:Nat} {s:List Tr} {ps:List Pi} {qs:List Pz} {ad:Option Addr} {c:Nat} (hX:PxOk X) (hd:IdIs X.S b s) (hps:PiL X.S ps qs) (hn:ps.length<=65536) (hs:s.length<=1048576) (hk:chkL s.length qs≠0) (w:World) (h:PH X w) (hr:((pA X).sep (rowsA encPi 98 4 (.slice ad ps.length c) ps)).ho w) :
  Calls Tryz.prog 25 #[.pointer (some ⟨X.p,0,none⟩),.int .i64 b,.slice ad ps.length c] w (PPost X (.tuple #[.slice none 0 0,.iface 73 (.int .i64 (chkL s.length qs:Nat))]) (pA X).fp w):=by
 obtain ⟨k,hk9⟩:∃ k,chkL s.length qs=k:=⟨_,rfl⟩
 have h:((pA X).sep deA).ho w:=h;rw [sep_ho] at h hr;have H:=St.one h.1;have HK:Ks w (pA X).fp [deA,(rowsA encPi 98 4 (.slice ad ps.length c) ps)]:=⟨fun A hA=>by
   simp at hA;rcases hA with rfl|rfl
   ·exact h.2.1
   ·exact hr.2.1,fun A hA b hbA hm=>by
   simp at hA;rcases hA with rfl|rfl
   ·exact h.2.2 b hm hbA
   ·exact hr.2.2 b hm hbA⟩
 generalize (pA X).fp=N at *;clear h hr;obtain ⟨n,hnn⟩:∃ n,ps.length=n:=⟨_,rfl⟩
 have hsl:=hps.len;rw [hnn] at hsl hn HK ⊢;have HCK:Hid (∀ w,((pA X).sep deA).ho w->((pA X).sep (rowsA encPi 98 4 (.slice ad n c) ps)).ho w->Calls Tryz.prog 21 #[.pointer (some ⟨X.p,0,none⟩),.int .i64 b,.slice ad n c] w (PPost X (.iface 73 (.int .i64 (k:Nat))) (pA X).fp w)):=zh fun w h h2=>by
  rw [← hnn] at h2 hn ⊢;have:=check_d hX hd hps hn hs (fun h=>absurd h hk) w h h2;rw [hk9] at this hk;simpa [erN,hk] using this
 rw [hk9];clear hX hd hps hnn hsl hk hk9;go_enter Tryz.func25,Tryz.ntmps25;go_wp2_with (first|refine sL ?_|(refine sS ?_;clear H;intros;rename_i H)|(go_at_call 21;with_reducible refine zm (HCK.out _ (H.sepK HK pk pk) (H.sepK HK pk pk)) ?_;rintro e9 wc ⟨X0,y1,y2,y3,rfl,hb⟩;have HX0:=zh (za y1 (za y2 y3));clear y1 y2 y3;replace H:=zn ((H.pick pk).call hb);clear hb));go_ret2;exact ⟨X0,HX0.out.1,HX0.out.2.1,HX0.out.2.2,rfl,H.picks (.cons pk .nil)⟩
theorem normal_ok {X:Px} {b:Nat} {s:List Tr} {ps:List Pi} {qs:List Pz} {ad:Option Addr} {c:Nat} (hX:PxOk X) (hd:IdIs X.S b s) (hps:PiL X.S ps qs) (hn:ps.length<=1024) (hs:s.length<=1048576) (hk:chkL s.length qs=0) (htot:szL qs<=1048576) (htx:txL qs<=1048576) (hroom:X.S.list.length+ps.length*txL qs<=X.S.most) (w:World) (h:PH X w) (hr:((pA X).sep (rowsA encPi 98 4 (.slice ad ps.length c) ps)).ho w) :
  Calls Tryz.prog 25 #[.pointer (some ⟨X.p,0,none⟩),.int .i64 b,.slice ad ps.length c] w (JnPost X (nrm qs) (ps.length*txL qs) (pA X).fp w):=by
 have h:((pA X).sep deA).ho w:=h;rw [sep_ho] at h hr;have H:=St.one h.1;have HK:Ks w (pA X).fp [deA,(rowsA encPi 98 4 (.slice ad ps.length c) ps)]:=⟨fun A hA=>by
   simp at hA;rcases hA with rfl|rfl
   ·exact h.2.1
   ·exact hr.2.1,fun A hA b hbA hm=>by
   simp at hA;rcases hA with rfl|rfl
   ·exact h.2.2 b hm hbA
   ·exact hr.2.2 b hm hbA⟩
 generalize (pA X).fp=N at *;clear h hr;obtain ⟨n,hnn⟩:∃ n,ps.length=n:=⟨_,rfl⟩
 have hsl:=hps.len;rw [hnn] at hsl hn HK ⊢;obtain ⟨T,hT⟩:∃ m,ps.length*txL qs=m:=⟨_,rfl⟩
 rw [hT] at hroom;have hT2:n*txL qs=T:=(by rw [← hnn];exact hT);rw [hT2];have HCK:Hid (∀ w,((pA X).sep deA).ho w->((pA X).sep (rowsA encPi 98 4 (.slice ad n c) ps)).ho w->Calls Tryz.prog 21 #[.pointer (some ⟨X.p,0,none⟩),.int .i64 b,.slice ad n c] w (PPost X .nilIface (pA X).fp w)):=zh fun w h h2=>by
  rw [← hnn] at h2 hn ⊢;have:=check_d hX hd hps (by omega) hs (fun _=>htot) w h h2;rw [hk] at this;simpa [erN] using this
 have HJN:Hid (∀ X0:Px,X.Ext X0->PxOk X0->X0.S=X.S->∀ w,((pA X0).sep deA).ho w->((pA X0).sep (rowsA encPi 98 4 (.slice ad n c) ps)).ho w->Calls Tryz.prog 65 #[.pointer (some ⟨X.p,0,none⟩),.slice ad n c] w (JnPost X0 (nrm qs) T (pA X0).fp w)):=zh fun X0 q1 q2 q3 w h h2=>by
  have:=normjoin_c (ad:=ad) (c:=c) q2 (by rw [q3];exact hps) (by omega) (chkL_zero.1 hk) hs htx (by rw [q3,hT];exact hroom) w h (by rw [hnn];exact h2);rwa [hT,hnn,q1.p] at this
 clear hX hd hps hnn hsl hk hT hT2 hroom htx htot;go_enter Tryz.func25,Tryz.ntmps25;go_wp2_with (first|refine sL ?_|(refine sS ?_;clear H;intros;rename_i H)|(go_at_call 21;with_reducible refine zm (HCK.out _ (H.sepK HK pk pk) (H.sepK HK pk pk)) ?_;rintro e9 wc ⟨X0,y1,y2,y3,rfl,hb⟩;have HX0:=zh (za y1 (za y2 y3));clear y1 y2 y3;replace H:=zn ((H.pick pk).call hb);clear hb)|(go_at_call 65;with_reducible refine zm (HJN.out X0 HX0.out.1 HX0.out.2.1 HX0.out.2.2 _ (H.sepK HK pk pk) (H.sepK HK pk pk)) ?_;rintro e9 wc ⟨X2,v2,ps2,rfl,y1,y2,y3,y4,hb⟩;have HZ:=zh (za y1 (za y2 (za y3 y4)));clear y1 y2 y3 y4;replace H:=zn ((H.pick pk).call hb);clear hb));go_ret2;have h0:=HX0.out;have h1:=HZ.out;exact ⟨X2,v2,ps2,rfl,h0.1.trans h1.1,h1.2.1,h1.2.2.1,by rw [← h0.2.2];exact h1.2.2.2,H.picks (.cons pk (.cons pk .nil))⟩
end
end Go.Proofs.YtgnppnokkdghcaaGreatDoor
