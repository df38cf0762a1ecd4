/-
  Part 3 of the texts behind the statements of this seat: walks and laws Bm, Bn, Bo, Sg, Sk, Bp, Bq, Br, Bs, Bt, Bu, Bv, Ca, Cb, Cc, Cd, Ce, Cf, Ag. Conditions: as each states.
-/
import Derived.Test.YtgnppnokkdghcaaGreatDoorBc2
set_option linter.unusedSimpArgs false
set_option linter.unusedVariables false
set_option maxRecDepth 100000
set_option maxHeartbeats 80000000
namespace Go.Proofs.YtgnppnokkdghcaaGreatDoor
section
open Go.RowKit Go.Maps
attribute [local go_sem] InGr
def encG (p:Nat×Nat):List Value:=[.int .i64 p.1,.int .i64 p.2]
theorem encG_len (p:Nat×Nat):(encG p).length=2:=rfl
theorem encG_one (p:Nat×Nat):∀ u∈encG p,u.oneCell'=true:=by
 intro u hu;simp [encG] at hu;rcases hu with rfl|rfl <;> rfl
inductive ApN:List (Nat×Nat)->Prop
 |nil:ApN []
 |one (p:Nat×Nat):ApN [p]
 |cons (p q:Nat×Nat) (l:List (Nat×Nat)):p.1≠q.1->ApN (q::l)->ApN (p::q::l)
theorem ApN.snoc:∀ {l:List (Nat×Nat)} {q:Nat×Nat},ApN l->(∀ p,l.getLast?=some p->p.1≠q.1)->ApN (l++[q])
 |[],q,_,_=>.one q
 |[p],q,_,h=>.cons p q [] (h p rfl) (.one q)
 |p::r::l,q,h,hl=>by
  cases h with
  |cons _ _ _ h1 h2=>exact .cons p r (l++[q]) h1 (h2.snoc fun x hx=>hl x (by simpa using hx))
theorem ApN.last:∀ {l:List (Nat×Nat)} {x m m':Nat},ApN (l++[(x,m)])->ApN (l++[(x,m')])
 |[],x,m,m',_=>.one _
 |[p],x,m,m',h=>by
  cases h with
  |cons _ _ _ h1 h2=>exact .cons p _ [] h1 (.one _)
 |p::r::l,x,m,m',h=>by
  cases h with
  |cons _ _ _ h1 h2=>exact .cons p r _ h1 (ApN.last (l:=r::l) h2)
structure GrN (l:List Nat) (gs:List (Nat×Nat)):Prop where
 flat:gs.flatMap (fun p=>List.replicate p.2 p.1)=l
 pos:∀ p∈gs,1<=p.2
 ap:ApN gs
theorem GrN.nil:GrN [] []:=⟨rfl,by simp,.nil⟩
theorem GrN.last {l:List Nat} {gs:List (Nat×Nat)} (h:GrN l gs) {y:Nat} (hy:l.getLast?=some y):∃ gs' m,gs=gs'++[(y,m)]:=by
 rcases snoc_cases gs with rfl|⟨gs',⟨a,m⟩,rfl⟩
 ·have:=h.flat;simp at this;subst this;simp at hy
 ·have h1:=h.flat;have h2:=h.pos (a,m) (by simp);obtain ⟨k,rfl⟩:=Nat.exists_eq_succ_of_ne_zero (show m≠0 by simp at h2;omega);rw [List.flatMap_append,List.flatMap_cons,List.flatMap_nil,List.append_nil,List.replicate_succ'] at h1;rw [← h1,← List.append_assoc,List.getLast?_append] at hy;simp at hy;exact ⟨gs',_,by rw [hy]⟩
theorem GrN.more {l:List Nat} {gs':List (Nat×Nat)} {x m:Nat} (h:GrN l (gs'++[(x,m)])):GrN (l++[x]) (gs'++[(x,m+1)]):=by
 refine ⟨?_,fun p hp=>?_,h.ap.last⟩
 ·rw [← h.flat];simp [List.replicate_succ']
 ·rcases List.mem_append.1 hp with hp|hp
  ·exact h.pos p (by simp [hp])
  ·simp at hp;subst hp;simp
theorem GrN.new {l:List Nat} {gs:List (Nat×Nat)} {x:Nat} (h:GrN l gs) (hx:∀ y,l.getLast?=some y->y≠x):GrN (l++[x]) (gs++[(x,1)]):=by
 refine ⟨by rw [← h.flat];simp,fun p hp=>?_,h.ap.snoc fun p hp=>?_⟩
 ·rcases List.mem_append.1 hp with hp|hp
  ·exact h.pos p hp
  ·simp at hp;subst hp;simp
 ·rcases snoc_cases gs with rfl|⟨gs',q,rfl⟩
  ·simp at hp
  ·have e:q=p:=(by simpa using hp);subst e;refine hx q.1 ?_;rw [← h.flat];have h2:=h.pos q (by simp);obtain ⟨k,hk⟩:=Nat.exists_eq_succ_of_ne_zero (show q.2≠0 by omega);rw [List.flatMap_append,List.getLast?_append];simp [hk,List.replicate_succ']
theorem GrN.trees {S:Sto} (hS:S.Ok):∀ {gs:List (Nat×Nat)} {l:List Nat} {ts:List Tr},GrN l gs->DenL S l ts->∃ G:List (Tr×Nat),groups ts=G∧DenL S (gs.map (·.1)) (G.map (·.1))∧gs.map (·.2)=G.map (·.2):=by
 intro gs l ts h hd;suffices hs:∀ (gs:List (Nat×Nat)) (l:List Nat) (ts:List Tr),gs.flatMap (fun p=>List.replicate p.2 p.1)=l->(∀ p∈gs,1<=p.2)->DenL S l ts->∃ G:List (Tr×Nat),G.flatMap (fun p=>List.replicate p.2 p.1)=ts∧(∀ p∈G,1<=p.2)∧DenL S (gs.map (·.1)) (G.map (·.1))∧gs.map (·.2)=G.map (·.2) by
  obtain ⟨G,g1,g2,g3,g4⟩:=hs gs l ts h.flat h.pos hd;refine ⟨G,?_,g3,g4⟩;rw [← g1];refine groups_of g2 ?_;have hap:∀ (gs:List (Nat×Nat)) (G:List (Tr×Nat)),ApN gs->DenL S (gs.map (·.1)) (G.map (·.1))->ChG (fun p q=>p.1≠q.1) G:=by
   intro gs;induction gs with
   |nil=>intro G _ hd;cases G with|nil=>trivial|cons _ _=>exact hd.elim
   |cons p gs ih =>
    intro G ha hd;cases G with
    |nil=>exact hd.elim
    |cons q G =>
     cases gs with
     |nil=>cases G with|nil=>trivial|cons _ _=>exact hd.2.elim
     |cons p2 gs =>
      cases G with
      |nil=>exact hd.2.elim
      |cons q2 G =>
       cases ha with
       |cons _ _ _ h1 h2=>exact ⟨fun e=>h1 ((hd.1.eq_iff hS hd.2.1).2 e),ih (q2::G) h2 hd.2⟩
  exact hap gs G h.ap g3
 intro gs;induction gs with
 |nil =>
  intro l ts hf _ hd;simp at hf;subst hf;cases ts with
  |nil=>exact ⟨[],rfl,by simp,trivial,rfl⟩
  |cons _ _=>exact hd.elim
 |cons p gs ih =>
  intro l ts hf hp hd;obtain ⟨x,n⟩:=p;simp only [List.flatMap_cons] at hf;subst hf;have hn:=hp (x,n) (by simp);simp only at hn;have h1:=hd.take n;have h2:=hd.drop n;have hl:(List.replicate n x).length=n:=List.length_replicate;rw [List.take_left' hl] at h1;rw [List.drop_left' hl] at h2;obtain ⟨G,g1,g2,g3,g4⟩:=ih _ _ rfl (fun q hq=>hp q (by simp [hq])) h2;have hrep:∀ (n:Nat) (u:List Tr),1<=n->DenL S (List.replicate n x) u->∃ t,u=List.replicate n t∧Den S x t:=by
   intro n;induction n with
   |zero=>intro u h;omega
   |succ n ihn =>
    intro u _ hu;cases u with
    |nil=>exact hu.elim
    |cons t u =>
     rw [List.replicate_succ] at hu;by_cases h0:n=0
     ·subst h0;cases u with
      |nil=>exact ⟨t,rfl,hu.1⟩
      |cons _ _=>exact hu.2.elim
     ·obtain ⟨t',e,ht'⟩:=ihn u (by omega) hu.2;have:=hu.1.tr_inj ht';subst this;exact ⟨t,by rw [e,List.replicate_succ],hu.1⟩
  obtain ⟨t,e,ht⟩:=hrep n _ hn h1;refine ⟨(t,n)::G,?_,fun q hq=>?_,⟨ht,g3⟩,by simp [g4]⟩
  ·simp only [List.flatMap_cons];rw [g1,← e,List.take_append_drop]
  ·rcases List.mem_cons.1 hq with rfl|hq
   ·exact hn
   ·exact g2 q hq
def RunRel (ids:List Nat) (w:World) (v3 v8:Value) (wr:World):Prop :=
 ∃ (i:Nat) (gs:List (Nat×Nat)),v8=.int .i64 i∧i<=ids.length∧GrN (ids.take i) gs∧gs.length<=i∧St w [] [rowsA encG 179 2 v3 gs] wr
theorem runs_c {P:PoolT} {ids:List Nat} {g c:Nat} (hr:RowIn P encI 1 (.slice (some ⟨g,0,none⟩) ids.length c) ids) (hlen:ids.length<=65536) (w:World) (hp:(poolA P).ho w) :
  Calls Tryz.prog 97 #[.slice (some ⟨g,0,none⟩) ids.length c] w fun e w'=>∃ ad cp gs,e=.returned (.slice ad gs.length cp)∧GrN ids gs∧St w [] [rowsA encG 179 2 (.slice ad gs.length cp) gs] w':=by
 have HK:=Ks.one hp;have HR:=zh hr;have H:=(St.nil w []).empty (A:=rowsA encG 179 2 (.slice none 0 0) []) (rowsA_nil w) (by rw [rowsA_fp'];rfl);obtain ⟨n,hn⟩:∃ n,ids.length=n:=⟨_,rfl⟩
 have HN:=zh hn;rw [hn] at hlen ⊢;rw [hn] at HR;clear hr hp hn;go_enter Tryz.func97,Tryz.ntmps97;go_wp2_with (first|refine sL ?_|(refine sS ?_;clear H;intros;rename_i H))
 go_loopw [3,8] (fun v3 v8 wr=>RunRel ids w v3 v8 wr) (fun _ v8 _=>n-(intOf v8).toNat)
 case atStart=>exact ⟨0,[],rfl,Nat.zero_le _,by simpa using GrN.nil,Nat.le_refl _,H⟩
 case round =>
  clear H;obtain ⟨i,gs,rfl,hi,hg,hgl,H⟩:=hrel;rw [HN.out] at hi;obtain ⟨ad3,c3,rfl,_⟩:=rowsA_shape (H.get Pick.here);by_cases hlt:i<n
  ·obtain ⟨x,hx⟩:∃ x,ids[i]?=some x:=⟨_,zg (by rw [HN.out];exact hlt)⟩
   have htk:ids.take (i+1)=ids.take i++[x]:=(by rw [List.take_add_one,hx];rfl);have HTK:=zh htk;have HC:Hid (∀ w,(poolA P).ho w->w.cell? ⟨g,i,none⟩=some (.int .i64 x)):=zh fun w h=>by
    have:=HR.out.cell h encI_len hx rfl;simpa using this
   clear htk;have HG:=zh hg;by_cases hnew:i=0∨∃ k y,i=k+1∧ids[k]?=some y∧y≠x
   ·have hng:GrN (ids.take (i+1)) (gs++[(x,0+1)]):=by
     rw [HTK.out];refine hg.new fun y hy=>?_
     rcases hnew with h|⟨k,z,rfl,hz,hne⟩
     ·subst h;simp at hy
     ·rw [List.take_add_one,hz] at hy;simp at hy;rw [← hy];exact hne
    have HNG:=zh hng;obtain ⟨m,hm⟩:∃ m,gs.length=m:=⟨_,rfl⟩
    have HGET:Hid ((gs++[(x,0)])[m]?=some (x,0)):=zh (by rw [← hm];simp);have HM:=zh hm;rw [hm] at hgl H;simp only [hm];have hset:(gs++[(x,0)]).set m (x,0+1)=gs++[(x,0+1)]:=(by rw [← hm];simp);have HSET:=zh hset;obtain ⟨q,hq⟩:∃ q,q=0:=⟨_,rfl⟩
    clear hg hng hset hx;rcases hnew with h0|⟨k,y,rfl,hy,hne⟩
    ·subst h0;clear hq q;go_wp2_with (first|refine sL ?_|(refine sS ?_;clear H;intros;rename_i H)|((with_reducible refine isLoad ?_);first|(refine AtLoad.cel rfl rfl rfl rfl (HC.out _ (H.known HK pk)) ?_;simp only [Act.put,puA,puB,puC])|(refine AtLoad.cel rfl rfl rfl rfl (rowsA_cell (H.get Pick.here) encG_len HGET.out (j:=1) rfl) ?_;simp only [Act.put,puA,puB,puC]))|((with_reducible refine isSlice ?_);refine AtSlice.one H rfl rfl rfl rfl rfl rfl rfl rfl rfl ?_;clear H;intro b _ H;simp only [Act.put,puA,puB,puC])|((with_reducible refine isAppend ?_);refine AtAppend.go (enc:=encG) H rfl rfl rfl rfl rfl (by decide) (by decide) rfl pk rfl (H.at pk) [(x,0)] rfl (by simp [flatG,encG]) encG_len encG_one (by simp;omega) ?_;clear H;intro ad9 cp9 _ H;obtain ⟨g9,c9,e9,_,_⟩:=rowsA_cases (H.get Pick.here) (by simp);injection e9 with e9 _ e8;subst e9;subst e8;simp only [Act.put,puA,puB,puC])|((with_reducible refine isStore ?_);refine AtStore.rowAk (enc:=encG) (k:=2) (i:=m) (j:=1) H rfl rfl rfl rfl rfl rfl pk encG_len HGET.out (by omega) rfl (x,0+1) rfl ?_;clear H;intro _ H;simp only [Act.put,puA,puB,puC]));refine ⟨⟨_,gs++[(x,0+1)],by go_num,by rw [HN.out];omega,HNG.out,by simp [HM.out];omega,?_⟩,by simp [intOf];omega⟩;have hH:=H.onlyHead;rw [HSET.out] at hH;exact hH
    ·have HC1:Hid (∀ w,(poolA P).ho w->w.cell? ⟨g,k,none⟩=some (.int .i64 y)):=zh fun w h=>by
      have:=HR.out.cell h encI_len hy rfl;simpa using this
     have d1:((y:Int) != x)=true:=(by simp;omega);have d2:((k:Int)+1==0)=false:=(by simp;omega);clear hy hne hq q;go_wp2_with (first|refine sL ?_|(refine sS ?_;clear H;intros;rename_i H)|((with_reducible refine isLoad ?_);first|(refine AtLoad.cel rfl rfl rfl rfl (HC.out _ (H.known HK pk)) ?_;simp only [Act.put,puA,puB,puC])|(refine AtLoad.cel rfl rfl rfl rfl (HC1.out _ (H.known HK pk)) ?_;simp only [Act.put,puA,puB,puC])|(refine AtLoad.cel rfl rfl rfl rfl (rowsA_cell (H.get Pick.here) encG_len HGET.out (j:=1) rfl) ?_;simp only [Act.put,puA,puB,puC]))|((with_reducible refine isSlice ?_);refine AtSlice.one H rfl rfl rfl rfl rfl rfl rfl rfl rfl ?_;clear H;intro b _ H;simp only [Act.put,puA,puB,puC])|((with_reducible refine isAppend ?_);refine AtAppend.go (enc:=encG) H rfl rfl rfl rfl rfl (by decide) (by decide) rfl pk rfl (H.at pk) [(x,0)] rfl (by simp [flatG,encG]) encG_len encG_one (by simp;omega) ?_;clear H;intro ad9 cp9 _ H;obtain ⟨g9,c9,e9,_,_⟩:=rowsA_cases (H.get Pick.here) (by simp);injection e9 with e9 _ e8;subst e9;subst e8;simp only [Act.put,puA,puB,puC])|((with_reducible refine isStore ?_);refine AtStore.rowAk (enc:=encG) (k:=2) (i:=m) (j:=1) H rfl rfl rfl rfl rfl rfl pk encG_len HGET.out (by omega) rfl (x,0+1) rfl ?_;clear H;intro _ H;simp only [Act.put,puA,puB,puC]));refine ⟨⟨_,gs++[(x,0+1)],by go_num,by rw [HN.out];omega,HNG.out,by simp [HM.out];omega,?_⟩,by simp [intOf];omega⟩;have hH:=H.onlyHead;rw [HSET.out] at hH;exact hH
   ·obtain ⟨k,rfl⟩:=Nat.exists_eq_succ_of_ne_zero (show i≠0 from fun h=>hnew (.inl h));obtain ⟨y,hy⟩:∃ y,ids[k]?=some y:=⟨_,zg (by rw [HN.out];omega)⟩
    have hyx:y=x:=Classical.byContradiction fun h=>hnew (.inr ⟨k,y,rfl,hy,h⟩)
    subst hyx;obtain ⟨gs1,q,rfl⟩:=hg.last (y:=y) (by rw [List.take_add_one,hy];simp);have hng:GrN (ids.take (k+1+1)) (gs1++[(y,q+1)]):=(by rw [HTK.out];exact hg.more);have HNG:=zh hng;have HC1:Hid (∀ w,(poolA P).ho w->w.cell? ⟨g,k,none⟩=some (.int .i64 y)):=zh fun w h=>by
     have:=HR.out.cell h encI_len hy rfl;simpa using this
    obtain ⟨m,hm⟩:∃ m,gs1.length=m:=⟨_,rfl⟩
    have HGET:Hid ((gs1++[(y,q)])[m]?=some (y,q)):=zh (by rw [← hm];simp);have hset:(gs1++[(y,q)]).set m (y,q+1)=gs1++[(y,q+1)]:=(by rw [← hm];simp);have HSET:=zh hset;have hql:q<=65536:=by
     have h1:=congrArg List.length hg.flat;simp only [List.flatMap_append,List.length_append,List.flatMap_cons,List.flatMap_nil,List.append_nil,List.length_replicate,List.length_take] at h1;omega
    obtain ⟨g3,c4,e9,_,_⟩:=rowsA_cases (H.get Pick.here) (by simp);injection e9 with e9 _ e8
    subst e9;subst e8;simp only [List.length_append,List.length_singleton,hm] at H hgl ⊢;have HM:=zh hm;have d2:((k:Int)+1==0)=false:=(by simp;omega);clear hg hng hset hx hy hnew;go_wp2_with (first|refine sL ?_|(refine sS ?_;clear H;intros;rename_i H)|((with_reducible refine isLoad ?_);first|(refine AtLoad.cel rfl rfl rfl rfl (HC.out _ (H.known HK pk)) ?_;simp only [Act.put,puA,puB,puC])|(refine AtLoad.cel rfl rfl rfl rfl (HC1.out _ (H.known HK pk)) ?_;simp only [Act.put,puA,puB,puC])|(refine AtLoad.cel rfl rfl rfl rfl (rowsA_cell (H.get Pick.here) encG_len HGET.out (j:=1) rfl) ?_;simp only [Act.put,puA,puB,puC]))|((with_reducible refine isStore ?_);refine AtStore.rowAk (enc:=encG) (k:=2) (i:=m) (j:=1) H rfl rfl rfl rfl rfl rfl pk encG_len HGET.out (by omega) rfl (y,q+1) rfl ?_;clear H;intro _ H;simp only [Act.put,puA,puB,puC]));refine ⟨⟨_,gs1++[(y,q+1)],by go_num,by rw [HN.out];omega,HNG.out,by simp [HM.out];omega,?_⟩,by simp [intOf];omega⟩;have hH:=H.onlyHead;rw [HSET.out] at hH;exact hH
  ·obtain rfl:i=n:=by omega
   have HG:=zh hg;clear hg;go_wp2_with (first|refine sL ?_|(refine sS ?_;clear H;intros;rename_i H));go_ret;have hg:=HG.out;rw [← HN.out,List.take_length] at hg;exact ⟨ad3,c3,gs,rfl,hg,H.only (A:=rowsA encG 179 2 (.slice ad3 gs.length c3) gs) pk⟩
end
section
def pairIx (f:Nat->Nat->Bool):Nat->List Nat->List Nat
 |_,[]=>[]
 |_,[_]=>[]
 |o,x::y::r=>if f x y then o::pairIx f (o+2) r else pairIx f (o+1) (y::r)
def fitAt (f:Nat->Nat->Bool) (l:List Nat) (i:Nat):Bool:=match l[i]?,l[i+1]? with|some x,some y=>f x y|_,_=>false
def allIx (f:Nat->Nat->Bool) (l:List Nat) (n:Nat):List Nat:=(List.range n).filter (fitAt f l)
theorem allIx_succ (f:Nat->Nat->Bool) (l:List Nat) (n:Nat):allIx f l (n+1)=if fitAt f l n then allIx f l n++[n] else allIx f l n:=by
 unfold allIx;rw [List.range_succ,List.filter_append];by_cases h:fitAt f l n <;> simp [h]
theorem allIx_cons (f:Nat->Nat->Bool) (x:Nat) (l:List Nat) (n:Nat):allIx f (x::l) (n+1)=(if fitAt f (x::l) 0 then [0] else [])++(allIx f l n).map (·+1):=by
 unfold allIx;rw [List.range_succ_eq_map,List.filter_cons,List.filter_map];have:(fitAt f (x::l)) ∘ Nat.succ=fitAt f l:=by funext i;simp [fitAt,Function.comp]
 rw [this];split <;> simp
theorem pairIx_all (f:Nat->Nat->Bool) (hf:∀ x y z,f x y=true->f y z=false):∀ (l:List Nat) (o:Nat),pairIx f o l=(allIx f l (l.length-1)).map (·+o)
 |[],o=>by simp [pairIx,allIx]
 |[x],o=>by simp [pairIx,allIx]
 |[x,y],o=>by
  have h0:fitAt f [x,y] 0=f x y:=rfl;simp only [pairIx,allIx];by_cases h:f x y=true <;> simp [h,h0,List.range_succ]
 |x::y::z::r,o=>by
  have ih1:=pairIx_all f hf (z::r) (o+2);have ih2:=pairIx_all f hf (y::z::r) (o+1);have h0:fitAt f (x::y::z::r) 0=f x y:=rfl;have h1:fitAt f (y::z::r) 0=f y z:=rfl;have e1:(x::y::z::r).length-1=(z::r).length+1:=(by simp);have e2:(y::z::r).length-1=(z::r).length:=(by simp);rw [pairIx,e1,allIx_cons,h0];by_cases h:f x y=true
  ·rw [if_pos h,if_pos h,ih1];have e3:(z::r).length=((z::r).length-1)+1:=(by simp);rw [e3,allIx_cons,h1,hf x y z h];simp [List.map_map,Function.comp_def,Nat.add_assoc,Nat.add_comm,Nat.add_left_comm]
  ·rw [if_neg h,if_neg h,ih2,e2];simp [List.map_map,Function.comp_def,Nat.add_assoc,Nat.add_comm,Nat.add_left_comm]
def stIx (s:Nat×Nat):List Nat:=(List.range (s.2/2)).map fun j=>s.1+2*j
theorem stIx_two (o n:Nat):stIx (o,n+2)=o::stIx (o+2,n):=by
 unfold stIx;rw [show (n+2)/2=n/2+1 by omega,List.range_succ_eq_map];simp only [List.map_cons,List.map_map,Nat.mul_zero,Nat.add_zero];congr 1
 apply List.map_congr_left;intro j _;simp;omega
def eqB (x y:Nat):Bool:=decide (x=y)
theorem pairIx_stretch (k:Nat):∀ (n o:Nat) (r:List Nat),(∀ y,r.head?=some y->y≠k)->pairIx eqB o (List.replicate n k++r)=stIx (o,n)++pairIx eqB (o+n) r
 |0,o,r,_=>by simp [stIx]
 |1,o,r,h=>by
  cases r with
  |nil=>simp [pairIx,stIx]
  |cons y r =>
   have hy:=h y rfl;have:eqB k y=false:=by simp [eqB];exact fun e=>hy e.symm
   simp [pairIx,stIx,this]
 |n+2,o,r,h=>by
  rw [List.replicate_succ,List.replicate_succ,List.cons_append,List.cons_append,pairIx,if_pos (by simp [eqB]),pairIx_stretch k n (o+2) r h,stIx_two];simp [Nat.add_assoc,Nat.add_comm 2 n]
structure StInv (l:List Nat) (i from_:Nat) (sts:List (Nat×Nat)):Prop where
 le:from_<=i
 same:∀ j,from_<=j->j<=i->j<l.length->l[j]?=l[from_]?
 ix:pairIx eqB 0 l=sts.flatMap stIx++pairIx eqB from_ (l.drop from_)
 two:∀ s∈sts,2<=s.2∧s.1+s.2<=l.length
theorem StInv.start (l:List Nat):StInv l 0 0 []:=⟨Nat.le_refl _,fun j h1 h2 _=>by rw [show j=0 by omega],by simp,by simp⟩
theorem StInv.go {l:List Nat} {i fr:Nat} {sts:List (Nat×Nat)} (h:StInv l i fr sts) (hi:l[i+1]?=l[i]?) (hlt:i+1<l.length):StInv l (i+1) fr sts:=by
 refine ⟨by have:=h.le;omega,fun j h1 h2 h3=>?_,h.ix,h.two⟩;by_cases hj:j<=i
 ·exact h.same j h1 hj h3
 ·rw [show j=i+1 by omega,hi];exact h.same i h.le (Nat.le_refl _) (by omega)
theorem StInv.drop_eq {l:List Nat} {i fr:Nat} {sts:List (Nat×Nat)} (h:StInv l i fr sts) {k:Nat} (hk:l[i]?=some k):l.drop fr=List.replicate (i+1-fr) k++l.drop (i+1):=by
 have hil:=gelt hk;apply List.ext_getElem?;intro j;rw [List.getElem?_drop,List.getElem?_append];split
 ·rename_i hj;simp only [List.length_replicate] at hj;rw [List.getElem?_replicate,if_pos hj];have e1:=h.same (fr+j) (by omega) (by omega) (by omega);have e2:=h.same i h.le (Nat.le_refl _) hil;rw [e1,← e2,hk]
 ·rename_i hj;simp only [List.length_replicate] at hj ⊢;rw [List.getElem?_drop];congr 1
  have:=h.le;omega
theorem StInv.cut {l:List Nat} {i fr:Nat} {sts:List (Nat×Nat)} (h:StInv l i fr sts) {k:Nat} (hk:l[i]?=some k) (hn:∀ y,l[i+1]?=some y->y≠k):StInv l (i+1) (i+1) (if 1<i+1-fr then sts++[(fr,i+1-fr)] else sts):=by
 have hil:=gelt hk;have hle:=h.le;refine ⟨Nat.le_refl _,fun j h1 h2 h3=>by rw [show j=i+1 by omega],?_,fun s hs=>?_⟩
 ·have e:=pairIx_stretch k (i+1-fr) fr (l.drop (i+1)) (fun y hy=>hn y (by rw [List.head?_drop] at hy;exact hy));rw [h.ix,h.drop_eq hk,e,show fr+(i+1-fr)=i+1 by omega];split
  ·simp
  ·rename_i hh;have:stIx (fr,i+1-fr)=[]:=by unfold stIx;rw [show (fr,i+1-fr).2/2=0 by simp only;omega];rfl
   rw [this];simp
 ·split at hs
  ·rcases List.mem_append.1 hs with hs|hs
   ·exact h.two s hs
   ·simp at hs;subst hs;simp;omega
  ·exact h.two s hs
theorem StInv.done {l:List Nat} {sts:List (Nat×Nat)} (h:StInv l l.length l.length sts):pairIx eqB 0 l=sts.flatMap stIx:=by
 have:=h.ix;simpa [pairIx] using this
theorem fitsN_tie {L:Nat} (h:isTie L=true) (x y:Nat):fitsN x y L=eqB x y:=by
 unfold isTie at h;simp only [decide_eq_true_eq] at h;unfold fitsN eqB;rw [if_neg (by omega),if_pos h.2.2]
theorem fitsN_nontie {L:Nat} (h:isTie L=false) (x y z:Nat) (hf:fitsN x y L=true):fitsN y z L=false:=by
 unfold fitsN at hf ⊢;unfold isTie at h;split at hf
 ·cases hf
 ·rename_i h1;have h2:¬ (L/2-1)%123=122:=fun e=>by simp [e] at h;omega
  rw [if_neg h2] at hf;simp only [if_neg h1,if_neg h2];simp only [Bool.and_eq_true,decide_eq_true_eq] at hf;simp;omega
end
section
open Go.RowKit Go.Maps
attribute [local go_sem] InGr
def encU (x:Nat):List Value:=[.int .u64 x]
theorem encU_len (x:Nat):(encU x).length=1:=rfl
def StRel (keys:List Nat) (w:World) (v3 v4 v9:Value) (wr:World):Prop :=
 ∃ (i fr:Nat) (sts:List (Nat×Nat)),v9=.int .i64 i∧v4=.int .i64 fr∧i<=keys.length∧StInv keys i fr sts∧sts.length<=i∧(i=keys.length->fr=i)∧St w [] [rowsA encG 222 2 v3 sts] wr
theorem stretches_c {P:PoolT} {keys:List Nat} {g c:Nat} (hr:RowIn P encU 1 (.slice (some ⟨g,0,none⟩) keys.length c) keys) (hlen:keys.length<=65536) (w:World) (hp:(poolA P).ho w) :
  Calls Tryz.prog 126 #[.slice (some ⟨g,0,none⟩) keys.length c] w fun e w'=>∃ ad cp sts,e=.returned (.slice ad sts.length cp)∧pairIx eqB 0 keys=sts.flatMap stIx∧(∀ s∈sts,2<=s.2∧s.1+s.2<=keys.length)∧sts.length<=keys.length∧St w [] [rowsA encG 222 2 (.slice ad sts.length cp) sts] w':=by
 have HK:=Ks.one hp;have HR:=zh hr;have H:=(St.nil w []).empty (A:=rowsA encG 222 2 (.slice none 0 0) []) (rowsA_nil w) (by rw [rowsA_fp'];rfl);obtain ⟨n,hn⟩:∃ n,keys.length=n:=⟨_,rfl⟩
 have HN:=zh hn;rw [hn] at hlen ⊢;rw [hn] at HR;clear hr hp hn;go_enter Tryz.func126,Tryz.ntmps126;go_wp2_with (first|refine sL ?_|(refine sS ?_;clear H;intros;rename_i H))
 go_loopw [3,4,9] (fun v3 v4 v9 wr=>StRel keys w v3 v4 v9 wr) (fun _ _ v9 _=>n-(intOf v9).toNat)
 case atStart=>exact ⟨0,0,[],rfl,rfl,Nat.zero_le _,StInv.start _,Nat.le_refl _,fun _=>rfl,H⟩
 case round =>
  clear H;obtain ⟨i,fr,sts,rfl,rfl,hi,hinv,hsl,hend,H⟩:=hrel;rw [HN.out] at hi hend;obtain ⟨ad3,c3,rfl,_⟩:=rowsA_shape (H.get Pick.here);have hfr:=hinv.le;have HI:=zh hinv;by_cases hlt:i<n
  ·obtain ⟨k,hk⟩:∃ k,keys[i]?=some k:=⟨_,zg (by rw [HN.out];exact hlt)⟩
   have HC:Hid (∀ w,(poolA P).ho w->w.cell? ⟨g,i,none⟩=some (.int .u64 k)):=zh fun w h=>by
    have:=HR.out.cell h encU_len hk rfl;simpa using this
   have HK0:=zh hk;obtain ⟨q,hq⟩:∃ q,q=i+1-fr:=⟨_,rfl⟩
   have hs:(i:Int)+1-(fr:Int)=(q:Int):=(by omega);have HQ:=zh hq;clear hinv hend hk;by_cases hnx:i+1<n
   ·obtain ⟨y,hy⟩:∃ y,keys[i+1]?=some y:=⟨_,zg (by rw [HN.out];exact hnx)⟩
    have HC1:Hid (∀ w,(poolA P).ho w->w.cell? ⟨g,i+1,none⟩=some (.int .u64 y)):=zh fun w h=>by
     have:=HR.out.cell h encU_len hy rfl;simpa using this
    have d1:decide ((i:Int)+1<(n:Int))=true:=(by simp;omega);by_cases hyk:y=k
    ·subst hyk;have HY:=zh hy;clear hy hq;go_wp2_with (first|refine sL ?_|(refine sS ?_;clear H;intros;rename_i H));refine wp_region_h H 17 [] [] (by kernel_rfl) (by kernel_rfl) ?_;apply Exists.intro;refine ⟨fun w1 hw1 HX=>?_,fun bs wr Hr=>?_⟩
     ·refine sG ?_;repeat (first|go_big_quiet_skip|refine sQ ?_|((with_reducible refine isQLoad ?_);first|(refine QtLoad.cel rfl rfl rfl rfl (fun y=>HC.out _ ((HX y).known HK pk)) ?_;simp only [Act.put,puA,puB,puC])|(refine QtLoad.cel rfl rfl rfl rfl (fun y=>HC1.out _ ((HX y).known HK pk)) ?_;simp only [Act.put,puA,puB,puC]))|go_big_quiet_step (fail))
      exact wpQuiet_nil rfl
     clear H;have H:=Hr;clear Hr;replace H:=sH H;refine sT ?_;go_wp2_with (first|refine sL ?_|(refine sS ?_;clear H;intros;rename_i H));refine ⟨⟨i+1,fr,sts,by go_num,rfl,by rw [HN.out];omega,HI.out.go (by rw [HY.out,HK0.out]) (by rw [HN.out];exact hnx),by omega,fun h=>by rw [HN.out] at h;omega,H.onlyHead⟩,by simp [intOf];omega⟩
    ·have HNE:Hid (∀ z,keys[i+1]?=some z->z≠k):=zh fun z hz=>by rw [hy] at hz;injection hz with hz;rw [← hz];exact hyk
     have d2:((y:Int)==(k:Int))=false:=(by simp;omega);clear hy hyk hq;by_cases hq1:1<q
     ·go_wp2_with (first|refine sL ?_|(refine sS ?_;clear H;intros;rename_i H));refine wp_region_h H 17 [] [] (by kernel_rfl) (by kernel_rfl) ?_;apply Exists.intro;refine ⟨fun w1 hw1 HX=>?_,fun bs wr Hr=>?_⟩
      ·refine sG ?_;repeat (first|go_big_quiet_skip|refine sQ ?_|((with_reducible refine isQLoad ?_);first|(refine QtLoad.cel rfl rfl rfl rfl (fun y=>HC.out _ ((HX y).known HK pk)) ?_;simp only [Act.put,puA,puB,puC])|(refine QtLoad.cel rfl rfl rfl rfl (fun y=>HC1.out _ ((HX y).known HK pk)) ?_;simp only [Act.put,puA,puB,puC]))|go_big_quiet_step (fail))
       exact wpQuiet_nil rfl
      clear H;have H:=Hr;clear Hr;replace H:=sH H;refine sT ?_;go_wp2_with (first|refine sL ?_|(refine sS ?_;clear H;intros;rename_i H)|((with_reducible refine isSlice ?_);refine AtSlice.one H rfl rfl rfl rfl rfl rfl rfl rfl rfl ?_;clear H;intro b _ H;simp only [Act.put,puA,puB,puC])|((with_reducible refine isAppend ?_);refine AtAppend.go (enc:=encG) H rfl rfl rfl rfl rfl (by decide) (by decide) rfl pk rfl (H.at pk) [(fr,q)] rfl (by simp [flatG,encG]) encG_len encG_one (by simp;omega) ?_;clear H;intro ad9 cp9 _ H;simp only [Act.put,puA,puB,puC]));refine ⟨⟨i+1,i+1,sts++[(fr,q)],by go_num,by go_num,by rw [HN.out];omega,?_,by first|omega|(simp;omega),fun _=>rfl,H.onlyHead⟩,by simp [intOf];omega⟩;have:=HI.out.cut HK0.out HNE.out;rw [← HQ.out] at this;rw [if_pos (by omega)] at this;exact this
     ·go_wp2_with (first|refine sL ?_|(refine sS ?_;clear H;intros;rename_i H));refine wp_region_h H 17 [] [] (by kernel_rfl) (by kernel_rfl) ?_;apply Exists.intro;refine ⟨fun w1 hw1 HX=>?_,fun bs wr Hr=>?_⟩
      ·refine sG ?_;repeat (first|go_big_quiet_skip|refine sQ ?_|((with_reducible refine isQLoad ?_);first|(refine QtLoad.cel rfl rfl rfl rfl (fun y=>HC.out _ ((HX y).known HK pk)) ?_;simp only [Act.put,puA,puB,puC])|(refine QtLoad.cel rfl rfl rfl rfl (fun y=>HC1.out _ ((HX y).known HK pk)) ?_;simp only [Act.put,puA,puB,puC]))|go_big_quiet_step (fail))
       exact wpQuiet_nil rfl
      clear H;have H:=Hr;clear Hr;replace H:=sH H;refine sT ?_;go_wp2_with (first|refine sL ?_|(refine sS ?_;clear H;intros;rename_i H));refine ⟨⟨i+1,i+1,sts,by go_num,by go_num,by rw [HN.out];omega,?_,by first|omega|(simp;omega),fun _=>rfl,H.onlyHead⟩,by simp [intOf];omega⟩;have:=HI.out.cut HK0.out HNE.out;rw [← HQ.out] at this;rw [if_neg (by omega)] at this;exact this
   ·have HNE:Hid (∀ z,keys[i+1]?=some z->z≠k):=zh fun z hz=>by have:=gelt hz;rw [HN.out] at this;omega
    have d1:decide ((i:Int)+1<(n:Int))=false:=(by simp;omega);clear hq;by_cases hq1:1<q
    ·go_wp2_with (first|refine sL ?_|(refine sS ?_;clear H;intros;rename_i H));refine wp_region_h H 17 [] [] (by kernel_rfl) (by kernel_rfl) ?_;apply Exists.intro;refine ⟨fun w1 hw1 HX=>?_,fun bs wr Hr=>?_⟩
     ·refine sG ?_;repeat (first|go_big_quiet_skip|refine sQ ?_|fail|go_big_quiet_step (fail))
      exact wpQuiet_nil rfl
     clear H;have H:=Hr;clear Hr;replace H:=sH H;refine sT ?_;go_wp2_with (first|refine sL ?_|(refine sS ?_;clear H;intros;rename_i H)|((with_reducible refine isSlice ?_);refine AtSlice.one H rfl rfl rfl rfl rfl rfl rfl rfl rfl ?_;clear H;intro b _ H;simp only [Act.put,puA,puB,puC])|((with_reducible refine isAppend ?_);refine AtAppend.go (enc:=encG) H rfl rfl rfl rfl rfl (by decide) (by decide) rfl pk rfl (H.at pk) [(fr,q)] rfl (by simp [flatG,encG]) encG_len encG_one (by simp;omega) ?_;clear H;intro ad9 cp9 _ H;simp only [Act.put,puA,puB,puC]));refine ⟨⟨i+1,i+1,sts++[(fr,q)],by go_num,by go_num,by rw [HN.out];omega,?_,by first|omega|(simp;omega),fun _=>rfl,H.onlyHead⟩,by simp [intOf];omega⟩;have:=HI.out.cut HK0.out HNE.out;rw [← HQ.out] at this;rw [if_pos (by omega)] at this;exact this
    ·go_wp2_with (first|refine sL ?_|(refine sS ?_;clear H;intros;rename_i H));refine wp_region_h H 17 [] [] (by kernel_rfl) (by kernel_rfl) ?_;apply Exists.intro;refine ⟨fun w1 hw1 HX=>?_,fun bs wr Hr=>?_⟩
     ·refine sG ?_;repeat (first|go_big_quiet_skip|refine sQ ?_|fail|go_big_quiet_step (fail))
      exact wpQuiet_nil rfl
     clear H;have H:=Hr;clear Hr;replace H:=sH H;refine sT ?_;go_wp2_with (first|refine sL ?_|(refine sS ?_;clear H;intros;rename_i H));refine ⟨⟨i+1,i+1,sts,by go_num,by go_num,by rw [HN.out];omega,?_,by first|omega|(simp;omega),fun _=>rfl,H.onlyHead⟩,by simp [intOf];omega⟩;have:=HI.out.cut HK0.out HNE.out;rw [← HQ.out] at this;rw [if_neg (by omega)] at this;exact this
  ·obtain rfl:i=n:=by omega
   obtain rfl:=hend rfl;clear hinv hend;go_wp2_with (first|refine sL ?_|(refine sS ?_;clear H;intros;rename_i H));go_ret;have hi2:=HI.out;have h1:=HN.out;refine ⟨ad3,c3,sts,rfl,?_,fun s hs=>by have:=hi2.two s hs;rw [h1] at this;exact this,by omega,H.onlyHead⟩;rw [← h1] at hi2;exact hi2.done
theorem pairIx_len (f:Nat->Nat->Bool):∀ (l:List Nat) (o:Nat),(pairIx f o l).length<=l.length
 |[],o=>by simp [pairIx]
 |[x],o=>by simp [pairIx]
 |x::y::r,o=>by
  rw [pairIx];split
  ·have:=pairIx_len f r (o+2);simp;omega
  ·have:=pairIx_len f (y::r) (o+1);simp at this ⊢;omega
theorem allIx_len (f:Nat->Nat->Bool) (l:List Nat) (n:Nat):(allIx f l n).length<=n:=by
 have:=List.length_filter_le (fitAt f l) (List.range n);simpa [allIx] using this
def NtRel (keys:List Nat) (f:Nat->Nat->Bool) (n:Nat) (w:World) (v5 v12:Value) (wr:World):Prop :=
 ∃ (i:Nat),v12=.int .i64 i∧i<=n-1∧St w [] [rowsA encI 3 1 v5 (allIx f keys i)] wr
theorem pairs_nontie {P:PoolT} {keys:List Nat} {g c L:Nat} (hL2:2<=L) (hL0:L%2=0) (hLt:L<1152921504606846976) (ht:isTie L=false) (hr:RowIn P encU 1 (.slice (some ⟨g,0,none⟩) keys.length c) keys) (hk0:∀ k∈keys,k<2305843009213693951) (hlen:keys.length<=65536) (h1:1<=keys.length) (w:World) (hp:(poolA P).ho w) :
  Calls Tryz.prog 99 #[.slice (some ⟨g,0,none⟩) keys.length c,.int .i64 L] w fun e w'=>∃ ad cp,e=.returned (.slice ad (pairIx (fun x y=>fitsN x y L) 0 keys).length cp)∧St w [] [rowsA encI 3 1 (.slice ad (pairIx (fun x y=>fitsN x y L) 0 keys).length cp) (pairIx (fun x y=>fitsN x y L) 0 keys)] w':=by
 have HK:=Ks.one hp;have HR:=zh hr;have H:=(St.nil w []).empty (A:=rowsA encI 3 1 (.slice none 0 0) []) (rowsA_nil w) (by rw [rowsA_fp'];rfl);have HPI:=zh (pairIx_all (fun x y=>fitsN x y L) (fun x y z h=>fitsN_nontie ht x y z h) keys 0);have hne:(L/2-1)%123≠122:=fun e=>by unfold isTie at ht;simp [e] at ht;omega
 have HF:Hid (∀ x y,fitsN x y L=(decide (x/2 ^ ((L/2-1)%123/2)%2=(L/2-1)%123%2)&&decide (y/2 ^ ((L/2-1)%123/2)%2=1-(L/2-1)%123%2))):=zh fun x y=>by
  unfold fitsN;rw [if_neg (by omega),if_neg hne]
 have HN0:Hid (∀ w,Calls Tryz.prog 125 #[.int .i64 L] w fun e w'=>e=.returned (.tuple #[.int .i64 ((L/2-1)%123/2:Nat),.int .u64 ((L/2-1)%123%2:Nat),.bool false])∧w'=w):=zh fun w=>by
  have:=Number_c L hLt w;unfold numV at this;rw [if_neg (by omega),if_neg hne] at this;exact this
 have hbit:(L/2-1)%123/2<62:=(by omega);have hfst:(L/2-1)%123%2<2:=Nat.mod_lt _ (by omega);generalize hf:(fun x y=>fitsN x y L)=f at *;have HFF:Hid (∀ x y,f x y=fitsN x y L):=zh fun x y=>by rw [← hf]
 generalize (L/2-1)%123/2=bt at *;generalize (L/2-1)%123%2=fs at *;obtain ⟨n,hn⟩:∃ n,keys.length=n:=⟨_,rfl⟩
 have HN:=zh hn;have HK61:=zh hk0;rw [hn] at hlen h1 ⊢;rw [hn] at HR HPI;have hg1:decide ((L:Int)<2)=false:=(by simp;omega);have hg2:((L:Int)%2==0)=true:=(by simp;omega);have hg3:((L:Int)%2 != 0)=false:=(by simp;omega);clear hr hp hn hk0 hf hne ht;go_enter Tryz.func99,Tryz.ntmps99;go_wp2_with (first|refine sL ?_|(refine sS ?_;clear H;intros;rename_i H)|(go_at_call 125;with_reducible refine same (HN0.out _) ?_))
 go_loopw [5,12] (fun v5 v12 wr=>NtRel keys f n w v5 v12 wr) (fun _ v12 _=>n-(intOf v12).toNat)
 case atStart=>exact ⟨0,rfl,Nat.zero_le _,by simpa [allIx] using H⟩
 case round =>
  clear H;obtain ⟨i,rfl,hi,H⟩:=hrel;obtain ⟨ad5,c5,rfl,_⟩:=rowsA_shape (H.get Pick.here);have hal:=allIx_len f keys i;by_cases hnx:i+1<n
  ·obtain ⟨x,hx⟩:∃ x,keys[i]?=some x:=⟨_,zg (by rw [HN.out];omega)⟩
   obtain ⟨y,hy⟩:∃ y,keys[i+1]?=some y:=⟨_,zg (by rw [HN.out];omega)⟩
   have HC:Hid (∀ w,(poolA P).ho w->w.cell? ⟨g,i,none⟩=some (.int .u64 x)):=zh fun w h=>by
    have:=HR.out.cell h encU_len hx rfl;simpa using this
   have HC1:Hid (∀ w,(poolA P).ho w->w.cell? ⟨g,i+1,none⟩=some (.int .u64 y)):=zh fun w h=>by
    have:=HR.out.cell h encU_len hy rfl;simpa using this
   have hx61:=HK61.out x (List.mem_of_getElem? hx);have hy61:=HK61.out y (List.mem_of_getElem? hy);have e1:=and1_u64 x bt (by omega);have e2:=and1_u64 y bt (by omega);have hfa:fitAt f keys i=(decide (x/2 ^ bt%2=fs)&&decide (y/2 ^ bt%2=1-fs)):=by
    unfold fitAt;rw [hx,hy];simp only;rw [HFF.out,HF.out]
   have hix:=allIx_succ f keys i;rw [hfa] at hix;have hxb:x/2 ^ bt%2<2:=Nat.mod_lt _ (by omega);have hyb:y/2 ^ bt%2<2:=Nat.mod_lt _ (by omega);generalize x/2 ^ bt%2=xb at *;generalize y/2 ^ bt%2=yb at *;clear hfa hx hy;by_cases hxf:xb=fs
   ·have d1:((xb:Int)==(fs:Int))=true:=(by simp;omega);by_cases hyf:yb=1-fs
    ·have d2:((yb:Int) != (fs:Int))=true:=(by simp;omega);have HIX:Hid (allIx f keys (i+1)=allIx f keys i++[i]):=zh (by rw [hix];simp [hxf,hyf]);clear hix hxf hyf;generalize hA:allIx f keys i=al at *;clear hA;go_wp2_with (first|refine sL ?_|(refine sS ?_;clear H;intros;rename_i H)|((with_reducible refine isLoad ?_);first|(refine AtLoad.cel rfl rfl rfl rfl (HC.out _ (H.known HK pk)) ?_;simp only [Act.put,puA,puB,puC])|(refine AtLoad.cel rfl rfl rfl rfl (HC1.out _ (H.known HK pk)) ?_;simp only [Act.put,puA,puB,puC]))|((with_reducible refine isSlice ?_);refine AtSlice.one H rfl rfl rfl rfl rfl rfl rfl rfl rfl ?_;clear H;intro b _ H;simp only [Act.put,puA,puB,puC])|((with_reducible refine isAppend ?_);refine AtAppend.go (enc:=encI) H rfl rfl rfl rfl rfl (by decide) (by decide) rfl pk rfl (H.at pk) [i] rfl (by simp [flatG,encI]) encI_len encI_one (by simp;omega) ?_;clear H;intro ad9 cp9 _ H;simp only [Act.put,puA,puB,puC]));refine ⟨⟨i+1,by go_num,by omega,?_⟩,by simp [intOf];omega⟩;rw [HIX.out];exact H.onlyHead
    ·have d2:((yb:Int) != (fs:Int))=false:=(by simp;omega);have HIX:Hid (allIx f keys (i+1)=allIx f keys i):=zh (by rw [hix];simp [hxf,hyf]);clear hix hxf hyf;go_wp2_with (first|refine sL ?_|(refine sS ?_;clear H;intros;rename_i H)|((with_reducible refine isLoad ?_);first|(refine AtLoad.cel rfl rfl rfl rfl (HC.out _ (H.known HK pk)) ?_;simp only [Act.put,puA,puB,puC])|(refine AtLoad.cel rfl rfl rfl rfl (HC1.out _ (H.known HK pk)) ?_;simp only [Act.put,puA,puB,puC])));refine ⟨⟨i+1,by go_num,by omega,?_⟩,by simp [intOf];omega⟩;rw [HIX.out];exact H.onlyHead
   ·have d1:((xb:Int)==(fs:Int))=false:=(by simp;omega);have HIX:Hid (allIx f keys (i+1)=allIx f keys i):=zh (by rw [hix];simp [hxf]);clear hix hxf;go_wp2_with (first|refine sL ?_|(refine sS ?_;clear H;intros;rename_i H)|((with_reducible refine isLoad ?_);first|(refine AtLoad.cel rfl rfl rfl rfl (HC.out _ (H.known HK pk)) ?_;simp only [Act.put,puA,puB,puC])|(refine AtLoad.cel rfl rfl rfl rfl (HC1.out _ (H.known HK pk)) ?_;simp only [Act.put,puA,puB,puC])));refine ⟨⟨i+1,by go_num,by omega,?_⟩,by simp [intOf];omega⟩;rw [HIX.out];exact H.onlyHead
  ·obtain rfl:i=n-1:=by omega
   have HE:Hid (allIx f keys (n-1)=pairIx f 0 keys):=zh (by rw [HPI.out];simp);clear hal;rw [HE.out] at H;have hnn:((n-1:Nat):Int)+1=(n:Int):=(by omega);generalize n-1=m at *;simp only [HE.out];go_wp2_with (first|refine sL ?_|(refine sS ?_;clear H;intros;rename_i H));go_ret;exact ⟨ad5,c5,rfl,H.onlyHead⟩
theorem flatIx_len {sts:List (Nat×Nat)} {l:List Nat} (h:pairIx eqB 0 l=sts.flatMap stIx) (j:Nat):((sts.take j).flatMap stIx).length<=l.length:=by
 have h1:=pairIx_len eqB l 0;rw [h] at h1;have h2:(sts.flatMap stIx).length=((sts.take j).flatMap stIx).length+((sts.drop j).flatMap stIx).length:=by
  rw [← List.length_append,← List.flatMap_append,List.take_append_drop]
 omega
def TieRel (sts:List (Nat×Nat)) (sv:Value) (w:World) (v5 v30:Value) (wr:World):Prop :=
 ∃ (j:Nat),v30=.int .i64 j∧j<=sts.length∧St w [] [rowsA encI 3 1 v5 ((sts.take j).flatMap stIx),rowsA encG 222 2 sv sts] wr
def TieIn (sts:List (Nat×Nat)) (sv:Value) (w:World) (pre:List Nat) (fr q b:Nat) (v5 v11:Value) (wr:World):Prop :=
 ∃ (t:Nat),v11=.int .i64 ((2*t:Nat):Int)∧t<=q/2∧St w [] [rowsA encI 3 1 v5 (pre++(List.range t).map fun j=>fr+2*j),rowsA encG 222 2 sv sts,blk b (.cells #[.int .i64 fr,.int .i64 q] 222)] wr
theorem St.only3' {w0 w:World} {M:List Nat} {L R R' R'':List As} {A B C:As} (h:St w0 M L w) (h1:Pick L A R) (h2:Pick R B R') (h3:Pick R' C R''):St w0 M [A,B,C] w:=by
 have h':=h.pick3 h1 h2 h3;exact ⟨h'.os,h'.tape,h'.output,h'.size,h'.keep,fun Z hZ=>h'.ho Z (by simp at hZ ⊢;rcases hZ with rfl|rfl|rfl <;> simp),fun Z hZ=>h'.own Z (by simp at hZ ⊢;rcases hZ with rfl|rfl|rfl <;> simp),h'.dis.sublist (by simp)⟩
theorem St.only2 {w0 w:World} {M:List Nat} {L R R':List As} {A B:As} (h:St w0 M L w) (h1:Pick L A R) (h2:Pick R B R'):St w0 M [A,B] w:=(h.pick2 h1 h2).onlyTwo
theorem pairs_tie {P:PoolT} {keys:List Nat} {g c L:Nat} (hL2:2<=L) (hL0:L%2=0) (hLt:L<1152921504606846976) (ht:isTie L=true) (hr:RowIn P encU 1 (.slice (some ⟨g,0,none⟩) keys.length c) keys) (hlen:keys.length<=65536) (w:World) (hp:(poolA P).ho w) :
  Calls Tryz.prog 99 #[.slice (some ⟨g,0,none⟩) keys.length c,.int .i64 L] w fun e w'=>∃ ad cp,e=.returned (.slice ad (pairIx eqB 0 keys).length cp)∧St w [] [rowsA encI 3 1 (.slice ad (pairIx eqB 0 keys).length cp) (pairIx eqB 0 keys)] w':=by
 have HK:=Ks.one hp;have H:=(St.nil w []).empty (A:=rowsA encI 3 1 (.slice none 0 0) []) (rowsA_nil w) (by rw [rowsA_fp'];rfl);have hc:(L/2-1)%123=122:=(by unfold isTie at ht;simp at ht;omega);have HN0:Hid (∀ w,Calls Tryz.prog 125 #[.int .i64 L] w fun e w'=>e=.returned (.tuple #[.int .i64 0,.int .u64 0,.bool true])∧w'=w):=zh fun w=>by
  have:=Number_c L hLt w;unfold numV at this;rw [if_neg (by omega),if_pos hc] at this;exact this
 have HST:Hid (∀ w,(poolA P).ho w->Calls Tryz.prog 126 #[.slice (some ⟨g,0,none⟩) keys.length c] w fun e w'=>∃ ad cp sts,e=.returned (.slice ad sts.length cp)∧pairIx eqB 0 keys=sts.flatMap stIx∧(∀ s∈sts,2<=s.2∧s.1+s.2<=keys.length)∧sts.length<=keys.length∧St w [] [rowsA encG 222 2 (.slice ad sts.length cp) sts] w'):=zh fun w h=>stretches_c hr hlen w h
 obtain ⟨n,hn⟩:∃ n,keys.length=n:=⟨_,rfl⟩
 have HN:=zh hn;rw [hn] at HST hlen ⊢;have hg1:decide ((L:Int)<2)=false:=(by simp;omega);have hg2:((L:Int)%2==0)=true:=(by simp;omega);have hg3:((L:Int)%2 != 0)=false:=(by simp;omega);clear hr hp hn ht hc;go_enter Tryz.func99,Tryz.ntmps99;go_wp2_with (first|refine sL ?_|(refine sS ?_;clear H;intros;rename_i H)|(go_at_call 125;with_reducible refine same (HN0.out _) ?_)|(go_at_call 126;with_reducible refine zm (HST.out _ (H.known HK pk)) ?_;rintro e wc ⟨ads,cps,sts,rfl,hix,htwo,hsl,hb⟩;replace H:=zn (H.call0 hb);clear hb;have HIX:=zh hix;have HTW:=zh htwo;clear hix htwo))
 go_loopw [5,30] (fun v5 v30 wr=>TieRel sts (.slice ads sts.length cps) w v5 v30 wr) (fun _ v30 _=>sts.length-(intOf v30).toNat)
 case atStart=>exact ⟨0,rfl,Nat.zero_le _,H.only2 (A:=rowsA encI 3 1 (.slice none 0 0) []) (B:=rowsA encG 222 2 (.slice ads sts.length cps) sts) pk pk⟩
 case round =>
  clear H;obtain ⟨j,rfl,hj,H⟩:=hrel;obtain ⟨ad5,c5,rfl,_⟩:=rowsA_shape (H.get Pick.here);have hfl:=flatIx_len HIX.out j;rw [HN.out] at hfl;by_cases hlt:j<sts.length
  ·obtain ⟨⟨fr,q⟩,hs⟩:∃ s,sts[j]?=some s:=⟨_,zg hlt⟩
   have h2:=HTW.out (fr,q) (List.mem_of_getElem? hs);simp only [HN.out] at h2;obtain ⟨gs,c9,e9,_,_⟩:=rowsA_cases (H.get (A:=rowsA encG 222 2 (.slice ads sts.length cps) sts) pk) (by omega);injection e9 with e9 _ e8
   subst e9;subst e8;have HS:=zh hs;have htk:(sts.take (j+1)).flatMap stIx=(sts.take j).flatMap stIx++stIx (fr,q):=(by rw [List.take_add_one,hs];simp);have HTK:=zh htk;have hfl2:=flatIx_len HIX.out (j+1);rw [HN.out,htk,List.length_append] at hfl2;have hstl:(stIx (fr,q)).length=q/2:=(by simp [stIx]);rw [hstl] at hfl2;clear htk hs hstl;generalize (sts.take j).flatMap stIx=pre at *;go_wp2_with (first|refine sL ?_|(refine sS ?_;clear H;intros;rename_i H)|((with_reducible refine isLoad ?_);first|(refine AtLoad.rngT (vs:=[.int .i64 fr,.int .i64 q]) rfl rfl rfl (rowsA_rng (H.get (A:=rowsA encG 222 2 (.slice (some ⟨gs,0,none⟩) sts.length cps) sts) pk) encG_len HS.out) rfl ?_;simp only [Act.put,puA,puB,puC])));rename_i bb _ _ _
   go_loopw [5,11] (fun v5 v11 wr=>TieIn sts (.slice (some ⟨gs,0,none⟩) sts.length cps) w pre fr q bb v5 v11 wr) (fun _ v11 _=>q-(intOf v11).toNat)
   case atStart=>exact ⟨0,rfl,Nat.zero_le _,by simpa using H.only3' (A:=rowsA encI 3 1 (.slice ad5 pre.length c5) pre) (B:=rowsA encG 222 2 (.slice (some ⟨gs,0,none⟩) sts.length cps) sts) (C:=blk bb (.cells #[.int .i64 fr,.int .i64 q] 222)) pk pk pk⟩
   case round =>
    clear H;obtain ⟨t,rfl,htq,H⟩:=hrel;obtain ⟨ad6,c6,rfl,_⟩:=rowsA_shape (H.get Pick.here);have hlr:((List.range t).map fun j=>fr+2*j).length=t:=(by simp);by_cases hin:2*t+1<q
    ·have hsucc:((List.range (t+1)).map fun j=>fr+2*j)=((List.range t).map fun j=>fr+2*j)++[fr+2*t]:=(by rw [List.range_succ];simp);have HSU:=zh hsucc;clear hsucc;generalize ((List.range t).map fun j=>fr+2*j)=ev at *;obtain ⟨k2,hk2⟩:∃ k2,k2=2*t:=⟨_,rfl⟩
     have HK2:=zh hk2;rw [← hk2] at hin ⊢;have hk65:k2<=65536:=(by omega);have hall:(pre++ev).length<=65536:=(by rw [List.length_append];omega);generalize hPE:pre++ev=pe at *;have HPE:=zh hPE;clear hk2 hPE hlr;go_wp2_with (first|refine sL ?_|(refine sS ?_;clear H;intros;rename_i H)|((with_reducible refine isSlice ?_);refine AtSlice.one H rfl rfl rfl rfl rfl rfl rfl rfl rfl ?_;clear H;intro b _ H;simp only [Act.put,puA,puB,puC])|((with_reducible refine isAppend ?_);refine AtAppend.go (enc:=encI) H rfl rfl rfl rfl rfl (by decide) (by decide) rfl pk rfl (H.at pk) [fr+k2] rfl (by simp [flatG,encI]) encI_len encI_one (by simp;omega) ?_;clear H;intro ad9 cp9 _ H;simp only [Act.put,puA,puB,puC]));refine ⟨⟨t+1,by have:=HK2.out;go_num <;> omega,by have:=HK2.out;omega,?_⟩,by simp [intOf];omega⟩;rw [HSU.out,← HK2.out,← List.append_assoc,HPE.out];exact H.only3' (A:=rowsA encI 3 1 (.slice ad9 (pe.length+1) cp9) (pe++[fr+k2])) (B:=rowsA encG 222 2 (.slice (some ⟨gs,0,none⟩) sts.length cps) sts) (C:=blk bb (.cells #[.int .i64 fr,.int .i64 q] 222)) pk pk pk
    ·have htq2:t=q/2:=(by omega);have hst:((List.range t).map fun j=>fr+2*j)=stIx (fr,q):=(by rw [htq2];rfl);rw [hst] at H;rw [hst] at hlr;simp only [hst];have HLR:=zh hlr;obtain ⟨k2,hk2⟩:∃ k2,k2=2*t:=⟨_,rfl⟩
     rw [← hk2] at hin ⊢;have hk65:k2<=65536:=(by omega);clear hst hlr hk2;go_wp2_with (first|refine sL ?_|(refine sS ?_;clear H;intros;rename_i H));refine ⟨⟨j+1,by go_num,by omega,?_⟩,by simp [intOf];omega⟩;rw [HTK.out];exact H.only2 (A:=rowsA encI 3 1 (.slice ad6 (pre++stIx (fr,q)).length c6) (pre++stIx (fr,q))) (B:=rowsA encG 222 2 (.slice (some ⟨gs,0,none⟩) sts.length cps) sts) pk pk
  ·obtain rfl:j=sts.length:=by omega
   rw [List.take_length,← HIX.out] at H;simp only [List.take_length,← HIX.out];go_wp2_with (first|refine sL ?_|(refine sS ?_;clear H;intros;rename_i H));go_ret;exact ⟨ad5,c5,rfl,H.onlyHead⟩
theorem pairs_c {P:PoolT} {keys:List Nat} {g c L:Nat} (hL2:2<=L) (hL0:L%2=0) (hLt:L<1152921504606846976) (hr:RowIn P encU 1 (.slice (some ⟨g,0,none⟩) keys.length c) keys) (hk0:∀ k∈keys,k<2305843009213693951) (hlen:keys.length<=65536) (h1:1<=keys.length) (w:World) (hp:(poolA P).ho w) :
  Calls Tryz.prog 99 #[.slice (some ⟨g,0,none⟩) keys.length c,.int .i64 L] w fun e w'=>∃ ad cp,e=.returned (.slice ad (pairIx (fun x y=>fitsN x y L) 0 keys).length cp)∧St w [] [rowsA encI 3 1 (.slice ad (pairIx (fun x y=>fitsN x y L) 0 keys).length cp) (pairIx (fun x y=>fitsN x y L) 0 keys)] w':=by
 cases ht:isTie L with
 |false=>exact pairs_nontie hL2 hL0 hLt ht hr hk0 hlen h1 w hp
 |true =>
  have e:(fun x y=>fitsN x y L)=eqB:=(by funext x y;exact fitsN_tie ht x y);rw [e];exact pairs_tie hL2 hL0 hLt ht hr hlen w hp
end
section
open Go.RowKit
structure GS where
 D:List Nat
 R:Value->List Value->Prop
def gAt (Ss:List GS) (k:Nat):GS:=Ss.getD k ⟨[],fun _ _=>True⟩
def gFact (Ss:List GS) (vals:Nat->Value) (k:Nat):Prop:=(gAt Ss k).R (vals k) ((gAt Ss k).D.map vals)
def cAt (Cs:List ((Nat->Value)->World->Prop)) (s:Nat) (vals:Nat->Value) (w:World):Prop:=Cs.getD s (fun _ _=>True) vals w
def upV (vals:Nat->Value) (k:Nat) (v:Value):Nat->Value:=fun i=>if i=k then v else vals i
theorem upV_self (vals:Nat->Value) (k:Nat) (v:Value):upV vals k v k=v:=by simp [upV]
theorem upV_ne (vals:Nat->Value) {k i:Nat} (v:Value) (h:i≠k):upV vals k v i=vals i:=by simp [upV,h]
def feasB (ops:Array Oper) (Bs:List Nat) (k s:Nat):Bool:=Bs.zipIdx.all fun p=>(!reachB ops ops.size k p.1 || decide (p.2<s))&&(!reachB ops ops.size p.1 k || decide (s<=p.2))&&(decide (p.1≠k) || decide (s=p.2))
def sgB (ops:Array Oper) (m:Nat) (Ss:List GS) (Bs:List Nat) (SL:List (List Nat)):Bool :=
 growB ops m&&((List.range m).all fun k=>(gAt Ss k).D.all fun i=>decide (i<m)&&reachB ops ops.size k i)&&(Bs.all fun b=>decide (b<m)) &&
 ((List.range Bs.length).all fun j=>(List.range j).all fun i=>reachB ops ops.size (Bs.getD j 0) (Bs.getD i 0)) &&
 ((List.range m).all fun k=>(List.range (Bs.length+1)).all fun s=>!feasB ops Bs k s || (SL.getD k []).contains s)
theorem feas_spec {ops:Array Oper} {Bs:List Nat} {k s:Nat} (h:∀ i b,Bs[i]?=some b->(reachB ops ops.size k b=true->i<s)∧(reachB ops ops.size b k=true->s<=i)∧(b=k->s=i)):feasB ops Bs k s=true:=by
 unfold feasB;rw [List.all_eq_true];rintro ⟨b,i⟩ hp;have hb:Bs[i]?=some b:=by
  have:=List.mem_zipIdx hp;simp at this;rw [List.getElem?_eq_some_iff];exact ⟨this.1,this.2.symm⟩
 obtain ⟨h1,h2,h3⟩:=h i b hb;simp only [Bool.and_eq_true,Bool.or_eq_true,Bool.not_eq_true',decide_eq_true_eq];refine ⟨⟨?_,?_⟩,?_⟩
 ·cases hr:reachB ops ops.size k b with
  |false=>exact .inl rfl
  |true=>exact .inr (h1 hr)
 ·cases hr:reachB ops ops.size b k with
  |false=>exact .inl rfl
  |true=>exact .inr (h2 hr)
 ·by_cases e:b=k
  ·exact .inr (h3 e)
  ·exact .inl e
section
variable {P:Program} {ops:Array Oper}
theorem wpAny_sg {m:Nat} {Ss:List GS} {Bs:List Nat} {SL:List (List Nat)} {Cs:List ((Nat->Value)->World->Prop)} (hB:sgB ops m Ss Bs SL=true) {Q:Exit->Act->World->Prop} (a0:Act)
  (step:∀ k o,k<m->ops[k]?=some o->∀ s,s∈SL.getD k []->∀ vals w,(∀ i∈(gAt Ss k).D,gFact Ss vals i)->cAt Cs s vals w ->
   StStep P ops o (putL ops vals (depsOf ops k) a0) w fun v w'=>(gAt Ss k).R v ((gAt Ss k).D.map vals)∧cAt Cs (if Bs.contains k then s+1 else s) (upV vals k v) w')
  (fin:∀ vals w,(∀ i,i<m->gFact Ss vals i)->cAt Cs Bs.length vals w->wpAny P .any ops Q (ops.size-m) (flags ops.size m) (putL ops vals (List.range m) a0) w) :
  ∀ (d:Nat) (order:List Nat) (listed:Array Bool) (vals:Nat->Value) (s:Nat) (w:World),d+order.length=m->order.Nodup->(∀ i∈order,i<m)->listed.size=ops.size ->
   (∀ j,j<ops.size->listed[j]?=some (decide (j∈order)))->s<=Bs.length->(∀ i b,Bs[i]?=some b->(b∈order↔i<s))->cAt Cs s vals w->(∀ i∈order,gFact Ss vals i) ->
   (∀ k∈order,∀ o,ops[k]?=some o->∀ e∈o.after,Region.binds .any e=true->e.on∈order) ->
   wpAny P .any ops Q (ops.size-order.length) listed (putL ops vals order a0) w:=by
 simp only [sgB,Bool.and_eq_true] at hB;obtain ⟨⟨⟨⟨hB1,hBD⟩,hBm⟩,hBc⟩,hBf⟩:=hB;have hok:GrowOk ops m []:=growOk_of hB1;have hSD:∀ k,k<m->∀ i∈(gAt Ss k).D,reachB ops ops.size k i=true:=fun k hk i hi=>by
  have:=List.all_eq_true.1 (List.all_eq_true.1 hBD k (List.mem_range.2 hk)) i hi;simp only [Bool.and_eq_true] at this;exact this.2
 have hbm:∀ (i b:Nat),Bs[i]?=some b->b<m:=fun i b hb=>by simpa using List.all_eq_true.1 hBm b (List.mem_of_getElem? hb)
 have hchain:∀ (i j b c:Nat),i<j->Bs[i]?=some b->Bs[j]?=some c->reachB ops ops.size c b=true:=fun i j b c hij hb hc=>by
  have hj:j<Bs.length:=(List.getElem?_eq_some_iff.1 hc).1;have:=List.all_eq_true.1 (List.all_eq_true.1 hBc j (List.mem_range.2 hj)) i (List.mem_range.2 hij);simpa [List.getD_eq_getElem?_getD,hb,hc] using this
 have hfeas:∀ k s,k<m->s<=Bs.length->feasB ops Bs k s=true->s∈SL.getD k []:=fun k s hk hs h=>by
  have:=List.all_eq_true.1 (List.all_eq_true.1 hBf k (List.mem_range.2 hk)) s (List.mem_range.2 (by omega));simpa [h] using this
 intro d;induction d with
 |zero =>
  intro order listed vals s w hd hn hlt hsz hl hs hst hg hR hC;have hlen:order.length=m:=(by omega);have hall:=(length_le_of hn hlt).2 hlen;have e1:listed=flags ops.size m:=by
   apply Array.ext_getElem?;intro j;by_cases hj:j<ops.size
   ·rw [hl j hj,flags_get _ _ _ hj];congr 1
    have:(j∈order)↔j<m:=⟨hlt j,hall j⟩
    simp [this]
   ·rw [Array.getElem?_eq_none (by omega),Array.getElem?_eq_none (by rw [flags_size];omega)]
  have e2:putL ops vals order a0=putL ops vals (List.range m) a0:=by
   have ht:(putL ops vals order a0).tmps=(putL ops vals (List.range m) a0).tmps:=by
    apply Array.ext_getElem?;intro t;exact putL_same vals t (fun i j=>hok.uniq i j t) _ _ _ fun i _=>by rw [List.mem_range];exact ⟨hlt i,hall i⟩
   have hdf:(putL ops vals order a0).defers=(putL ops vals (List.range m) a0).defers:=(by rw [putL_defers,putL_defers]);generalize putL ops vals order a0=x at *;generalize putL ops vals (List.range m) a0=y at *;cases x;cases y;simp only at ht hdf;subst ht hdf;rfl
  rw [e1,e2,hlen];have hsl:s=Bs.length:=by
   rcases Nat.lt_or_ge s Bs.length with h|h
   ·obtain ⟨b,hb⟩:∃ b,Bs[s]?=some b:=⟨_,zg h⟩
    have:=(hst s b hb).1 (hall b (hbm s b hb));omega
   ·omega
  rw [hsl] at hg;exact fin vals w (fun i hi=>hR i (hall i hi)) hg
 |succ d ih =>
  intro order listed vals s w hd hn hlt hsz hl hs hst hg hR hC;have hm:m<=ops.size:=hok.le;obtain ⟨f,hf⟩:∃ f,ops.size-order.length=f+1:=⟨ops.size-order.length-1,by omega⟩
  rw [hf];have hex:∃ i,i<m∧i ∉ order:=Classical.byContradiction fun h=>by
   have:∀ i,i<m->i∈order:=fun i hi=>Classical.byContradiction fun h'=>h ⟨i,hi,h'⟩
   have:=le_length_of this;omega
  have hT:∀ j,listed.getD j false=true->j∈order:=fun j hj=>by
   by_cases hj2:j<ops.size
   ·rw [Array.getD_eq_getD_getElem?,hl j hj2] at hj;simpa using hj
   ·rw [Array.getD_eq_getD_getElem?,Array.getElem?_eq_none (by omega)] at hj;simp at hj
  have hF:∀ j,j<ops.size->listed.getD j true=false->j ∉ order:=fun j hj2 hj=>by
   rw [Array.getD_eq_getD_getElem?,hl j hj2] at hj;simpa using hj
  refine ⟨fun h0=>?_,fun j hj=>?_⟩
  ·exfalso;obtain ⟨i,hi,hno⟩:=hex;have:∀ i,i<m->i ∉ order->False:=fun i=>by
    induction i using Nat.strongRecOn with
    |_ i ihi =>
     intro hi hno;obtain ⟨o,ho⟩:∃ o,ops[i]?=some o:=⟨ops[i],by simp⟩
     have hr:i∈Region.ready .any ops listed:=mem_ready.2 ⟨by rw [Array.getD_eq_getD_getElem?,hl i (by omega)];simp [hno],o,ho,fun e he hb=>by
      have hlt':=hok.back i o ho e he hb;by_cases hin:e.on∈order
      ·rw [Array.getD_eq_getD_getElem?,hl _ (by omega)];simp [hin]
      ·exact (ihi e.on hlt' (by omega) hin).elim⟩
     rw [h0] at hr;cases hr
   exact this i hi hno
  ·obtain ⟨hun,o,ho,hall⟩:=mem_ready.1 hj;have hjn:j<ops.size:=(Array.getElem?_eq_some_iff.1 ho).1;have hjo:j ∉ order:=hF j hjn hun;have hjm:j<m:=by
    rcases Nat.lt_or_ge j m with h|h
    ·exact h
    ·obtain ⟨i,hi,hno⟩:=hex;exact absurd (reach_in hC ops.size j i o ho (fun e he hb=>hT e.on (hall e he hb)) (hok.tail j o ho h i (by omega) (by simp))) hno
   have hreach:∀ i,reachB ops ops.size j i=true->i∈order:=fun i h=>reach_in hC ops.size j i o ho (fun e he hb=>hT e.on (hall e he hb)) h
   have hreach':∀ k∈order,∀ i,reachB ops ops.size k i=true->i∈order:=fun k hk i h=>by
    have hkm:=hlt k hk;obtain ⟨ok,hok'⟩:∃ ok,ops[k]?=some ok:=⟨ops[k],by simp⟩
    exact reach_in hC ops.size k i ok hok' (hC k hk ok hok') h
   have hdeps:∀ i∈depsOf ops j,i∈order:=fun i hi=>by
    obtain ⟨e,he,hb,hon⟩:=hok.deps j o ho i hi;exact hT i (by rw [← hon];exact hall e he hb)
   obtain ⟨hex1,hw1⟩:=exec_same hok ho vals order a0 hdeps (no_wait hC hjo);have hinD:∀ i∈(gAt Ss j).D,i∈order:=fun i hi=>hreach i (hSD j hjm i hi)
   have hDj:∀ i∈(gAt Ss j).D,i≠j:=fun i hi e=>hjo (e ▸ hinD i hi)
   have hfe0:feasB ops Bs j s=true:=feas_spec fun i b hb=>by
    refine ⟨fun h=>(hst i b hb).1 (hreach b h),fun h=>?_,fun h=>?_⟩
    ·rcases Nat.lt_or_ge i s with hi|hi
     ·exact absurd (hreach' b ((hst i b hb).2 hi) j h) hjo
     ·exact hi
    ·subst h;rcases Nat.lt_trichotomy i s with hi|hi|hi
     ·exact absurd ((hst i b hb).2 hi) hjo
     ·exact hi.symm
     ·have hil:i<Bs.length:=(List.getElem?_eq_some_iff.1 hb).1;obtain ⟨c,hc⟩:∃ c,Bs[s]?=some c:=⟨_,zg (by omega)⟩
      have:=(hst s c hc).1 (hreach c (hchain s i c b hi hc hb));omega
   have hfe:s∈SL.getD j []:=hfeas j s hjm hs hfe0;have hstep:=step j o hjm ho s hfe vals w (fun i hi=>hR i (hinD i hi)) hg;have next:∀ v w',(gAt Ss j).R v ((gAt Ss j).D.map vals)->cAt Cs (if Bs.contains j then s+1 else s) (upV vals j v) w' ->
     wpAny P .any ops Q f (listed.setIfInBounds j true) ((putL ops vals order a0).put o.dst v) w':=fun v w' hRv hst'=>by
    have hne:∀ i∈order,upV vals j v i=vals i:=fun i hi=>upV_ne vals v fun e=>hjo (e ▸ hi)
    have hmapD:∀ k,k=j∨k∈order->(gAt Ss k).D.map (upV vals j v)=(gAt Ss k).D.map vals:=fun k hk=>List.map_congr_left fun i hi=>by
     rcases hk with rfl|hk
     ·exact hne i (hinD i hi)
     ·exact hne i (hreach' k hk i (hSD k (hlt k hk) i hi))
    have hp:(putL ops vals order a0).put o.dst v=putL ops (upV vals j v) (order++[j]) a0:=by
     rw [putL_snoc,putL_congr order a0 hne];simp [dstAt,ho,upV_self]
    rw [hp];have hf':f=ops.size-(order++[j]).length:=(by simp;omega);rw [hf'];have hnew:(if Bs.contains j then s+1 else s)<=Bs.length∧∀ i b,Bs[i]?=some b->(b∈order++[j]↔i<if Bs.contains j then s+1 else s):=by
     by_cases hbj:j∈Bs
     ·obtain ⟨t,ht⟩:=List.getElem?_of_mem hbj;have hts:t=s:=by
       have hfe2:=hfe0;unfold feasB at hfe2;rw [List.all_eq_true] at hfe2;have:=hfe2 (j,t) (by rw [List.mem_iff_getElem?];exact ⟨t,by simp [List.getElem?_zipIdx,ht]⟩);simp only [Bool.and_eq_true,Bool.or_eq_true,decide_eq_true_eq] at this;rcases this.2 with h|h
       ·exact absurd rfl h
       ·exact h.symm
      subst hts;have htl:t<Bs.length:=(List.getElem?_eq_some_iff.1 ht).1;simp only [List.contains_eq_mem,hbj,decide_true,if_true];refine ⟨by omega,fun i b hb=>?_⟩;rw [List.mem_append,hst i b hb];simp only [List.mem_singleton];constructor
      ·rintro (h|h)
       ·omega
       ·subst h;rcases Nat.lt_trichotomy i t with hi|hi|hi
        ·omega
        ·omega
        ·have:=hreach _ (hchain t i b b hi ht hb);exact absurd this hjo
      ·intro h;rcases Nat.lt_or_ge i t with hi|hi
       ·exact .inl hi
       ·have:i=t:=by omega
        subst this;exact .inr (Option.some.inj (hb.symm.trans ht))
     ·simp only [List.contains_eq_mem,hbj,decide_false,if_false,Bool.false_eq_true];refine ⟨hs,fun i b hb=>?_⟩;rw [List.mem_append,hst i b hb];simp only [List.mem_singleton];exact ⟨fun h=>by
       rcases h with h|h
       ·exact h
       ·subst h;exact absurd (List.mem_of_getElem? hb) hbj,.inl⟩
    refine ih (order++[j]) _ _ _ w' (by simp;omega) (List.nodup_append.2 ⟨hn,by simp,fun x hx y hy=>by simp at hy;rintro rfl;exact hjo (hy ▸ hx)⟩)
     (fun i hi=>?_) (by simpa using hsz) (fun i hi=>?_) hnew.1 hnew.2 hst' (fun i hi=>?_) (fun k hk o' ho' e he hb=>?_)
    ·simp at hi;rcases hi with hi|hi
     ·exact hlt i hi
     ·omega
    ·by_cases hij:i=j
     ·subst hij;rw [Array.getElem?_setIfInBounds_self];simp [show i<listed.size by omega]
     ·rw [Array.getElem?_setIfInBounds_ne (Ne.symm hij),hl i hi];simp [hij]
    ·simp at hi;have:gFact Ss (upV vals j v) i=if i=j then (gAt Ss j).R v ((gAt Ss j).D.map vals) else gFact Ss vals i:=by
      by_cases hij:i=j
      ·subst hij;unfold gFact;rw [hmapD i (.inl rfl),upV_self];simp
      ·rcases hi with hi|hi
       ·unfold gFact;rw [hmapD i (.inr hi),upV_ne vals v hij];simp [hij]
       ·exact absurd hi hij
     rw [this];split
     ·exact hRv
     ·rename_i hij;rcases hi with hi|hi
      ·exact hR i hi
      ·exact absurd hi hij
    ·simp at hk ⊢;rcases hk with hk|hk
     ·exact .inl (hC k hk o' ho' e he hb)
     ·subst hk;obtain rfl:o'=o:=Option.some.inj (ho'.symm.trans ho);exact .inl (hT e.on (hall e he hb))
   have hs:=hstep;unfold StStep at hs;unfold wpOp;simp only [ho];rw [hw1];split
   ·rename_i hw;rw [if_pos hw] at hs;refine .inl ?_;unfold stAt at hs;unfold Oper.wp;rw [hex1];generalize (execOp (putL ops vals (depsOf ops j) a0).eval o).run P w=r at hs;cases r with
    |ok n w' =>
     cases n <;> simp only [stUpon] at hs <;> simp only [Oper.upon]
     case value u=>exact next _ _ hs.1 hs.2
     case skip=>exact next _ _ hs.1 hs.2
     case enter f args=>exact hs.mono fun e w'' ⟨v,he,h1,h2⟩=>by subst he;exact next _ _ h1 h2
    |halt x w'=>simp only [stUpon] at hs
   ·rename_i hw;rw [if_neg hw] at hs;exact next _ _ hs.1 hs.2
theorem wp_region_sg {id:Nat} {Q:Exit->Act->World->Prop} {a:Act} {w:World} {l:List Oper} (m:Nat) (Ss:List GS) (Bs:List Nat) (SL:List (List Nat)) (Cs:List ((Nat->Value)->World->Prop)) (hm:P.follows .mixedOrders=true)
  (hB:(sgB l.toArray m Ss Bs SL&&Region.seqB .any l.toArray (l.length-m) m (flags l.length m))=true) (H:cAt Cs 0 (fun _=>undef) w.drew)
  (step:∀ k o,k<m->l[k]?=some o->∀ s,s∈SL.getD k []->∀ vals w,(∀ i∈(gAt Ss k).D,gFact Ss vals i)->cAt Cs s vals w ->
   StStep P l.toArray o (putL l.toArray vals (depsOf l.toArray k) a) w fun v w'=>(gAt Ss k).R v ((gAt Ss k).D.map vals)∧cAt Cs (if Bs.contains k then s+1 else s) (upV vals k v) w')
  (fin:∀ vals w,(∀ i,i<m->gFact Ss vals i)->cAt Cs Bs.length vals w->wpList P l.toArray Q (l.drop m) (putL l.toArray vals (List.range m) a) w):(Code.region id l.toArray true).wp P Q a w:=by
 simp only [Bool.and_eq_true] at hB;have hB':=hB.1;have hok:GrowOk l.toArray m []:=by
  simp only [sgB,Bool.and_eq_true] at hB';exact growOk_of hB'.1.1.1.1
 have hle:m<=l.length:=(by simpa using hok.le);refine wp_region_any hm ?_;have:=wpAny_sg (P:=P) (Q:=Q) hB.1 a (fun k o hk ho=>step k o hk (by simpa using ho)) (fun vals w' hR hst=>by
  have:=wpAny_of_seq (P:=P) (md:=.any) (Q':=Q) (l.drop m) m (flags l.length m) (putL l.toArray vals (List.range m) a) w' (fun j=>by simp [List.getElem?_drop]) (by simpa using hB.2) (fin vals w' hR hst);simpa using this) m [] (Array.replicate l.length false) (fun _=>undef) 0 { w with drawn:=w.drawn+1 } (by simp) (by simp) (by simp) (by simp) (fun j hj=>by
   have hj':j<l.length:=(by simpa using hj);simp [hj']) (by simp) (by simp) (by simpa using H) (by simp) (by simp)
 simpa [putL] using this
def GFacts (Ss:List GS) (vals:Nat->Value):List Nat->Prop
 |[]=>True
 |i::is=>gFact Ss vals i∧GFacts Ss vals is
theorem gfacts_of {Ss:List GS} {vals:Nat->Value}:∀ {is:List Nat},(∀ i∈is,gFact Ss vals i)->GFacts Ss vals is
 |[],_=>trivial
 |i::is,h=>⟨h i (by simp),gfacts_of fun j hj=>h j (by simp [hj])⟩
def GStep (P:Program) (ops:Array Oper) (a:Act) (Ss:List GS) (Cs:List ((Nat->Value)->World->Prop)) (k:Nat) (d:List (Nat×Tmp)) (g:GS) (o:Oper) (big:Bool):List Nat->Prop
 |[]=>True
 |s::ss=>(∀ vals w,GFacts Ss vals g.D->cAt Cs s vals w->StStep P ops o (putS d vals a) w fun v w'=>g.R v (g.D.map vals)∧cAt Cs (if big then s+1 else s) (upV vals k v) w')∧GStep P ops a Ss Cs k d g o big ss
theorem gstep_spec {a:Act} {Ss:List GS} {Cs:List ((Nat->Value)->World->Prop)} {k:Nat} {d:List (Nat×Tmp)} {g:GS} {o:Oper} {big:Bool}:∀ {ss:List Nat},GStep P ops a Ss Cs k d g o big ss->∀ s∈ss,∀ vals w,GFacts Ss vals g.D->cAt Cs s vals w->StStep P ops o (putS d vals a) w fun v w'=>g.R v (g.D.map vals)∧cAt Cs (if big then s+1 else s) (upV vals k v) w'
 |[],_,s,hs=>by cases hs
 |s0::ss,h,s,hs=>by
  rcases List.mem_cons.1 hs with rfl|hs
  ·exact h.1
  ·exact gstep_spec h.2 s hs
def GSteps (P:Program) (ops:Array Oper) (a:Act) (Ss0:List GS) (Cs:List ((Nat->Value)->World->Prop)) (Bs:List Nat):Nat->List (List (Nat×Tmp))->List GS->List (List Nat)->List Oper->Prop
 |k,d::DS,g::Ss,ss::SL,o::rest=>GStep P ops a Ss0 Cs k d g o (Bs.contains k) ss∧GSteps P ops a Ss0 Cs Bs (k+1) DS Ss SL rest
 |_,_,_,_,[]=>True
 |_,_,_,_,_=>False
theorem gsteps_spec {a:Act} {Ss0:List GS} {Cs:List ((Nat->Value)->World->Prop)} {Bs:List Nat}:∀ {l:List Oper} {k0:Nat} {DS:List (List (Nat×Tmp))} {Ss:List GS} {SL:List (List Nat)},GSteps P ops a Ss0 Cs Bs k0 DS Ss SL l->∀ (k:Nat) (o:Oper),l[k]?=some o ->
  ∃ d g ss,DS[k]?=some d∧Ss[k]?=some g∧SL[k]?=some ss∧GStep P ops a Ss0 Cs (k0+k) d g o (Bs.contains (k0+k)) ss
 |[],_,_,_,_,_,k,o,h=>by simp at h
 |_::_,_,[],_,_,hs,_,_,_=>by simp [GSteps] at hs
 |_::_,_,_::_,[],_,hs,_,_,_=>by simp [GSteps] at hs
 |_::_,_,_::_,_::_,[],hs,_,_,_=>by simp [GSteps] at hs
 |o'::rest,k0,d::DS,g::Ss,ss::SL,hs,0,o,h=>by
  simp at h;subst h;exact ⟨d,g,ss,rfl,rfl,rfl,hs.1⟩
 |o'::rest,k0,d::DS,g::Ss,ss::SL,hs,k+1,o,h=>by
  have:=gsteps_spec hs.2 k o (by simpa using h);rw [show k0+(k+1)=k0+1+k by omega];simpa using this
def sgxB (l:List Oper) (m:Nat) (Ss:List GS) (Bs:List Nat) (SL:List (List Nat)) (DS:List (List (Nat×Tmp))) (S:List (Nat×Tmp)):Bool :=
 sgB l.toArray m Ss Bs SL&&Region.seqB .any l.toArray (l.length-m) m (flags l.length m)&&slotsB l.toArray S&&decide (S.map (·.1)=(List.range m).filter fun i=>(dstAt l.toArray i).isSome) &&
 DS.all (slotsB l.toArray)&&decide (DS.map (fun d=>d.map (·.1))=(List.range m).map (depsOf l.toArray))
theorem wp_region_sgx {id:Nat} {Q:Exit->Act->World->Prop} {a:Act} {w:World} {l:List Oper} (m:Nat) (Ss:List GS) (Bs:List Nat) (SL:List (List Nat)) (Cs:List ((Nat->Value)->World->Prop)) (DS:List (List (Nat×Tmp))) (S:List (Nat×Tmp)) (hm:P.follows .mixedOrders=true)
  (hB:sgxB l m Ss Bs SL DS S=true) (H:cAt Cs 0 (fun _=>undef) w.drew) (step:GSteps P l.toArray a Ss Cs Bs 0 DS Ss SL (l.take m))
  (fin:∀ vals w,GFacts Ss vals (List.range m)->cAt Cs Bs.length vals w->wpList P l.toArray Q (l.drop m) (putS S vals a) w):(Code.region id l.toArray true).wp P Q a w:=by
 simp only [sgxB,Bool.and_eq_true,decide_eq_true_eq] at hB;obtain ⟨⟨⟨⟨⟨h1,h2⟩,h3⟩,h4⟩,h5⟩,h6⟩:=hB;refine wp_region_sg m Ss Bs SL Cs hm (by rw [h1,h2];rfl) H (fun k o hk ho s hs vals w hD hst=>?_) (fun vals w hR hst=>?_)
 ·obtain ⟨d,g,ss,hd,hg,hss,hh⟩:=gsteps_spec step k o (by rw [List.getElem?_take,if_pos hk];exact ho);have hdep:d.map (·.1)=depsOf l.toArray k:=by
   have:=congrArg (·[k]?) h6;simp only [List.getElem?_map,hd,Option.map_some] at this;rw [List.getElem?_range hk] at this;simpa using this
  have hslots:slotsB l.toArray d=true:=List.all_eq_true.1 h5 d (List.mem_of_getElem? hd);have hgk:gAt Ss k=g:=(by simp [gAt,List.getD,hg]);have hsk:SL.getD k []=ss:=(by simp [List.getD,hss]);rw [Nat.zero_add] at hh;have:=gstep_spec hh s (hsk ▸ hs) vals w (gfacts_of (by rw [← hgk];exact hD)) hst;rw [putS_putL vals d a hslots,hdep] at this;rw [hgk];exact this
 ·have:=fin vals w (gfacts_of fun i hi=>hR i (List.mem_range.1 hi)) hst;rwa [putS_putL vals S a h3,h4,← putL_filter] at this
end
end
section
open Go.RowKit
theorem PS:(∀ (ps:List (Nat×Tmp)) (vals:Nat->Value) (a:Act),putS ps vals a=ps.foldl (fun a p=>a.put (some p.2) (vals p.1)) a)∧(∀ (f:Act->Nat×Tmp->Act) (b:Act),List.foldl f b []=b)∧(∀ (f:Act->Nat×Tmp->Act) (b:Act) (p:Nat×Tmp) (ps:List (Nat×Tmp)),List.foldl f b (p::ps)=List.foldl f (f b p) ps) ∧
  (∀ (a:Act) (t:Tmp) (v:Value),a.put (some t) v={ a with tmps:=a.tmps.setIfInBounds t v })∧(∀ (l:List Value) (i:Nat) (v:Value),l.toArray.setIfInBounds i v=(l.set i v).toArray)∧(∀ (a b:Value) (l:List Value),(a::l).set 0 b=b::l)∧(∀ (a b:Value) (l:List Value) (n:Nat),(a::l).set (n+1) b=a::l.set n b) ∧
  (∀ l:List Oper,l.drop 0=l)∧(∀ (n:Nat) (o:Oper) (l:List Oper),(o::l).drop (n+1)=l.drop n) :=
 ⟨fun _ _ _=>rfl,fun _ _=>rfl,fun _ _ _ _=>rfl,fun _ _ _=>rfl,fun l i v=>List.setIfInBounds_toArray l i v,fun _ _ _=>rfl,fun _ _ _ _=>rfl,fun _=>rfl,fun _ _ _=>rfl⟩
theorem CA:(∀ (Cs:List ((Nat->Value)->World->Prop)) (s:Nat) (vals:Nat->Value) (w:World),cAt Cs s vals w=Cs.getD s (fun _ _=>True) vals w)∧(∀ (C d:(Nat->Value)->World->Prop) (Cs:List ((Nat->Value)->World->Prop)),(C::Cs).getD 0 d=C)∧(∀ (C d:(Nat->Value)->World->Prop) (Cs:List ((Nat->Value)->World->Prop)) (n:Nat),(C::Cs).getD (n+1) d=Cs.getD n d) ∧
  (∀ (n:Nat) (l:List Nat),(n::l).length=l.length+1)∧([]:List Nat).length=0 :=
 ⟨fun _ _ _ _=>rfl,fun _ _ _=>rfl,fun _ _ _ _=>rfl,fun _ _=>rfl,rfl⟩
theorem GF:(∀ (Ss:List GS) (vals:Nat->Value),GFacts Ss vals []=True)∧(∀ (Ss:List GS) (vals:Nat->Value) (i:Nat) (is:List Nat),GFacts Ss vals (i::is)=((Ss.getD i ⟨[],fun _ _=>True⟩).R (vals i) ((Ss.getD i ⟨[],fun _ _=>True⟩).D.map vals)∧GFacts Ss vals is)) ∧
  (∀ (C d:GS) (Cs:List GS),(C::Cs).getD 0 d=C)∧(∀ (C d:GS) (Cs:List GS) (n:Nat),(C::Cs).getD (n+1) d=Cs.getD n d)∧(∀ p:Prop,(True∧p)=p)∧(∀ p:Prop,(p∧True)=p)∧(∀ n:Nat,List.range n=List.range.loop n [])∧(∀ l:List Nat,List.range.loop 0 l=l)∧(∀ (n:Nat) (l:List Nat),List.range.loop (n+1) l=List.range.loop n (n::l)) :=
 ⟨fun _ _=>rfl,fun _ _ _ _=>rfl,fun _ _ _=>rfl,fun _ _ _ _=>rfl,fun p=>true_and p,fun p=>and_true p,fun _=>rfl,fun _=>rfl,fun _ _=>rfl⟩
theorem StStep.celC {ops:Array Oper} {a:Act} {w:World} {o:Oper} {Rr:Value->World->Prop} {ty:TypeId} {x:Operand} (hw:Region.wanted o (yielded ops a.tmps)=true) (ho:o.op=.load ty x) {g off:Nat} (hx:a.eval x=.pointer (some ⟨g,off,none⟩)) (hr:isCellT ty=true) {v:Value} (hc:w.cell? ⟨g,off,none⟩=some v) (h:Rr v w):StStep Tryz.prog ops o a w Rr :=
 StStep.val hw (by
  have hr:=isCellT_ok hr;unfold cellTy at hr;simp only [Bool.and_eq_true,beq_iff_eq] at hr;have hl:(Instr.loadAt ty (.pointer (some ⟨g,off,none⟩))).run Tryz.prog w=.ok v w:=by
   cases hu:Tryz.prog.underlying ty with
   |none=>simp [hu] at hr
   |some d =>
    have hagg:(isAgg ty).run Tryz.prog w=.ok false w:=by
     unfold isAgg;rw [Sem.run_bind,run_underlying hu w];simp only [hu] at hr;cases d <;> simp_all
    simp [Instr.loadAt,Instr.sureAddr,loadVar,Sem.run_bind,hagg,run_load,hc]
  unfold execOp;simp only [ho,hx,Sem.run_bind,hl,Result.andThen_ok];rfl) h
theorem lk {p:Prop} (h:p:=by first|refine StStep.cellT rfl rfl rfl gt rfl rfl ⟨rfl,HC⟩|refine StStep.wholeT rfl rfl rfl gt rfl ⟨rfl,HC⟩|refine StStep.celC rfl rfl rfl rfl kc ⟨rfl,HC⟩):p:=h
theorem ql {p:Prop} (h:p:=by
 intro vals wx hd HC;first|(simp only [GF] at hd;simp only [PS,hd];clear hd)|(clear hd;simp only [PS])
 have H:=HC;simp only [CA] at H;first|exact lk|(obtain ⟨_,H⟩:=H;first|exact lk|(obtain ⟨_,H⟩:=H;first|exact lk|(obtain ⟨_,H⟩:=H;first|exact lk|(obtain ⟨_,H⟩:=H;first|exact lk|(obtain ⟨_,H⟩:=H;exact lk)))))):p:=h
theorem qo {p:Prop} (h:p:=by
 intro vals wx hd HC;first|(simp only [GF] at hd;simp only [PS,hd];clear hd)|(clear hd;simp only [PS])
 go_simp;first|exact HC|exact ⟨rfl,HC⟩|exact ⟨IntWalk.i64_in _ (by omega),HC⟩):p:=h
theorem nR {P Q:Prop} (q:Q) (h:Q->P:=by
 intro hq;first|(refine bodyPost_end (results_none rfl _ _ _) rfl ?_)|(refine bodyPost_ret (results_none rfl _ _ _) rfl ?_)|((try simp only [Exit.inBlock,Exit.then]);refine bodyPost_end (results_none rfl _ _ _) rfl ?_)
 exact hq):P:=h q
end
section
open Go.RowKit Go.Maps
attribute [local go_sem] InGr
structure Arr (C:Array Value) (cap:Nat) (f:Nat->Value) (new old:List Nat) (a:Nat):Prop where
 size:C.size=cap
 nw:∀ (p x:Nat),new[p]?=some x->C[p]?=some (f x)
 od:∀ (p x:Nat),a<=p->old[p]?=some x->C[p]?=some (f x)
def putC (C:Array Value) (j:Nat) (news:List Value):Array Value:=(C.toList.take j++news++C.toList.drop (j+news.length)).toArray
theorem putC_get (C:Array Value) (j:Nat) (news:List Value) (h:j+news.length<=C.size) (p:Nat):(putC C j news)[p]?=if p<j then C[p]? else if p<j+news.length then news[p-j]? else C[p]?:=by
 unfold putC;have hl:(C.toList.take j).length=j:=(by rw [List.length_take];simp;omega);rw [List.getElem?_toArray,List.append_assoc,List.getElem?_append,hl];split
 ·rename_i h1;rw [List.getElem?_take,if_pos h1];simp
 ·rename_i h1;rw [List.getElem?_append];split
  ·rename_i h2;rw [if_pos (by omega)]
  ·rename_i h2;rw [if_neg (by omega),List.getElem?_drop];rw [show j+news.length+(p-j-news.length)=p by omega];simp
theorem putC_size (C:Array Value) (j:Nat) (news:List Value) (h:j+news.length<=C.size):(putC C j news).size=C.size:=by
 unfold putC;simp;omega
theorem Arr.app {C:Array Value} {cap:Nat} {f:Nat->Value} {new old:List Nat} {a a':Nat} (h:Arr C cap f new old a) (ys:List Nat) (h1:a<=a') (h2:new.length+ys.length<=a') (h3:new.length+ys.length<=cap):Arr (putC C new.length (ys.map f)) cap f (new++ys) old a':=by
 have hfit:new.length+(ys.map f).length<=C.size:=(by rw [h.size,List.length_map];exact h3);refine ⟨by rw [putC_size _ _ _ hfit];exact h.size,fun p x hp=>?_,fun p x hp ho=>?_⟩
 ·rw [putC_get _ _ _ hfit,List.length_map];rw [List.getElem?_append] at hp;split at hp
  ·rename_i h4;rw [if_pos h4];exact h.nw p x hp
  ·rename_i h4;have:=gelt hp;rw [if_neg h4,if_pos (by omega),List.getElem?_map,hp];rfl
 ·rw [putC_get _ _ _ hfit,List.length_map,if_neg (by omega),if_neg (by omega)];exact h.od p x (by omega) ho
theorem Arr.start {C:Array Value} {cap:Nat} {f:Nat->Value} {old:List Nat} {a:Nat} (h:Arr C cap f old [] a):Arr C cap f [] old 0:=⟨h.size,by simp,fun p x _ hp=>h.nw p x hp⟩
theorem Arr.forget {C:Array Value} {cap:Nat} {f:Nat->Value} {new old:List Nat} {a:Nat} (h:Arr C cap f new old a):Arr C cap f new [] 0:=⟨h.size,h.nw,by simp⟩
theorem Arr.len {C:Array Value} {cap:Nat} {f:Nat->Value} {new old:List Nat} {a:Nat} (h:Arr C cap f new old a):new.length<=cap:=by
 rcases Nat.eq_zero_or_pos new.length with h0|h0
 ·omega
 ·have:=h.nw (new.length-1) (new[new.length-1]'(by omega)) (by simp);have:=(Array.getElem?_eq_some_iff.1 this).1;rw [h.size] at this;omega
def fI (x:Nat):Value:=.int .i64 x
def fU (x:Nat):Value:=.int .u64 x
section
variable {ops:Array Oper} {Q:Exit->Act->World->Prop} {rest:List Oper} {a:Act} {w w0:World} {M:List Nat} {L R:List As} {o1:Oper}
theorem run_room {t e:TypeId} (hte:sliceO t=some e) {z:Value} {bytes:Nat} (hi:infoO e=some (z,1,bytes)) (ty:TypeId) {g j cap s o m c:Nat} {cur:Array Value} (hg:w.heap[g]?=some (.cells cur e)) {news:List Value} (hl:news.length=m) (hnews:∀ i u,news[i]?=some u->w.cell? ⟨s,o+i,none⟩=some u) (h1:∀ u∈news,u.oneCell'=true) (hroom:j+m<=cap) (hcap:cur.size=cap) :
  (Builtin.append_ #[t,t] ty #[.slice (some ⟨g,0,none⟩) j cap,.slice (some ⟨s,o,none⟩) m c]).run Tryz.prog w=.ok (.slice (some ⟨g,0,none⟩) (j+m) cap) (w.setRow g (putC cur j news)):=by
 obtain ⟨i,h2,h3,h4,h5⟩:=infoO_ok hi;have:=run_append_room (P:=Tryz.prog) w t ty e i (sliceO_ok hte) h2 g j cap cur hg ⟨s,o,none⟩ m c news (by rw [h4,hl];simp) (fun k u hk=>by rw [Addr.add_mid];exact hnews k u hk) h1 hroom (by rw [h4,hl,hcap];omega);rw [h4,Nat.mul_one] at this;exact this
theorem AtAppend.room {t e:TypeId} {x y:Operand} (H:St w0 M L w) (hw:Region.wanted o1 (yielded ops a.tmps)=true) (ho:o1.op=.call ⟨.builtin .append,#[x,y],#[t,t]⟩) (hte:sliceO t=some e) {z:Value} {bytes:Nat} (hi:infoO e=some (z,1,bytes))
  {g j cap:Nat} (hx:evalO a x=some (.slice (some ⟨g,0,none⟩) j cap)) {s o m c:Nat} (hy:a.eval y=.slice (some ⟨s,o,none⟩) m c) {cur:Array Value} (hp:Pick L (blk g (.cells cur e)) R) (news:List Value) (hl:news.length=m) (hnews:∀ i u,news[i]?=some u->w.cell? ⟨s,o+i,none⟩=some u) (h1:∀ u∈news,u.oneCell'=true) (hroom:j+m<=cap) (hcap:cur.size=cap)
  (h:∀ w',St w0 M (blk g (.cells (putC cur j news) e)::R) w'->wpList Tryz.prog ops Q rest (a.put o1.dst (.slice (some ⟨g,0,none⟩) (j+m) cap)) w'):AtAppend Tryz.prog ops Q o1 t x y rest a w :=
 wpList_step fun _ hK=>by
  rw [if_pos hw];have H':=H.pick hp;have hg:w.heap[g]?=some (.cells cur e):=H'.at Pick.here;have hr:=run_room (c:=c) hte hi o1.type hg hl hnews h1 hroom hcap;unfold Oper.wp execOp;simp only [ho,resolve,invoke,builtin,Sem.run_bind,Sem.run_pure,Result.andThen_ok,List.map_toArray,List.map_cons,List.map_nil,evalO_eq hx,hy,hr];exact hK _ _ (h _ (H'.setRow Upd.here))
theorem StStep.room {Rr:Value->World->Prop} {t e:TypeId} {x y:Operand} {o:Oper} (hw:Region.wanted o (yielded ops a.tmps)=true) (ho:o.op=.call ⟨.builtin .append,#[x,y],#[t,t]⟩) (hte:sliceO t=some e) {z:Value} {bytes:Nat} (hi:infoO e=some (z,1,bytes))
  {g j cap:Nat} (hx:evalO a x=some (.slice (some ⟨g,0,none⟩) j cap)) {s of m c:Nat} (hy:evalO a y=some (.slice (some ⟨s,of,none⟩) m c)) {cur:Array Value} (H:St w0 M (blk g (.cells cur e)::L) w) (news:List Value) (hl:news.length=m) (hnews:∀ i u,news[i]?=some u->w.cell? ⟨s,of+i,none⟩=some u) (h1:∀ u∈news,u.oneCell'=true) (hroom:j+m<=cap) (hcap:cur.size=cap)
  (h:∀ w',St w0 M (blk g (.cells (putC cur j news) e)::L) w'->Rr (.slice (some ⟨g,0,none⟩) (j+m) cap) w'):StStep Tryz.prog ops o a w Rr:=by
 have hg:w.heap[g]?=some (.cells cur e):=H.at Pick.here;exact StStep.val hw (by unfold execOp;simp only [ho,resolve,invoke,builtin,Sem.run_bind,Sem.run_pure,Result.andThen_ok,List.map_toArray,List.map_cons,List.map_nil,evalO_eq hx,evalO_eq hy,run_room hte hi o.type hg hl hnews h1 hroom hcap]) (h _ (H.setRow Upd.here))
end
end
section
open Go.RowKit Go.Maps
attribute [local go_sem] InGr
inductive Picks:List As->List As->Prop
 |nil {L:List As}:Picks L []
 |cons {L R L':List As} {A:As}:Pick L A R->Picks R L'->Picks L (A::L')
theorem Picks.perm {L L':List As} (h:Picks L L'):∃ R,L.Perm (L'++R):=by
  induction h with
  | nil=>exact ⟨_,List.Perm.refl _⟩
  | cons h1 _ ih => obtain ⟨R, hR⟩ := ih
                    exact ⟨R,h1.perm.trans (hR.cons _)⟩
theorem St.picks {w0 w:World} {M:List Nat} {L L':List As} (h:St w0 M L w) (hp:Picks L L'):St w0 M L' w:=by
 obtain ⟨R,hR⟩:=hp.perm;have k:=h.perm hR;exact ⟨k.os,k.tape,k.output,k.size,k.keep,fun X hX=>k.ho X (List.mem_append_left _ hX),fun X hX=>k.own X (List.mem_append_left _ hX),k.dis.sublist (List.sublist_append_left _ _)⟩
structure SeqIn (X:Px) (CI CK:Array Value) (ci ck:Nat) (ids:List Nat) (ts:List Tr):Prop where
 den:DenL X.S ids ts
 i:Arr CI ci fI ids [] 0
 k:Arr CK ck fU (ts.map Tr.key) [] 0
def lenL (ts:List Tr):Nat:=(ts.map Tr.len).sum
theorem lenL_cons (t:Tr) (l:List Tr):lenL (t::l)=t.len+lenL l:=rfl
theorem lenL_append (a b:List Tr):lenL (a++b)=lenL a+lenL b:=by simp [lenL]
theorem lenL_rep (k:Nat) (t:Tr):lenL (List.replicate k t)=t.len*k:=by
 induction k with
 |zero=>rfl
 |succ k ih=>rw [List.replicate_succ,lenL_cons,ih,Nat.mul_succ,Nat.add_comm]
theorem lenL_groups (l:List Tr):∀ p∈groups l,p.1.len*p.2<=lenL l:=by
 intro p hp;have h:=groups_flat l;obtain ⟨A,B,e⟩:=List.append_of_mem hp;rw [e,List.flatMap_append,List.flatMap_cons] at h;have h2:lenL l=lenL (A.flatMap fun p=>List.replicate p.2 p.1)+(lenL (List.replicate p.2 p.1)+lenL (B.flatMap fun p=>List.replicate p.2 p.1)):=(by rw [← h,lenL_append,lenL_append]);rw [lenL_rep] at h2;omega
abbrev SeqPost (X:Px) (gi gk ci ck n:Nat) (new:List Tr) (M:List Nat) (w:World) (e:Ending) (w':World):Prop :=
  ∃ (X':Px) (CI CK:Array Value),X.Ext X'∧PxOk X'∧St w M [pA X',blk gi (.cells CI 26),blk gk (.cells CK 74)] w' ∧
    ((∃ ids,e=.returned (.tuple #[.agg #[.slice (some ⟨gi,0,none⟩) new.length ci,.slice (some ⟨gk,0,none⟩) new.length ck],.nilIface])∧SeqIn X' CI CK ci ck ids new∧X'.S.list.length+new.length<=X.S.list.length+n) ∨
     (e=.returned (.tuple #[.agg #[.slice none 0 0,.slice none 0 0],EV 3])∧X'.S.most<=X'.S.list.length∧X'.S.list.length+new.length<X.S.list.length+n))
structure RunsIn (X X':Px) (G:List (Tr×Nat)) (gs:List (Nat×Nat)) (ids:List Nat) (ts:List Tr) (k at_:Nat) (CI CK:Array Value) (ci ck:Nat) (nids:List Nat):Prop where
 ext:X.Ext X'
 ok:PxOk X'
 hk:k<=gs.length
 hat:at_=((gs.take k).map (·.2)).sum
 den:DenL X'.S nids ((G.take k).map powT)
 i:Arr CI ci fI nids ids at_
 kk:Arr CK ck fU (((G.take k).map powT).map Tr.key) (ts.map Tr.key) at_
 size:X'.S.list.length+k<=X.S.list.length+at_
def RunsRel (X:Px) (G:List (Tr×Nat)) (gs:List (Nat×Nat)) (ids:List Nat) (ts:List Tr) (gi gk ci ck gg cg b3 b4 b6 n ng:Nat) (M:List Nat) (w:World) (v7 v24:Value) (wr:World):Prop :=
 ∃ (X':Px) (k at_:Nat) (CI CK:Array Value) (nids:List Nat),v7=.int .i64 at_∧v24=.int .i64 k∧RunsIn X X' G gs ids ts k at_ CI CK ci ck nids ∧
  St w M [pA X',blk gi (.cells CI 26),blk gk (.cells CK 74),blk b3 (.cells #[.slice (some ⟨gi,0,none⟩) n ci,.slice (some ⟨gk,0,none⟩) n ck] 122),blk b4 (.cells #[.slice none 0 0,.slice none 0 0] 122),blk b6 (.cells #[.slice (some ⟨gi,0,none⟩) k ci,.slice (some ⟨gk,0,none⟩) k ck] 122),rowsA encG 179 2 (.slice (some ⟨gg,0,none⟩) ng cg) gs] wr
theorem sum_ge {l:List (Nat×Nat)} (h:∀ p∈l,1<=p.2):l.length<=(l.map (·.2)).sum:=by
 induction l with
 |nil=>simp
 |cons x l ih =>
  have:=h x (by simp);have:=ih fun p hp=>h p (by simp [hp])
  simp;omega
theorem flat_len (gs:List (Nat×Nat)):(gs.flatMap fun p=>List.replicate p.2 p.1).length=(gs.map (·.2)).sum:=by
 induction gs with
 |nil=>rfl
 |cons x l ih=>simp [ih]
theorem sum_split {gs:List (Nat×Nat)} {k:Nat} {p:Nat×Nat} (h:gs[k]?=some p):(gs.map (·.2)).sum=((gs.take k).map (·.2)).sum+(p.2+((gs.drop (k+1)).map (·.2)).sum)∧((gs.take (k+1)).map (·.2)).sum=((gs.take k).map (·.2)).sum+p.2:=by
 have e:=take_drop_get h;have e2:gs.take (k+1)=gs.take k++[p]:=(by rw [List.take_add_one,h];rfl);constructor
 ·conv=>lhs;rw [e]
  simp
 ·rw [e2];simp
theorem run_at {gs:List (Nat×Nat)} {ids:List Nat} (h:GrN ids gs) {k:Nat} {p:Nat×Nat} (hp:gs[k]?=some p):ids[((gs.take k).map (·.2)).sum]?=some p.1:=by
 have hpos:=h.pos p (List.mem_of_getElem? hp);rw [← h.flat];have e:=take_drop_get hp;have e2:(gs.flatMap fun p=>List.replicate p.2 p.1)=(gs.take k).flatMap (fun p=>List.replicate p.2 p.1)++(List.replicate p.2 p.1++(gs.drop (k+1)).flatMap fun p=>List.replicate p.2 p.1):=by
  conv=>lhs;rw [e]
  simp
 rw [e2,List.getElem?_append_right (by rw [flat_len];exact Nat.le_refl _),flat_len,Nat.sub_self];obtain ⟨q,hq⟩:=Nat.exists_eq_succ_of_ne_zero (show p.2≠0 by omega);rw [hq,List.replicate_succ];rfl
theorem one_new {w:World} {b:Nat} {v:Value} {e:TypeId} (h:w.heap[b]?=some (.cells #[v] e)):∀ (i:Nat) (u:Value),[v][i]?=some u->w.cell? ⟨b,0+i,none⟩=some u:=by
 intro i u hu;cases i with
 |zero=>rw [cell_of_row w b (0+0) #[v] e (0,0) h];simpa using hu
 |succ i=>simp at hu
theorem arr_rng {w:World} {g:Nat} {C:Array Value} {e:TypeId} {cap a:Nat} {f:Nat->Value} {new old:List Nat} {enc:Nat->List Value} (henc:∀ x,enc x=[f x]) (h:(blk g (.cells C e)).ho w) (hA:Arr C cap f new old a):w.rangeAt g 0 (flatG enc new):=by
 intro j v hj;have hfl:flatG enc new=new.map f:=by
  unfold flatG;clear hj hA;induction new with
  |nil=>rfl
  |cons x l ih=>rw [List.flatMap_cons,List.map_cons,henc,ih];rfl
 rw [hfl,List.getElem?_map] at hj;cases hn:new[j]? with
 |none=>rw [hn] at hj;simp at hj
 |some x =>
  rw [hn] at hj;simp at hj;subst hj;rw [Nat.zero_add];exact arr_cell h (hA.nw j x hn)
theorem arr_pool {w:World} {g:Nat} {C:Array Value} {e:TypeId} {cap a:Nat} {f:Nat->Value} {new old:List Nat} {enc:Nat->List Value} (henc:∀ x,enc x=[f x]) (h:(blk g (.cells C e)).ho w) (hA:Arr C cap f new old a):(poolA [(g,0,flatG enc new)]).ho w:=by
 rw [poolA_ho];intro x hx;simp at hx;subst hx;rw [blk_ho] at h;exact ⟨lt_of_block h,arr_rng henc (by rw [blk_ho];exact h) hA⟩
theorem arr_row {g cap:Nat} {enc:Nat->List Value} {new:List Nat} (hl:new.length<=maxLen):RowIn [(g,0,flatG enc new)] enc 1 (.slice (some ⟨g,0,none⟩) new.length cap) new:=⟨_,_,rfl,hl,fun _=>⟨g,0,rfl,by simp⟩⟩
theorem grp_at {S:Sto} {gs:List (Nat×Nat)} {G:List (Tr×Nat)} (h1:DenL S (gs.map (·.1)) (G.map (·.1))) (h2:gs.map (·.2)=G.map (·.2)) {k:Nat} {p:Nat×Nat} (hp:gs[k]?=some p):∃ t,G[k]?=some (t,p.2)∧Den S p.1 t:=by
 obtain ⟨t,ht,hd⟩:=h1.get (i:=k) (a:=p.1) (by rw [List.getElem?_map,hp];rfl);rw [List.getElem?_map] at ht;have h3:(G.map (·.2))[k]?=some p.2:=(by rw [← h2,List.getElem?_map,hp];rfl);rw [List.getElem?_map] at h3;cases hG:G[k]? with
 |none=>rw [hG] at ht;simp at ht
 |some q =>
  rw [hG] at ht h3;simp at ht h3;exact ⟨t,by rw [← ht,← h3],hd⟩
theorem RunsIn.step {X X1 X2:Px} {G:List (Tr×Nat)} {gs:List (Nat×Nat)} {ids nids:List Nat} {ts:List Tr} {k at_ ci ck sym tm id:Nat} {tr:Tr} {C1 K1:Array Value} (h:RunsIn X X1 G gs ids ts k at_ C1 K1 ci ck nids) (hg:gs[k]?=some (sym,tm)) (hG:G[k]?=some (tr,tm)) (hpos:1<=tm) (ext:X1.Ext X2) (ok:PxOk X2) (hid:Den X2.S id (powT (tr,tm))) (hsz:X2.S.list.length<=X1.S.list.length+(tm-1)) (hnl:nids.length=k) (hka:k<=at_) (hci:k+1<=ci) (hck:k+1<=ck) {ky:Nat} (hky:(powT (tr,tm)).key=ky) :
  RunsIn X X2 G gs ids ts (k+1) (at_+tm) (putC C1 k [.int .i64 id]) (putC K1 k [.int .u64 ky]) ci ck (nids++[id]):=by
 have e:G.take (k+1)=G.take k++[(tr,tm)]:=(by rw [List.take_add_one,hG];rfl);have hkl:(((G.take k).map powT).map Tr.key).length=k:=by
  rw [List.length_map,List.length_map,List.length_take];have:=gelt hG;omega
 refine ⟨h.ext.trans ext,ok,gelt hg,by rw [(sum_split hg).2,← h.hat],?_,?_,?_,?_⟩
 ·rw [e,List.map_append];exact (h.den.le h.ok.ok ext.le).append ⟨hid,trivial⟩
 ·have:=h.i.app [id] (a':=at_+tm) (by omega) (by rw [hnl];simp;omega) (by rw [hnl];simp;omega);rw [hnl] at this;exact this
 ·have:=h.kk.app [ky] (a':=at_+tm) (by omega) (by rw [hkl];simp;omega) (by rw [hkl];simp;omega);rw [hkl] at this;rw [e,List.map_append,List.map_append];simp only [List.map_cons,List.map_nil,hky];exact this
 ·have:=h.size;omega
structure MkFact (X X':Px) (t:Tr) (id:Nat) (c:Option Nat):Prop where
 ext:X.Ext X'
 ok:PxOk X'
 len:X'.S.list.length<=X.S.list.length+1
 ans:(c=none∧Den X'.S id t)∨(c=some 3∧id=0∧X'.S=X.S∧X.S.most<=X.S.list.length)
theorem X8 {v u:Value} (h:[v]=[u]):u=v:=by simpa using h.symm
attribute [local go_sem] StStep stAt stUpon in
theorem runs_p {X:Px} {gi gk ci ck:Nat} {CI CK:Array Value} {ids:List Nat} {ts:List Tr} (hX:PxOk X) (hq:SeqIn X CI CK ci ck ids ts) (h1:1<=ids.length) (hlen:ids.length<=65536) (hml:lenL ts<=maxT) (w:World) (h:(((pA X).sep ((blk gi (.cells CI 26)).sep (blk gk (.cells CK 74)))).sep deA).ho w) :
  Calls Tryz.prog 63 #[.pointer (some ⟨X.p,0,none⟩),.agg #[.slice (some ⟨gi,0,none⟩) ids.length ci,.slice (some ⟨gk,0,none⟩) ids.length ck]] w (SeqPost X gi gk ci ck ids.length (runs ts) ((pA X).sep ((blk gi (.cells CI 26)).sep (blk gk (.cells CK 74)))).fp w):=by
 rw [sep_ho] at h;obtain ⟨k1,k2,hd⟩:=h;have H:=St.one k1;have HK:Ks w ((pA X).sep ((blk gi (.cells CI 26)).sep (blk gk (.cells CK 74)))).fp [deA]:=⟨by simpa using k2,by simpa using fun b hb hm=>hd b hm hb⟩
 generalize ((pA X).sep ((blk gi (.cells CI 26)).sep (blk gk (.cells CK 74)))).fp=M at *;replace H:=H.sep;replace H:=(H.pick (.there .here)).sep;have hci:=hq.i.len;have hck:=hq.k.len;rw [List.length_map,← hq.den.len] at hck;have HRU:Hid (∀ w,(blk gi (.cells CI 26)).ho w->Calls Tryz.prog 97 #[.slice (some ⟨gi,0,none⟩) ids.length ci] w fun e w'=>∃ ad cp gs,e=.returned (.slice ad gs.length cp)∧GrN ids gs∧St w [] [rowsA encG 179 2 (.slice ad gs.length cp) gs] w'):=zh fun w h=>runs_c (arr_row (by unfold maxLen;omega)) hlen w (arr_pool (enc:=encI) (fun _=>rfl) h hq.i)
 have HQ:=zh hq;have HPX:=zh hX;have HML:=zh hml;obtain ⟨n,hn⟩:∃ n,ids.length=n:=⟨_,rfl⟩
 have HN:=zh hn;rw [hn] at hlen h1 hci hck HRU ⊢;clear k1 k2 hd hq hX hml hn;go_enter Tryz.func63,Tryz.ntmps63;go_wp2_with (first|refine sL ?_|(refine sS ?_;clear H;intros;rename_i H));refine wp_region_h H 8 [(7,122,#[.slice none 0 0,.slice none 0 0],none)] [(7,6)] (by kernel_rfl) (by kernel_rfl) ?_;apply Exists.intro;refine ⟨fun w1 hw1 HX=>?_,fun bs wr Hr=>?_⟩
 ·refine sG ?_;repeat (first|refine sQ ?_|fail|go_big_quiet_step (fail))
  apply wpQuiet_nil;first|refine ⟨fstep_allocT rfl rfl hw1 rfl rfl,?_⟩|refine ⟨fstep_slice1 rfl rfl rfl rfl rfl rfl rfl rfl rfl hw1,?_⟩
  simp only [Act.put,puA,puB,puC];repeat (first|refine sQ ?_|fail|go_big_quiet_step (fail))
  exact wpQuiet_nil rfl
 clear H;have H:=Hr;clear Hr;replace H:=sH H;refine sT ?_;go_wp2_with (first|refine sL ?_|(refine sS ?_;clear H;intros;rename_i H)|(go_at_call 97;with_reducible refine zm (HRU.out _ (H.get pk)) ?_;rintro e wc ⟨ad,cg,gs,rfl,hgr,hb⟩;replace H:=zn (H.call0 hb);clear hb;have HGR:=zh hgr;clear hgr));rename_i b3 _ b4 _ _ _ _;obtain ⟨b6,hb6⟩:∃ b6,bs 7=b6:=⟨_,rfl⟩
 simp only [hb6] at H ⊢;clear hb6;have hgs0:0<gs.length:=by
  rcases Nat.eq_zero_or_pos gs.length with h|h
  ·have h2:=HGR.out.flat;rw [List.length_eq_zero_iff.1 h] at h2;have h3:=HN.out;rw [← h2] at h3;simp at h3;omega
  ·exact h
 obtain ⟨gg,cgg,e9,_,_⟩:=rowsA_cases (H.get (A:=rowsA encG 179 2 (.slice ad gs.length cg) gs) pk) hgs0;injection e9 with e9 _ e8
 subst e9;subst e8;obtain ⟨G,hG,hG1,hG2⟩:=HGR.out.trees HPX.out.ok HQ.out.den;have hGl:G.length=gs.length:=(by have:=congrArg List.length hG2;simpa using this.symm);have hngn:gs.length<=n:=by
  have h2:=congrArg List.length HGR.out.flat;rw [flat_len,HN.out] at h2;have:=sum_ge HGR.out.pos;omega
 obtain ⟨ng,hng⟩:∃ ng,gs.length=ng:=⟨_,rfl⟩
 have HNG:=zh hng;have HGL:=zh (hGl.trans hng);have HG:=zh hG;have HG1:=zh hG1;have HG2:=zh hG2;rw [hng] at H hngn ⊢;clear hgs0 hng hGl hG hG1 hG2
 go_loopw [7,24] (fun v7 v24 wr=>RunsRel X G gs ids ts gi gk ci ck gg cg b3 b4 b6 n ng M w v7 v24 wr) (fun _ v24 _=>ng-(intOf v24).toNat)
 case atStart =>
  have hq:=HQ.out;exact ⟨X,0,0,CI,CK,[],rfl,rfl,⟨.refl _,HPX.out,Nat.zero_le _,rfl,by simp [DenL],hq.i.start,hq.k.start,Nat.le_refl _⟩,H.picks (.cons pk (.cons pk (.cons pk (.cons pk (.cons pk (.cons pk (.cons pk .nil)))))))⟩
 case round =>
  clear H;obtain ⟨X1,k,at_,C1,K1,nids,rfl,rfl,hin,H⟩:=hrel;have hkl:=hin.hk;rw [HNG.out] at hkl;have hnl:nids.length=k:=by
   have:=hin.den.len;rw [List.length_map,List.length_take,HGL.out] at this;omega
  have HIN:=zh hin;have HNL:=zh hnl;have hat:=hin.hat;clear hin hnl;by_cases hlt:k<ng
  ·obtain ⟨⟨sym,tm⟩,hgk⟩:∃ p,gs[k]?=some p:=⟨_,zg (by rw [HNG.out];exact hlt)⟩
   obtain ⟨tr,hGk,hden0⟩:=grp_at HG1.out HG2.out hgk;have hpos:1<=tm:=HGR.out.pos _ (List.mem_of_getElem? hgk);have hidat:=run_at HGR.out hgk;rw [← hat] at hidat;obtain ⟨hs1,hs2⟩:=sum_split hgk;rw [← hat] at hs1 hs2;have hfl:=congrArg List.length HGR.out.flat;rw [flat_len,HN.out] at hfl;simp only at hs1 hs2;have hatn:at_+tm<=n:=(by omega);have hkey:(ts.map Tr.key)[at_]?=some tr.key:=by
    obtain ⟨t',ht',hd'⟩:=HQ.out.den.get hidat;rw [List.getElem?_map,ht',← hd'.2.2,hden0.2.2];rfl
   have hk_at:k<=at_:=by
    have:=sum_ge (l:=gs.take k) fun p hp=>HGR.out.pos p (List.mem_of_mem_take hp)
    rw [List.length_take,HNG.out,← hat] at this;omega
   have hrest:ng-(k+1)<=n-(at_+tm):=by
    have:=sum_ge (l:=gs.drop (k+1)) fun p hp=>HGR.out.pos p (List.mem_of_mem_drop hp)
    rw [List.length_drop,HNG.out] at this;omega
   have HREST:=zh hrest;clear hrest;have hden:Den X1.S sym tr:=hden0.le HPX.out.ok HIN.out.ext.le;have hlenp:tr.len*tm<=maxT:=Nat.le_trans (lenL_groups ts _ (by rw [HG.out];exact List.mem_of_getElem? hGk)) HML.out;have HKC:Hid (∀ w,(blk gk (.cells K1 74)).ho w->w.cell? ⟨gk,at_,none⟩=some (.int .u64 tr.key)):=zh fun w h=>arr_cell h (HIN.out.kk.od at_ _ (Nat.le_refl _) hkey)
   have HGC:=zh hgk;have HGK:=zh hGk;have HDEN:=zh hden;have HS2:=zh hs2;have HAT:=zh hatn;have HKAT:=zh hk_at;have HPOS:=zh hpos;have HLP:=zh hlenp;clear hgk hGk hden0 hidat hs1 hs2 hfl hkey hden hlenp hat;go_wp2_with (first|refine sL ?_|(refine sS ?_;clear H;intros;rename_i H)|((with_reducible refine isLoad ?_);refine AtLoad.rngT (vs:=[.int .i64 sym,.int .i64 tm]) rfl rfl rfl (rowsA_rng (H.get (A:=rowsA encG 179 2 (.slice (some ⟨gg,0,none⟩) ng cg) gs) pk) encG_len HGC.out) rfl ?_;simp only [Act.put,puA,puB,puC]));rename_i b9 _ _ _ _ _;refine wp_region_h H 9 [] [] (by kernel_rfl) (by kernel_rfl) ?_;apply Exists.intro;refine ⟨fun w1 hw1 HX=>?_,fun bs wr Hr=>?_⟩
   ·refine sG ?_;repeat (first|go_big_quiet_skip|refine sQ ?_|go_big_quiet_step (fail))
    exact wpQuiet_nil rfl
   clear H;have H:=Hr;clear Hr;replace H:=sH H;refine sT ?_;obtain ⟨ky0,hky0⟩:∃ ky,tr.key=ky:=⟨_,rfl⟩
   have HKY0:=zh hky0;simp only [hky0] at HKC ⊢;clear hky0;have HSI:=zh HIN.out.i.size;have HSK:=zh HIN.out.kk.size;have hck1:k+1<=ck:=(by omega);have hci1:k+1<=ci:=(by omega);by_cases htm:tm=1
   ·have d1:decide ((1:Int)<(tm:Int))=false:=(by simp;omega);have HTM:=zh htm;clear htm hpos;go_wp2_with (first|refine sL ?_|(refine sS ?_;clear H;intros;rename_i H)|((with_reducible refine isSlice ?_);refine AtSlice.one H rfl rfl rfl rfl rfl rfl rfl rfl rfl ?_;clear H;intro b _ H;simp only [Act.put,puA,puB,puC])|((with_reducible refine isAppend ?_);first|(refine AtAppend.room H rfl rfl rfl rfl rfl rfl (cur:=C1) pk [.int .i64 sym] rfl (one_new (H.at pk)) (by intro u hu;simp at hu;subst hu;rfl) (by omega) HSI.out ?_;clear H;intro _ H;simp only [Act.put,puA,puB,puC])|(refine AtAppend.room H rfl rfl rfl rfl rfl rfl (cur:=K1) pk [.int .u64 ky0] rfl (one_new (H.at pk)) (by intro u hu;simp at hu;subst hu;rfl) (by omega) HSK.out ?_;clear H;intro _ H;simp only [Act.put,puA,puB,puC])));have hpw:powT (tr,tm)=tr:=(by rw [HTM.out];rfl);refine ⟨⟨X1,k+1,at_+tm,_,_,nids++[sym],by go_num,by go_num,HIN.out.step HGC.out HGK.out HPOS.out (.refl _) HIN.out.ok (by rw [hpw];exact HDEN.out) (by omega) HNL.out hk_at hci1 hck1 (ky:=ky0) (by rw [hpw];exact HKY0.out),H.picks (.cons pk (.cons pk (.cons pk (.cons pk (.cons pk (.cons pk (.cons pk .nil)))))))⟩,by simp [intOf];omega⟩
   ·have htm2:1<tm:=(by omega);have d1:decide ((1:Int)<(tm:Int))=true:=(by simp;omega);clear htm;have HC0:Hid (∀ w,(pA X1).ho w->w.cell? ⟨X.p,0,none⟩=some (.pointer (some ⟨X1.s,0,none⟩))):=zh fun w h=>by have:=pA_c0 h;rwa [HIN.out.ext.p] at this
    have HPW:Hid (∀ w,(pA X1).ho w->Calls Tryz.prog 70 #[.pointer (some ⟨X1.s,0,none⟩),.int .i64 sym,.int .i64 tm] w (MPost X1 (.pow tr tm) (pA X1).fp w)):=zh fun w h=>power_p HDEN.out htm2 (by omega) HLP.out HIN.out.ok w h
    have d2:=zh htm2;clear hpos;go_wp2_with (first|refine sL ?_|(refine sS ?_;clear H;intros;rename_i H));replace H:St w M [pA X1,blk gi (.cells C1 26),blk gk (.cells K1 74),blk b3 (.cells #[.slice (some ⟨gi,0,none⟩) n ci,.slice (some ⟨gk,0,none⟩) n ck] 122),blk b4 (.cells #[.slice none 0 0,.slice none 0 0] 122),blk b6 (.cells #[.slice (some ⟨gi,0,none⟩) k ci,.slice (some ⟨gk,0,none⟩) k ck] 122),rowsA encG 179 2 (.slice (some ⟨gg,0,none⟩) ng cg) gs,blk b9 (.cells #[.int .i64 sym,.int .i64 tm] 179)] _:=H.picks (.cons pk (.cons pk (.cons pk (.cons pk (.cons pk (.cons pk (.cons pk (.cons pk .nil))))))));refine wp_region_sgx 13 [⟨[],fun v _=>v=.pointer (some ⟨X.p,0,none⟩)⟩,⟨[0],fun v _=>v=.pointer (some ⟨X.p,0,none⟩)⟩,⟨[1],fun v _=>v=.pointer (some ⟨X.p,0,none⟩)⟩,⟨[2],fun v _=>v=.pointer (some ⟨X1.s,0,none⟩)⟩,⟨[],fun v _=>v=.int .i64 sym⟩,⟨[],fun v _=>v=.pointer (some ⟨b9,1,none⟩)⟩,⟨[5],fun v _=>v=.int .i64 tm⟩,⟨[3,4,6],fun v _=>∃ (id:Nat) (c:Option Nat),v=.tuple #[.int .i64 id,errV c]⟩,⟨[7],fun v ds=>ds=[v]⟩,⟨[8],fun v ds=>∃ (id:Nat) (c:Option Nat),ds=[.tuple #[.int .i64 id,errV c]]∧v=.int .i64 id⟩,⟨[8],fun v ds=>∃ (id:Nat) (c:Option Nat),ds=[.tuple #[.int .i64 id,errV c]]∧v=errV c⟩,⟨[9],fun v ds=>ds=[v]⟩,⟨[10],fun v ds=>ds=[v]⟩] [7] [[0],[0],[0],[0],[0],[0],[0],[0],[1],[1],[1],[1],[1]] [fun _ wx=>St w M [pA X1,blk gi (.cells C1 26),blk gk (.cells K1 74),blk b3 (.cells #[.slice (some ⟨gi,0,none⟩) n ci,.slice (some ⟨gk,0,none⟩) n ck] 122),blk b4 (.cells #[.slice none 0 0,.slice none 0 0] 122),blk b6 (.cells #[.slice (some ⟨gi,0,none⟩) k ci,.slice (some ⟨gk,0,none⟩) k ck] 122),rowsA encG 179 2 (.slice (some ⟨gg,0,none⟩) ng cg) gs,blk b9 (.cells #[.int .i64 sym,.int .i64 tm] 179)] wx,fun vals wx=>∃ (X2:Px) (id:Nat) (c:Option Nat),vals 7=.tuple #[.int .i64 id,errV c]∧MkFact X1 X2 (.pow tr tm) id c∧St w M [pA X2,blk gi (.cells C1 26),blk gk (.cells K1 74),blk b3 (.cells #[.slice (some ⟨gi,0,none⟩) n ci,.slice (some ⟨gk,0,none⟩) n ck] 122),blk b4 (.cells #[.slice none 0 0,.slice none 0 0] 122),blk b6 (.cells #[.slice (some ⟨gi,0,none⟩) k ci,.slice (some ⟨gk,0,none⟩) k ck] 122),rowsA encG 179 2 (.slice (some ⟨gg,0,none⟩) ng cg) gs,blk b9 (.cells #[.int .i64 sym,.int .i64 tm] 179)] wx]
     [[],[(0,39)],[(1,40)],[(2,41)],[],[],[(5,44)],[(3,42),(4,43),(6,45)],[(7,46)],[(8,38)],[(8,38)],[(9,47)],[(10,48)]] [(0,39),(1,40),(2,41),(3,42),(4,43),(5,44),(6,45),(7,46),(8,38),(9,47),(10,48),(11,10),(12,12)] (by kernel_rfl) (by kernel_rfl) H.drew ⟨⟨qo,trivial⟩,⟨qo,trivial⟩,⟨qo,trivial⟩,⟨ql,trivial⟩,⟨qo,trivial⟩,⟨qo,trivial⟩,⟨ql,trivial⟩,⟨?_,trivial⟩,⟨?_,trivial⟩,⟨?_,trivial⟩,⟨?_,trivial⟩,⟨?_,trivial⟩,⟨?_,trivial⟩,trivial⟩ ?_
    ·intro vals wx hd HC;simp only [GF] at hd;obtain ⟨h3,h4,h6⟩:=hd;have H:=HC;simp only [CA] at H;simp only [PS,h3,h4,h6];clear h3 h4 h6 HC;go_simp;with_reducible refine zm (HPW.out _ (H.get pk)) ?_
     rintro e wc ⟨X2,id,c,rfl,m1,m2,m3,m4,hb⟩;have H2:=(H.pick pk).call hb;exact ⟨_,rfl,⟨id,c,rfl⟩,X2,id,c,rfl,⟨m1,m2,m3,m4⟩,by simpa using H2⟩
    ·intro vals wx hd HC;simp only [GF] at hd;have h7:=hd;clear hd;have H:=HC;simp only [CA] at H;obtain ⟨X2,id,c,hv7,hmk,H⟩:=H;simp only [PS];clear h7;go_simp;first|exact HC|exact ⟨rfl,HC⟩
    ·intro vals wx hd HC;simp only [GF] at hd;have h8:=hd;clear hd;have H:=HC;simp only [CA] at H;obtain ⟨X2,id,c,hv7,hmk,H⟩:=H;simp only [PS];have e8:vals 8=.tuple #[.int .i64 id,errV c]:=(by rw [← hv7];exact X8 (show [vals 7]=[vals 8] from h8));simp only [e8];clear h8;go_simp;first|exact ⟨⟨id,c,by simp [e8],rfl⟩,HC⟩|exact ⟨⟨id,rfl,c,rfl⟩,HC⟩|exact ⟨⟨c,⟨id,rfl⟩,rfl⟩,HC⟩|exact ⟨⟨id,c,rfl⟩,HC⟩|exact HC|exact ⟨⟨id,⟨rfl,c,rfl⟩,rfl⟩,HC⟩|exact ⟨⟨⟨id,rfl⟩,c,rfl⟩,HC⟩|fail "Z9"
    ·intro vals wx hd HC;simp only [GF] at hd;have h8:=hd;clear hd;have H:=HC;simp only [CA] at H;obtain ⟨X2,id,c,hv7,hmk,H⟩:=H;simp only [PS];have e8:vals 8=.tuple #[.int .i64 id,errV c]:=(by rw [← hv7];exact X8 (show [vals 7]=[vals 8] from h8));simp only [e8];clear h8;go_simp;first|exact ⟨⟨id,c,by simp [e8],rfl⟩,HC⟩|exact ⟨⟨id,rfl,c,rfl⟩,HC⟩|exact ⟨⟨c,⟨id,rfl⟩,rfl⟩,HC⟩|exact ⟨⟨id,c,rfl⟩,HC⟩|exact HC|exact ⟨⟨id,⟨rfl,c,rfl⟩,rfl⟩,HC⟩|exact ⟨⟨⟨id,rfl⟩,c,rfl⟩,HC⟩|fail "Z9"
    ·intro vals wx hd HC;simp only [GF] at hd;have h9:=hd;clear hd;have H:=HC;simp only [CA] at H;obtain ⟨X2,id,c,hv7,hmk,H⟩:=H;simp only [PS];clear h9;go_simp;first|exact HC|exact ⟨rfl,HC⟩
    ·intro vals wx hd HC;simp only [GF] at hd;have h10:=hd;clear hd;have H:=HC;simp only [CA] at H;obtain ⟨X2,id,c,hv7,hmk,H⟩:=H;simp only [PS];clear h10;go_simp;first|exact HC|exact ⟨rfl,HC⟩
    intro vals wx hd HC;have h7:=hd.2.2.2.2.2.2.2.1;have h8:=hd.2.2.2.2.2.2.2.2.1;have h9:=hd.2.2.2.2.2.2.2.2.2.1;have h10:=hd.2.2.2.2.2.2.2.2.2.2.1;have h11:=hd.2.2.2.2.2.2.2.2.2.2.2.1;have h12:=hd.2.2.2.2.2.2.2.2.2.2.2.2.1;simp only [CA] at HC;obtain ⟨X2,id,c,hv7,hmk,H⟩:=HC;simp only [GF] at hd;simp only [PS,hd];clear hd;have e8:vals 8=.tuple #[.int .i64 id,errV c]:=(by rw [← hv7];exact X8 (show [vals 7]=[vals 8] from h8));have h9':∃ (i':Nat) (c':Option Nat),[vals 8]=[.tuple #[.int .i64 i',errV c']]∧vals 9=.int .i64 i':=h9;have h10':∃ (i':Nat) (c':Option Nat),[vals 8]=[.tuple #[.int .i64 i',errV c']]∧vals 10=errV c':=h10;have e9:vals 9=.int .i64 id:=by
     obtain ⟨i',c',e,e'⟩:=h9';rw [e8] at e;simp at e;rw [e'];simp [e.1]
    have e10:vals 10=errV c:=by
     obtain ⟨i',c',e,e'⟩:=h10';rw [e8] at e;simp at e;rw [e',e.2]
    have e11:vals 11=.int .i64 id:=(by rw [← e9];exact X8 (show [vals 9]=[vals 11] from h11));have e12:vals 12=errV c:=(by rw [← e10];exact X8 (show [vals 10]=[vals 12] from h12));simp only [hv7,e8,e9,e10,e11,e12];clear e8 e9 e10 e11 e12 h8 h9 h10 h11 h12 hv7 h9' h10';have HMK:=zh hmk;obtain ⟨kp,hkp⟩:∃ kp,(Tr.pow tr tm).key=kp:=⟨_,rfl⟩
    have HKP0:=zh hkp;have hpw:powT (tr,tm)=.pow tr tm:=if_neg (show ¬ tm=1 by omega);have HPT:=zh hpw;rcases hmk.ans with ⟨rfl,hid⟩|⟨rfl,rfl,hs,hmost⟩
    ·have HID:=zh hid;have HC1:Hid (∀ w,(pA X2).ho w->w.cell? ⟨X.p,1,none⟩=some (.pointer (some ⟨X2.K.t,0,none⟩))):=zh fun w h=>by have:=pA_c1 h;rwa [HMK.out.ext.p,HIN.out.ext.p] at this
     have HKP:Hid (∀ w,((pA X2).sep deA).ho w->Calls Tryz.prog 98 #[.pointer (some ⟨X2.K.t,0,none⟩),.int .i64 id] w (PPost X2 (.tuple #[.int .u64 kp,.nilIface]) (pA X2).fp w)):=zh fun w h=>by rw [← HKP0.out];exact key_p HMK.out.ok HID.out w h
     clear hmk hkp hpw hid;simp only [errV] at *;go_wp2_with (first|refine sL ?_|(refine sS ?_;clear H;intros;rename_i H)|(go_at_call 98;with_reducible refine zm (HKP.out _ (H.sepK HK pk pk)) ?_;rintro e wc ⟨X3,y1,y2,y3,rfl,hb⟩;have HY:=zh (za y1 (za y2 y3));clear y1 y2 y3;replace H:=zn ((H.pick pk).call hb);clear hb)|((with_reducible refine isSlice ?_);refine AtSlice.one H rfl rfl rfl rfl rfl rfl rfl rfl rfl ?_;clear H;intro b _ H;simp only [Act.put,puA,puB,puC])|((with_reducible refine isAppend ?_);first|(refine AtAppend.room H rfl rfl rfl rfl rfl rfl (cur:=C1) pk [.int .i64 id] rfl (one_new (H.at pk)) (by intro u hu;simp at hu;subst hu;rfl) (by omega) HSI.out ?_;clear H;intro _ H;simp only [Act.put,puA,puB,puC])|(refine AtAppend.room H rfl rfl rfl rfl rfl rfl (cur:=K1) pk [.int .u64 kp] rfl (one_new (H.at pk)) (by intro u hu;simp at hu;subst hu;rfl) (by omega) HSK.out ?_;clear H;intro _ H;simp only [Act.put,puA,puB,puC])));refine ⟨⟨X3,k+1,at_+tm,_,_,nids++[id],by go_num,by go_num,HIN.out.step HGC.out HGK.out HPOS.out (HMK.out.ext.trans HY.out.1) HY.out.2.1 (by rw [HPT.out,HY.out.2.2];exact HID.out) (by rw [HY.out.2.2];have:=HMK.out.len;have:=d2.out;omega) HNL.out hk_at hci1 hck1 (ky:=kp) (by rw [HPT.out];exact HKP0.out),H.picks (.cons pk (.cons pk (.cons pk (.cons pk (.cons pk (.cons pk (.cons pk .nil)))))))⟩,by simp [intOf];omega⟩
    ·clear hkp hpw;have HS:=zh hs;have HMO:=zh hmost;clear hs hmost hmk;simp only [errV,EV] at *;go_wp2_with (first|refine sL ?_|(refine sS ?_;clear H;intros;rename_i H));refine bodyPost_ret (res_row_tmp rfl H rfl pk rfl rfl) rfl ?_;have hrl:(runs ts).length=ng:=(by unfold runs;rw [HG.out,List.length_map,HGL.out]);have h6:=HIN.out.size;have h7:=HREST.out;have h8:=d2.out;refine ⟨X2,C1,K1,HIN.out.ext.trans HMK.out.ext,HMK.out.ok,H.picks (.cons pk (.cons pk (.cons pk .nil))),.inr ⟨rfl,by rw [HS.out];exact HMO.out,by rw [hrl,HS.out];omega⟩⟩
  ·obtain rfl:k=ng:=by omega
   clear hat;go_wp2_with (first|refine sL ?_|(refine sS ?_;clear H;intros;rename_i H));refine bodyPost_ret (res_row_tmp rfl H rfl pk rfl rfl) rfl ?_;have hin:=HIN.out;have hgk:G.take k=G:=List.take_of_length_le (by rw [HGL.out];exact Nat.le_refl _);have hgg:gs.take k=gs:=List.take_of_length_le (by rw [HNG.out];exact Nat.le_refl _);have hru:runs ts=G.map powT:=(by unfold runs;rw [HG.out]);have h4:=congrArg List.length HGR.out.flat;rw [flat_len,HN.out] at h4;have h5:=hin.hat;rw [hgg,h4] at h5;have hden:=hin.den;have hkk:=hin.kk;have hsz:=hin.size;rw [hgk] at hden hkk;have hrl:(runs ts).length=k:=(by rw [hru,List.length_map,HGL.out]);have hrl2:k=(runs ts).length:=hrl.symm;refine ⟨X1,C1,K1,hin.ext,hin.ok,H.picks (.cons pk (.cons pk (.cons pk .nil))),.inl ⟨nids,by rw [hrl];rfl,⟨by rw [hru];exact hden,hin.i.forget,by rw [hru];exact hkk.forget⟩,by rw [hrl];omega⟩⟩
end
section
open Go.RowKit Go.Maps
attribute [local go_sem] InGr
def sqA (X:Px) (b gi gk ci ck k:Nat) (C K:Array Value):As:=(pA X).sep ((blk b (.cells #[.slice (some ⟨gi,0,none⟩) k ci,.slice (some ⟨gk,0,none⟩) k ck] 122)).sep ((blk gi (.cells C 26)).sep (blk gk (.cells K 74))))
theorem sqA_open {X:Px} {b gi gk ci ck k:Nat} {C K:Array Value} {w0 w:World} {M:List Nat} {R:List As} (h:St w0 M (sqA X b gi gk ci ck k C K::R) w):St w0 M (pA X::blk b (.cells #[.slice (some ⟨gi,0,none⟩) k ci,.slice (some ⟨gk,0,none⟩) k ck] 122)::blk gi (.cells C 26)::blk gk (.cells K 74)::R) w:=by
 have h1:=h.sep;have h2:=(h1.pick (.there .here)).sep;have h3:=(h2.pick (.there .here)).sep;exact (h3.pick (.there (.there .here))).pick (.there (.there (.there .here)))
theorem sqA_shut {X:Px} {b gi gk ci ck k:Nat} {C K:Array Value} {w0 w:World} {M:List Nat} {R:List As} (h:St w0 M (pA X::blk b (.cells #[.slice (some ⟨gi,0,none⟩) k ci,.slice (some ⟨gk,0,none⟩) k ck] 122)::blk gi (.cells C 26)::blk gk (.cells K 74)::R) w):St w0 M (sqA X b gi gk ci ck k C K::R) w:=by
 have h1:=(h.pick2 (.there (.there .here)) (.there (.there .here))).join;have h2:=(h1.pick (.there (.there .here))).join;exact (h2.pick (.there .here)).join
attribute [irreducible] sqA
abbrev AddPost (X:Px) (b gi gk ci ck k:Nat) (C K:Array Value) (id ky:Nat) (M:List Nat) (w:World) (e:Ending) (w':World):Prop :=
 ∃ X':Px,X.Ext X'∧PxOk X'∧X'.S=X.S∧e=.returned .nilIface∧St w M [sqA X' b gi gk ci ck (k+1) (putC C k [.int .i64 id]) (putC K k [.int .u64 ky])] w'
theorem add_p {X:Px} {b gi gk ci ck k id ky:Nat} {C K:Array Value} {t:Tr} (hX:PxOk X) (hd:Den X.S id t) (hky:t.key=ky) (h1:k+1<=ci) (h2:k+1<=ck) (hk:k<=65536) (hC:C.size=ci) (hK:K.size=ck) (w:World) (h:((sqA X b gi gk ci ck k C K).sep deA).ho w) :
  Calls Tryz.prog 96 #[.pointer (some ⟨X.p,0,none⟩),.pointer (some ⟨b,0,none⟩),.int .i64 id] w (AddPost X b gi gk ci ck k C K id ky (sqA X b gi gk ci ck k C K).fp w):=by
 rw [sep_ho] at h;obtain ⟨k1,k2,hd2⟩:=h;have H:=St.one k1;have HK:Ks w (sqA X b gi gk ci ck k C K).fp [deA]:=⟨by simpa using k2,by simpa using fun b hb hm=>hd2 b hm hb⟩
 replace H:=sqA_open H;generalize (sqA X b gi gk ci ck k C K).fp=M at *;have HC1:Hid (∀ w,(pA X).ho w->w.cell? ⟨X.p,1,none⟩=some (.pointer (some ⟨X.K.t,0,none⟩))):=zh fun w h=>pA_c1 h
 have HKP:Hid (∀ w,((pA X).sep deA).ho w->Calls Tryz.prog 98 #[.pointer (some ⟨X.K.t,0,none⟩),.int .i64 id] w (PPost X (.tuple #[.int .u64 ky,.nilIface]) (pA X).fp w)):=zh fun w h=>by rw [← hky];exact key_p hX hd w h
 have HSI:=zh hC;have HSK:=zh hK;clear k1 k2 hd2 hX hd hky hC hK t;go_enter Tryz.func96,Tryz.ntmps96;go_wp2_with (first|refine sL ?_|(refine sS ?_;clear H;intros;rename_i H)|(go_at_call 98;with_reducible refine zm (HKP.out _ (H.sepK HK pk pk)) ?_;rintro e wc ⟨X3,y1,y2,y3,rfl,hb⟩;have HY:=zh (za y1 (za y2 y3));clear y1 y2 y3;replace H:=zn ((H.pick pk).call hb);clear hb)|((with_reducible refine isSlice ?_);refine AtSlice.one H rfl rfl rfl rfl rfl rfl rfl rfl rfl ?_;clear H;intro b9 _ H;simp only [Act.put,puA,puB,puC])|((with_reducible refine isAppend ?_);first|(refine AtAppend.room H rfl rfl rfl rfl rfl rfl (cur:=C) pk [.int .i64 id] rfl (one_new (H.at pk)) (by intro u hu;simp at hu;subst hu;rfl) (by omega) HSI.out ?_;clear H;intro _ H;simp only [Act.put,puA,puB,puC])|(refine AtAppend.room H rfl rfl rfl rfl rfl rfl (cur:=K) pk [.int .u64 ky] rfl (one_new (H.at pk)) (by intro u hu;simp at hu;subst hu;rfl) (by omega) HSK.out ?_;clear H;intro _ H;simp only [Act.put,puA,puB,puC])));go_ret;refine ⟨X3,HY.out.1,HY.out.2.1,HY.out.2.2,rfl,?_⟩;have h5:=H.picks (L':=[pA X3,blk b (.cells #[.slice (some ⟨gi,0,none⟩) (k+1) ci,.slice (some ⟨gk,0,none⟩) (k+1) ck] 122),blk gi (.cells (putC C k [.int .i64 id]) 26),blk gk (.cells (putC K k [.int .u64 ky]) 74)]) (.cons pk (.cons pk (.cons pk (.cons pk .nil))));exact sqA_shut h5
end
section
open Go.RowKit Go.Maps
attribute [local go_sem] InGr
section
variable {ops:Array Oper} {a:Act} {w:World} {o:Oper} {Rr:Value->World->Prop}
theorem run_seg {t e:TypeId} (hte:sliceO t=some e) {z:Value} {bytes:Nat} (hi:infoO e=some (z,1,bytes)) {g n c l h:Nat} (h1:l<=h) (h2:h<=c) (w:World) :
  (Instr.sliceAt t (.slice (some ⟨g,0,none⟩) n c) (some (.int .i64 (l:Nat))) (some (.int .i64 (h:Nat))) none).run Tryz.prog w=.ok (.slice (some ⟨g,if c=l then 0 else l,none⟩) (h-l) (c-l)) w:=by
 obtain ⟨i,e2,e3,e4,e5⟩:=infoO_ok hi;have hu:=sliceO_ok hte;have hb:(Instr.sliceBound (Value.int .i64 (h:Nat)) c .sliceAcap).run Tryz.prog w=.ok h w:=by
  unfold Instr.sliceBound;simp [asIntOf,h2]
 have hb2:(Instr.sliceBound (Value.int .i64 (l:Nat)) h .sliceB).run Tryz.prog w=.ok l w:=by
  unfold Instr.sliceBound;simp [asIntOf,h1]
 by_cases hcl:c=l
 ·subst hcl;simp [Instr.sliceAt,Instr.slice,Instr.sliceBounds,run_underlying hu,sizeOf,typeInfo,e2,Sem.run_bind,Result.andThen,hb,hb2,Addr.add]
 ·simp [Instr.sliceAt,Instr.slice,Instr.sliceBounds,run_underlying hu,sizeOf,typeInfo,e2,Sem.run_bind,Result.andThen,hb,hb2,Addr.add,hcl,e4];try omega
theorem run_segL {t e:TypeId} (hte:sliceO t=some e) {z:Value} {bytes:Nat} (hi:infoO e=some (z,1,bytes)) {g n c l:Nat} (h1:l<=n) (w:World) :
  (Instr.sliceAt t (.slice (some ⟨g,0,none⟩) n c) (some (.int .i64 (l:Nat))) none none).run Tryz.prog w=.ok (.slice (some ⟨g,if c=l then 0 else l,none⟩) (n-l) (c-l)) w:=by
 obtain ⟨i,e2,e3,e4,e5⟩:=infoO_ok hi;have hu:=sliceO_ok hte;have hb2:(Instr.sliceBound (Value.int .i64 (l:Nat)) n .sliceB).run Tryz.prog w=.ok l w:=by
  unfold Instr.sliceBound;simp [asIntOf,h1]
 by_cases hcl:c=l
 ·simp [Instr.sliceAt,Instr.slice,Instr.sliceBounds,run_underlying hu,sizeOf,typeInfo,e2,Sem.run_bind,Result.andThen,hb2,Addr.add,hcl]
 ·simp [Instr.sliceAt,Instr.slice,Instr.sliceBounds,run_underlying hu,sizeOf,typeInfo,e2,Sem.run_bind,Result.andThen,hb2,Addr.add,hcl,e4];try omega
theorem StStep.seg {t e:TypeId} {x y y2:Operand} (hw:Region.wanted o (yielded ops a.tmps)=true) (ho:o.op=.slice t x (some y) (some y2) none) (hte:sliceO t=some e) {z:Value} {bytes:Nat} (hi:infoO e=some (z,1,bytes)) {g n c l h:Nat} (hx:a.eval x=.slice (some ⟨g,0,none⟩) n c) (hy:a.eval y=.int .i64 (l:Nat)) (hy2:a.eval y2=.int .i64 (h:Nat)) (h2:h<=c) {m cr:Nat} (hm:h=l+m) (hcr:c-l=cr)
  {of:Nat} (hof:of=if c=l then 0 else l) (hR:Rr (.slice (some ⟨g,of,none⟩) m cr) w):StStep Tryz.prog ops o a w Rr :=
 StStep.val hw (by unfold execOp;simp only [ho,hx,hy,hy2,Option.map_none,Option.map_some,Sem.run_bind,run_seg hte hi (show l<=h by omega) h2,Result.andThen_ok,Sem.run_pure,← hof,hcr,show h-l=m by omega]) hR
theorem StStep.segL {t e:TypeId} {x y:Operand} (hw:Region.wanted o (yielded ops a.tmps)=true) (ho:o.op=.slice t x (some y) none none) (hte:sliceO t=some e) {z:Value} {bytes:Nat} (hi:infoO e=some (z,1,bytes)) {g n c l:Nat} (hx:a.eval x=.slice (some ⟨g,0,none⟩) n c) (hy:a.eval y=.int .i64 (l:Nat)) {m cr:Nat} (hm:n=l+m) (hcr:c-l=cr)
  {of:Nat} (hof:of=if c=l then 0 else l) (hR:Rr (.slice (some ⟨g,of,none⟩) m cr) w):StStep Tryz.prog ops o a w Rr :=
 StStep.val hw (by unfold execOp;simp only [ho,hx,hy,Option.map_none,Option.map_some,Sem.run_bind,run_segL hte hi (show l<=n by omega),Result.andThen_ok,Sem.run_pure,← hof,hcr,show n-l=m by omega]) hR
end
theorem seg_new {w:World} {g c l:Nat} {C:Array Value} {e:TypeId} {cap a:Nat} {f:Nat->Value} {new old:List Nat} {of m:Nat} (h:w.heap[g]?=some (.cells C e)) (hA:Arr C cap f new old a) (ha:a<=l) (hof:of=if c=l then 0 else l) (hlc:m≠0->l<c) (hm:l+m<=old.length) :
  ∀ (i:Nat) (u:Value),(((old.drop l).take m).map f)[i]?=some u->w.cell? ⟨g,of+i,none⟩=some u:=by
 intro i u hu;rw [List.getElem?_map] at hu;cases hx:((old.drop l).take m)[i]? with
 |none=>rw [hx] at hu;simp at hu
 |some x =>
  rw [hx] at hu;simp at hu;subst hu;have hi:i<m:=by
   have:=gelt hx;rw [List.length_take] at this;omega
  have hlt:=hlc (by omega);rw [hof,if_neg (by omega)];rw [List.getElem?_take,if_pos hi,List.getElem?_drop] at hx;rw [cell_of_row w g (l+i) C e (0,0) h];exact hA.od (l+i) x (by omega) hx
theorem pairIx_none {f:Nat->Nat->Bool} {F:Tr->Tr->Bool} (hF:∀ x y,F x y=f x.key y.key):∀ (l:List Tr) (o:Nat),pairIx f o (l.map Tr.key)=[]->pairsF F l=l
 |[],_,_=>rfl
 |[x],_,_=>rfl
 |x::y::r,o,h=>by
  simp only [List.map_cons,pairIx] at h;split at h
  ·simp at h
  ·rename_i hf;rw [pairsF,if_neg (by rw [hF];exact hf),pairIx_none hF (y::r) (o+1) (by simpa using h)]
theorem pairIx_step {f:Nat->Nat->Bool} {F:Tr->Tr->Bool} (hF:∀ x y,F x y=f x.key y.key):∀ (l:List Tr) (o i:Nat) (rest:List Nat),pairIx f o (l.map Tr.key)=i::rest ->
  ∃ (A:List Tr) (x y:Tr) (r:List Tr),l=A++x::y::r∧i=o+A.length∧rest=pairIx f (i+2) (r.map Tr.key)∧pairsF F l=A ++ .pair x y::pairsF F r
 |[],_,_,_,h=>by simp [pairIx] at h
 |[x],_,_,_,h=>by simp [pairIx] at h
 |x::y::r,o,i,rest,h=>by
  simp only [List.map_cons,pairIx] at h;split at h
  ·rename_i hf;injection h with h1 h2
   subst h1;exact ⟨[],x,y,r,rfl,rfl,h2.symm,by rw [pairsF,if_pos (by rw [hF];exact hf)];rfl⟩
  ·rename_i hf;obtain ⟨A,x',y',r',e1,e2,e3,e4⟩:=pairIx_step hF (y::r) (o+1) i rest (by simpa using h);exact ⟨x::A,x',y',r',by rw [e1];rfl,by simp;omega,e3,by rw [pairsF,if_neg (by rw [hF];exact hf),e4];rfl⟩
structure PairsIn (X X':Px) (L:Nat) (ts:List Tr) (ids ix:List Nat) (j at_ kn:Nat) (C K:Array Value) (ci ck:Nat) (nids:List Nat) (new:List Tr):Prop where
 ext:X.Ext X'
 ok:PxOk X'
 hj:j<=ix.length
 hat:at_<=ids.length
 hkn:kn<=at_
 nl:nids.length=kn
 eqp:pairsF (fits L) ts=new++pairsF (fits L) (ts.drop at_)
 rem:pairIx (fun x y=>fitsN x y L) at_ ((ts.drop at_).map Tr.key)=ix.drop j
 den:DenL X'.S nids new
 i:Arr C ci fI nids ids at_
 kk:Arr K ck fU (new.map Tr.key) (ts.map Tr.key) at_
 size:X'.S.list.length+kn<=X.S.list.length+at_
structure PNext (X:Px) (L:Nat) (ts:List Tr) (ids ix:List Nat) (j at_ i m a b:Nat) (x y:Tr):Prop where
 him:i=at_+m
 hin:i+2<=ids.length
 ia:ids[i]?=some a
 ib:ids[i+1]?=some b
 da:Den X.S a x
 db:Den X.S b y
 len:x.len+y.len<=lenL ts
 rem:pairIx (fun x y=>fitsN x y L) (i+2) ((ts.drop (i+2)).map Tr.key)=ix.drop (j+1)
 eqp:pairsF (fits L) (ts.drop at_)=(ts.drop at_).take m ++ .pair x y::pairsF (fits L) (ts.drop (i+2))
theorem PairsIn.next {X X':Px} {L:Nat} {ts:List Tr} {ids ix:List Nat} {j at_ kn i:Nat} {C K:Array Value} {ci ck:Nat} {nids:List Nat} {new:List Tr} (h:PairsIn X X' L ts ids ix j at_ kn C K ci ck nids new) (hq:DenL X.S ids ts) (hj:ix[j]?=some i):∃ m a b x y,PNext X L ts ids ix j at_ i m a b x y:=by
 have e0:ix.drop j=i::ix.drop (j+1):=by
  have:=List.drop_eq_getElem_cons (l:=ix) (i:=j) (gelt hj);rw [this];congr 1
  exact (List.getElem?_eq_some_iff.1 hj).2
 obtain ⟨A,x,y,r,e1,e2,e3,e4⟩:=pairIx_step (F:=fits L) (fun x y=>rfl) _ _ _ _ (h.rem.trans e0);have hl:=hq.len;have hdl:=congrArg List.length e1;simp only [List.length_drop,List.length_append,List.length_cons] at hdl;have hx:ts[i]?=some x:=by
  have:(ts.drop at_)[A.length]?=some x:=by rw [e1,List.getElem?_append_right (Nat.le_refl _),Nat.sub_self];rfl
  rw [List.getElem?_drop] at this;rw [e2];exact this
 have hy:ts[i+1]?=some y:=by
  have:(ts.drop at_)[A.length+1]?=some y:=by rw [e1,List.getElem?_append_right (by omega),show A.length+1-A.length=1 by omega];rfl
  rw [List.getElem?_drop] at this;rw [e2,Nat.add_assoc];exact this
 have hr:r=ts.drop (i+2):=by
  have:(ts.drop at_).drop (A.length+2)=r:=by
   rw [e1,show A.length+2=A.length+1+1 by omega,← List.drop_drop,← List.drop_drop,List.drop_left];rfl
  rw [← this,List.drop_drop];congr 1;omega
 obtain ⟨a,ha⟩:∃ a,ids[i]?=some a:=⟨_,zg (by omega)⟩
 obtain ⟨b,hb⟩:∃ b,ids[i+1]?=some b:=⟨_,zg (by omega)⟩
 obtain ⟨x',hx',da⟩:=hq.get ha;obtain ⟨y',hy',db⟩:=hq.get hb;rw [hx] at hx';rw [hy] at hy';injection hx' with hx'
 injection hy' with hy'
 subst hx' hy';refine ⟨A.length,a,b,x,y,e2,by omega,ha,hb,da,db,?_,by rw [← hr];exact e3.symm,?_⟩
 ·have e5:lenL ts=lenL (ts.take at_)+lenL (ts.drop at_):=(by rw [← lenL_append,List.take_append_drop]);rw [e1,lenL_append,lenL_cons,lenL_cons] at e5;omega
 ·rw [e4,e1,List.take_left,← hr]
theorem PairsIn.start {X:Px} {L:Nat} {ts:List Tr} {ids:List Nat} {C K:Array Value} {ci ck:Nat} (hX:PxOk X) (h:SeqIn X C K ci ck ids ts):PairsIn X X L ts ids (pairIx (fun x y=>fitsN x y L) 0 (ts.map Tr.key)) 0 0 0 C K ci ck [] [] :=
 ⟨.refl _,hX,Nat.zero_le _,Nat.zero_le _,Nat.le_refl _,rfl,rfl,rfl,trivial,h.i.start,h.k.start,Nat.le_refl _⟩
theorem PairsIn.step {X X1 X2:Px} {L:Nat} {ts:List Tr} {ids ix:List Nat} {j at_ kn i m a b id ky:Nat} {C K:Array Value} {ci ck:Nat} {nids:List Nat} {new:List Tr} {x y:Tr} (h:PairsIn X X1 L ts ids ix j at_ kn C K ci ck nids new) (hq:DenL X.S ids ts) (hX:X.S.Ok) (hn:PNext X L ts ids ix j at_ i m a b x y) (hj:ix[j]?=some i) (ext:X1.Ext X2) (ok:PxOk X2) (hid:Den X2.S id (.pair x y)) (hky:(Tr.pair x y).key=ky) (hsz:X2.S.list.length<=X1.S.list.length+1) (hci:ids.length<=ci) (hck:ids.length<=ck) :
  PairsIn X X2 L ts ids ix (j+1) (i+2) (kn+m+1) (putC (putC C kn (((ids.drop at_).take m).map fI)) (kn+m) [.int .i64 id]) (putC (putC K kn ((((ts.map Tr.key).drop at_).take m).map fU)) (kn+m) [.int .u64 ky]) ci ck (nids++(ids.drop at_).take m++[id]) (new++(ts.drop at_).take m++[.pair x y]):=by
 have hl:=hq.len;have hkn:=h.hkn;have hat:=h.hat;have him:=hn.him;have hin:=hn.hin;have hml:((ids.drop at_).take m).length=m:=(by rw [List.length_take,List.length_drop];omega);have hmk:(((ts.map Tr.key).drop at_).take m).length=m:=(by rw [List.length_take,List.length_drop,List.length_map];omega);have hnew:new.length=kn:=(by rw [← h.den.len,h.nl]);have hnk:(new.map Tr.key).length=kn:=(by rw [List.length_map,hnew]);refine ⟨h.ext.trans ext,ok,gelt hj,hin,by omega,by rw [List.length_append,List.length_append,hml,h.nl];rfl,?_,hn.rem,?_,?_,?_,?_⟩
 ·rw [h.eqp,hn.eqp];simp
 ·exact ((h.den.le h.ok.ok ext.le).append (((hq.le hX (h.ext.trans ext).le).drop at_).take m)).append ⟨hid,trivial⟩
 ·have h1:=h.i.app ((ids.drop at_).take m) (a':=i) (by omega) (by rw [hml,h.nl];omega) (by rw [hml,h.nl];omega);rw [h.nl] at h1;have h2:=h1.app [id] (a':=i+2) (by omega) (by simp [hml,h.nl];omega) (by simp [hml,h.nl];omega);rw [List.length_append,hml,h.nl] at h2;exact h2
 ·have h1:=h.kk.app (((ts.map Tr.key).drop at_).take m) (a':=i) (by omega) (by rw [hmk,hnk];omega) (by rw [hmk,hnk];omega);rw [hnk] at h1;have h2:=h1.app [ky] (a':=i+2) (by omega) (by rw [List.length_append,hmk,hnk];simp;omega) (by rw [List.length_append,hmk,hnk];simp;omega);rw [List.length_append,hmk,hnk] at h2;have e7:(new++(ts.drop at_).take m++[Tr.pair x y]).map Tr.key=new.map Tr.key++((ts.map Tr.key).drop at_).take m++[ky]:=by
   simp only [List.map_append,List.map_cons,List.map_nil,hky,List.map_take,List.map_drop]
  rw [e7];exact h2
 ·have:=h.size;omega
end
section
open Go.RowKit Go.Maps
attribute [local go_sem] InGr
def PairsRel (X:Px) (L:Nat) (ts:List Tr) (ids ix:List Nat) (gi gk ci ck b3 b4 b8 n nx cp:Nat) (ad:Option Addr) (M:List Nat) (w:World) (v9 v27:Value) (wr:World):Prop :=
 ∃ (X':Px) (j at_ kn:Nat) (CI CK:Array Value) (nids:List Nat) (new:List Tr),v9=.int .i64 at_∧v27=.int .i64 j∧PairsIn X X' L ts ids ix j at_ kn CI CK ci ck nids new ∧
  St w M [pA X',blk gi (.cells (CI) 26),blk gk (.cells (CK) 74),blk b3 (.cells #[.slice (some ⟨gi,0,none⟩) n ci,.slice (some ⟨gk,0,none⟩) n ck] 122),blk b4 (.cells #[.slice none 0 0,.slice none 0 0] 122),blk b8 (.cells #[.slice (some ⟨gi,0,none⟩) kn ci,.slice (some ⟨gk,0,none⟩) kn ck] 122),rowsA encI 3 1 (.slice ad nx cp) ix] wr
structure Hid2 (p q:Prop):Prop where
 out1:p
 out2:q
theorem PairsIn.mid {X X1:Px} {L:Nat} {ts:List Tr} {ids ix:List Nat} {j at_ kn i m a b:Nat} {C K:Array Value} {ci ck:Nat} {nids:List Nat} {new:List Tr} {x y:Tr} (h:PairsIn X X1 L ts ids ix j at_ kn C K ci ck nids new) (hq:DenL X.S ids ts) (hn:PNext X L ts ids ix j at_ i m a b x y) (hci:ids.length<=ci) (hck:ids.length<=ck) :
  Arr (putC C kn (((ids.drop at_).take m).map fI)) ci fI (nids++(ids.drop at_).take m) ids i∧Arr (putC K kn ((((ts.map Tr.key).drop at_).take m).map fU)) ck fU (new.map Tr.key++((ts.map Tr.key).drop at_).take m) (ts.map Tr.key) i:=by
 have hl:=hq.len;have hkn:=h.hkn;have hat:=h.hat;have him:=hn.him;have hin:=hn.hin;have hml:((ids.drop at_).take m).length=m:=(by rw [List.length_take,List.length_drop];omega);have hmk:(((ts.map Tr.key).drop at_).take m).length=m:=(by rw [List.length_take,List.length_drop,List.length_map];omega);have hnew:new.length=kn:=(by rw [← h.den.len,h.nl]);have hnk:(new.map Tr.key).length=kn:=(by rw [List.length_map,hnew]);constructor
 ·have h1:=h.i.app ((ids.drop at_).take m) (a':=i) (by omega) (by rw [hml,h.nl];omega) (by rw [hml,h.nl];omega);rwa [h.nl] at h1
 ·have h1:=h.kk.app (((ts.map Tr.key).drop at_).take m) (a':=i) (by omega) (by rw [hmk,hnk];omega) (by rw [hmk,hnk];omega);rwa [hnk] at h1
theorem PairsIn.short {X X1:Px} {L:Nat} {ts:List Tr} {ids ix:List Nat} {j at_ kn i m a b:Nat} {C K:Array Value} {ci ck:Nat} {nids:List Nat} {new:List Tr} {x y:Tr} (h:PairsIn X X1 L ts ids ix j at_ kn C K ci ck nids new) (hq:DenL X.S ids ts) (hn:PNext X L ts ids ix j at_ i m a b x y):X1.S.list.length+(pairsF (fits L) ts).length<X.S.list.length+ids.length:=by
 have hl:=hq.len;have h1:=h.size;have hnew:new.length=kn:=(by rw [← h.den.len,h.nl]);have h2:=pairs_len (fits L) (ts.drop (i+2));have him:=hn.him;have hin:=hn.hin;rw [h.eqp,hn.eqp];simp only [List.length_append,List.length_cons,List.length_take,List.length_drop] at h2 ⊢;omega
theorem PairsIn.last {X X1:Px} {L:Nat} {ts:List Tr} {ids ix:List Nat} {j at_ kn m:Nat} {C K:Array Value} {ci ck:Nat} {nids:List Nat} {new:List Tr} (h:PairsIn X X1 L ts ids ix j at_ kn C K ci ck nids new) (hq:DenL X.S ids ts) (hX:X.S.Ok) (hj:j=ix.length) (hm:ids.length=at_+m) (hci:ids.length<=ci) (hck:ids.length<=ck) :
  SeqIn X1 (putC C kn (((ids.drop at_).take m).map fI)) (putC K kn ((((ts.map Tr.key).drop at_).take m).map fU)) ci ck (nids++(ids.drop at_).take m) (pairsF (fits L) ts)∧(pairsF (fits L) ts).length=kn+m∧X1.S.list.length+(kn+m)<=X.S.list.length+ids.length:=by
 have hl:=hq.len;have hkn:=h.hkn;have hml:((ids.drop at_).take m).length=m:=(by rw [List.length_take,List.length_drop];omega);have hmk:(((ts.map Tr.key).drop at_).take m).length=m:=(by rw [List.length_take,List.length_drop,List.length_map];omega);have hnew:new.length=kn:=(by rw [← h.den.len,h.nl]);have hnk:(new.map Tr.key).length=kn:=(by rw [List.length_map,hnew]);have hrem:=h.rem;rw [hj,List.drop_length] at hrem;have e:=h.eqp;rw [pairIx_none (F:=fits L) (fun x y=>rfl) _ _ hrem] at e;have et:(ts.drop at_).take m=ts.drop at_:=List.take_of_length_le (by rw [List.length_drop];omega);have hsz:=h.size;refine ⟨⟨?_,?_,?_⟩,?_,by omega⟩
 ·rw [e,← et];exact h.den.append (((hq.le hX h.ext.le).drop at_).take m)
 ·have h1:=h.i.app ((ids.drop at_).take m) (a':=ids.length) (by omega) (by rw [hml,h.nl];omega) (by rw [hml,h.nl];omega);rw [h.nl] at h1;exact h1.forget
 ·have h1:=h.kk.app (((ts.map Tr.key).drop at_).take m) (a':=ids.length) (by omega) (by rw [hmk,hnk];omega) (by rw [hmk,hnk];omega);rw [hnk] at h1;have e7:(pairsF (fits L) ts).map Tr.key=new.map Tr.key++((ts.map Tr.key).drop at_).take m:=by
   rw [e,List.map_append,← et,List.map_take,List.map_drop]
  rw [e7];exact h1.forget
 ·rw [e,List.length_append,hnew,List.length_drop];omega
theorem pk_lt (ts:List Tr):∀ k∈ts.map Tr.key,k<2305843009213693951:=by
 intro k hk;obtain ⟨t,_,rfl⟩:=List.mem_map.1 hk;exact t.key_lt
attribute [local go_sem] StStep stAt stUpon in
theorem pairs_p {X:Px} {gi gk ci ck L:Nat} {CI CK:Array Value} {ids:List Nat} {ts:List Tr} (hX:PxOk X) (hq:SeqIn X CI CK ci ck ids ts) (hL2:2<=L) (hL0:L%2=0) (hLt:L<1152921504606846976) (h1:1<=ids.length) (hlen:ids.length<=65536) (hml:lenL ts<=maxT) (w:World) (h:(((pA X).sep ((blk gi (.cells CI 26)).sep (blk gk (.cells CK 74)))).sep deA).ho w) :
  Calls Tryz.prog 64 #[.pointer (some ⟨X.p,0,none⟩),.agg #[.slice (some ⟨gi,0,none⟩) ids.length ci,.slice (some ⟨gk,0,none⟩) ids.length ck],.int .i64 L] w (SeqPost X gi gk ci ck ids.length (pairsF (fits L) ts) ((pA X).sep ((blk gi (.cells CI 26)).sep (blk gk (.cells CK 74)))).fp w):=by
 rw [sep_ho] at h;obtain ⟨k1,k2,hd⟩:=h;have H:=St.one k1;have HK:Ks w ((pA X).sep ((blk gi (.cells CI 26)).sep (blk gk (.cells CK 74)))).fp [deA]:=⟨by simpa using k2,by simpa using fun b hb hm=>hd b hm hb⟩
 generalize ((pA X).sep ((blk gi (.cells CI 26)).sep (blk gk (.cells CK 74)))).fp=M at *;replace H:=H.sep;replace H:=(H.pick (.there .here)).sep;have hci:=hq.i.len;have hck:=hq.k.len;have hkl:(ts.map Tr.key).length=ids.length:=(by rw [List.length_map,← hq.den.len]);rw [hkl] at hck;obtain ⟨ix,hix⟩:∃ ix,pairIx (fun x y=>fitsN x y L) 0 (ts.map Tr.key)=ix:=⟨_,rfl⟩
 have HRU:Hid (∀ w,(blk gk (.cells CK 74)).ho w->Calls Tryz.prog 99 #[.slice (some ⟨gk,0,none⟩) ids.length ck,.int .i64 L] w fun e w'=>∃ ad cp,e=.returned (.slice ad ix.length cp)∧St w [] [rowsA encI 3 1 (.slice ad ix.length cp) ix] w'):=zh fun w h=>by
  have:=pairs_c hL2 hL0 hLt (arr_row (g:=gk) (cap:=ck) (enc:=encU) (by rw [hkl];unfold maxLen;omega)) (pk_lt ts) (by rw [hkl];exact hlen) (by rw [hkl];exact h1) w (arr_pool (enc:=encU) (fun _=>rfl) h hq.k);rw [hkl,hix] at this;exact this
 have HSTART:Hid (PairsIn X X L ts ids ix 0 0 0 CI CK ci ck [] []):=zh (by rw [← hix];exact PairsIn.start hX hq);have HXL:Hid (ix.length<=ids.length):=zh (by rw [← hix,← hkl];exact pairIx_len _ _ _);have HQ:=zh hq;have HPX:=zh hX;have HML:=zh hml;obtain ⟨n,hn⟩:∃ n,ids.length=n:=⟨_,rfl⟩
 have HN:=zh hn;obtain ⟨nx,hnx⟩:∃ nx,ix.length=nx:=⟨_,rfl⟩
 have HNX:=zh hnx;rw [hn] at hlen h1 hci hck HRU HXL ⊢;rw [hnx] at HRU HXL;have hxl:=HXL.out;clear k1 k2 hd hq hX hml hn hix hkl hL2 hL0 hLt hnx;go_enter Tryz.func64,Tryz.ntmps64;go_wp2_with (first|refine sL ?_|(refine sS ?_;clear H;intros;rename_i H));refine wp_region_h H 8 [(7,122,#[.slice none 0 0,.slice none 0 0],none)] [(7,8)] (by kernel_rfl) (by kernel_rfl) ?_;apply Exists.intro;refine ⟨fun w1 hw1 HX=>?_,fun bs wr Hr=>?_⟩
 ·refine sG ?_;repeat (first|refine sQ ?_|fail|go_big_quiet_step (fail))
  apply wpQuiet_nil;first|refine ⟨fstep_allocT rfl rfl hw1 rfl rfl,?_⟩|refine ⟨fstep_slice1 rfl rfl rfl rfl rfl rfl rfl rfl rfl hw1,?_⟩
  simp only [Act.put,puA,puB,puC];repeat (first|refine sQ ?_|fail|go_big_quiet_step (fail))
  exact wpQuiet_nil rfl
 clear H;have H:=Hr;clear Hr;replace H:=sH H;refine sT ?_;go_wp2_with (first|refine sL ?_|(refine sS ?_;clear H;intros;rename_i H)|(go_at_call 99;with_reducible refine zm (HRU.out _ (H.get pk)) ?_;rintro e wc ⟨ad,cp,rfl,hb⟩;replace H:=zn (H.call0 hb);clear hb));rename_i b3 _ b4 _ _ _ _;obtain ⟨b8,hb8⟩:∃ b8,bs 7=b8:=⟨_,rfl⟩
 simp only [hb8] at H ⊢;clear hb8
 go_loopw [9,27] (fun v9 v27 wr=>PairsRel X L ts ids ix gi gk ci ck b3 b4 b8 n nx cp ad M w v9 v27 wr) (fun _ v27 _=>nx-(intOf v27).toNat)
 case atStart=>exact ⟨X,0,0,0,CI,CK,[],[],rfl,rfl,HSTART.out,H.picks (.cons pk (.cons pk (.cons pk (.cons pk (.cons pk (.cons pk (.cons pk .nil)))))))⟩
 case round =>
  clear H;obtain ⟨X1,j,at_,kn,C1,K1,nids,new,rfl,rfl,hin,H⟩:=hrel;have hjl:=hin.hj;rw [HNX.out] at hjl;have hat:=hin.hat;rw [HN.out] at hat;have hkn:=hin.hkn;have HIN:=zh hin;have HSI:=zh hin.i.size;have HSK:=zh hin.kk.size;have HTL:Hid ((ts.map Tr.key).length=n):=zh (by rw [List.length_map,← HQ.out.den.len,HN.out]);obtain ⟨oi,hoi⟩:∃ o,o=if ci=at_ then 0 else at_:=⟨_,rfl⟩
  obtain ⟨ok,hok⟩:∃ o,o=if ck=at_ then 0 else at_:=⟨_,rfl⟩
  obtain ⟨cri,hcri⟩:∃ o,ci-at_=o:=⟨_,rfl⟩
  obtain ⟨crk,hcrk⟩:∃ o,ck-at_=o:=⟨_,rfl⟩
  have HOI:=zh hoi;have HOK:=zh hok;have HCRI:=zh hcri;have HCRK:=zh hcrk;clear hin hoi hok hcri hcrk;by_cases hlt:j<nx
  ·obtain ⟨i,hij⟩:∃ i,ix[j]?=some i:=⟨_,zg (by rw [HNX.out];exact hlt)⟩
   obtain ⟨m,a,b,x,y,hnx⟩:=HIN.out.next HQ.out.den hij
   have HNXT:=zh hnx;have HIX:=zh hij;have hin2:=hnx.hin;have him:=hnx.him;rw [HN.out] at hin2;obtain ⟨gx,cgx,e9,_,_⟩:=rowsA_cases (H.get (A:=rowsA encI 3 1 (.slice ad nx cp) ix) pk) (by rw [HNX.out];omega);injection e9 with e9 e7 e8
   clear e7;subst e9;subst e8;have HIM:=zh him;have H2CI:Hid2 (i<=ci) (i<=ck):=⟨by omega,by omega⟩
   have HRM:Hid2 (kn+m<=ci) (kn+m<=ck):=⟨by omega,by omega⟩
   have hml1:((ids.drop at_).take m).length=m:=(by rw [List.length_take,List.length_drop,HN.out];omega);have hml2:(((ts.map Tr.key).drop at_).take m).length=m:=(by rw [List.length_take,List.length_drop,HTL.out];omega);have HLI:Hid ((((ids.drop at_).take m).map fI).length=m):=zh (by rw [List.length_map,hml1]);have HLK:Hid (((((ts.map Tr.key).drop at_).take m).map fU).length=m):=zh (by rw [List.length_map,hml2]);have HLTI:Hid (m≠0->at_<ci):=zh fun h=>by omega
   have HLTK:Hid (m≠0->at_<ck):=zh fun h=>by omega
   have HMI:Hid (at_+m<=ids.length):=zh (by rw [HN.out];omega);have HMK2:Hid (at_+m<=(ts.map Tr.key).length):=zh (by rw [HTL.out];omega);have hiL:i+2<=n:=hin2;have hka:kn+m+2<=n:=(by omega);clear hij hnx him hml1 hml2 hin2;go_wp2_with (first|refine sL ?_|(refine sS ?_;clear H;intros;rename_i H)|((with_reducible refine isLoad ?_);refine AtLoad.cel rfl rfl rfl rfl (rowsA_cell1 (H.get (A:=rowsA encI 3 1 (.slice (some ⟨gx,0,none⟩) nx cp) ix) pk) encI_len HIX.out rfl) ?_;simp only [Act.put,puA,puB,puC]));replace H:St w M [blk gi (.cells (C1) 26),pA X1,blk gk (.cells (K1) 74),blk b3 (.cells #[.slice (some ⟨gi,0,none⟩) n ci,.slice (some ⟨gk,0,none⟩) n ck] 122),blk b4 (.cells #[.slice none 0 0,.slice none 0 0] 122),blk b8 (.cells #[.slice (some ⟨gi,0,none⟩) kn ci,.slice (some ⟨gk,0,none⟩) kn ck] 122),rowsA encI 3 1 (.slice (some ⟨gx,0,none⟩) nx cp) ix] _:=H.picks (.cons pk (.cons pk (.cons pk (.cons pk (.cons pk (.cons pk (.cons pk .nil)))))));refine wp_region_sgx 8 [⟨[],fun v _=>v=.pointer (some ⟨b8,0,none⟩)⟩,⟨[0],fun v _=>v=.slice (some ⟨gi,0,none⟩) kn ci⟩,⟨[],fun v _=>v=.pointer (some ⟨b3,0,none⟩)⟩,⟨[2],fun v _=>v=.slice (some ⟨gi,0,none⟩) n ci⟩,⟨[],fun v _=>v=.int .i64 at_⟩,⟨[],fun v _=>v=.int .i64 i⟩,⟨[3,4,5],fun v _=>v=.slice (some ⟨gi,oi,none⟩) m cri⟩,⟨[1,6],fun v _=>v=.slice (some ⟨gi,0,none⟩) (kn+m) ci⟩] [7] [[0],[0],[0],[0],[0],[0],[0],[0]] [fun _ wx=>St w M [blk gi (.cells (C1) 26),pA X1,blk gk (.cells (K1) 74),blk b3 (.cells #[.slice (some ⟨gi,0,none⟩) n ci,.slice (some ⟨gk,0,none⟩) n ck] 122),blk b4 (.cells #[.slice none 0 0,.slice none 0 0] 122),blk b8 (.cells #[.slice (some ⟨gi,0,none⟩) kn ci,.slice (some ⟨gk,0,none⟩) kn ck] 122),rowsA encI 3 1 (.slice (some ⟨gx,0,none⟩) nx cp) ix] wx,fun vals wx=>St w M [blk gi (.cells (putC C1 kn (((ids.drop at_).take m).map fI)) 26),pA X1,blk gk (.cells (K1) 74),blk b3 (.cells #[.slice (some ⟨gi,0,none⟩) n ci,.slice (some ⟨gk,0,none⟩) n ck] 122),blk b4 (.cells #[.slice none 0 0,.slice none 0 0] 122),blk b8 (.cells #[.slice (some ⟨gi,0,none⟩) kn ci,.slice (some ⟨gk,0,none⟩) kn ck] 122),rowsA encI 3 1 (.slice (some ⟨gx,0,none⟩) nx cp) ix] wx]
    [[],[(0,31)],[],[(2,33)],[],[],[(3,34),(4,35),(5,36)],[(1,32),(6,37)]] [(0,31),(1,32),(2,33),(3,34),(4,35),(5,36),(6,37),(7,38)] (by kernel_rfl) (by kernel_rfl) H.drew ⟨⟨qo,trivial⟩,⟨ql,trivial⟩,⟨qo,trivial⟩,⟨ql,trivial⟩,⟨qo,trivial⟩,⟨qo,trivial⟩,⟨?_,trivial⟩,⟨?_,trivial⟩,trivial⟩ ?_
   ·intro vals wx hd HC;simp only [GF] at hd;have H:=HC;simp only [CA] at H;simp only [PS,hd];refine StStep.seg rfl rfl rfl rfl rfl rfl rfl H2CI.out1 (m:=m) (cr:=cri) HIM.out HCRI.out HOI.out ⟨rfl,HC⟩
   ·intro vals wx hd HC;simp only [GF] at hd;have H:=HC;simp only [CA] at H;simp only [PS,hd];clear HC;refine StStep.room rfl rfl rfl rfl rfl rfl H (((ids.drop at_).take m).map fI) HLI.out (seg_new (H.at pk) HIN.out.i (Nat.le_refl _) HOI.out HLTI.out HMI.out) (by intro u hu;obtain ⟨x,_,rfl⟩:=List.mem_map.1 hu;rfl) HRM.out1 HSI.out ?_;intro wz H;exact ⟨rfl,H⟩
   intro vals wx hd HC;simp only [CA] at HC;have H:=HC;clear HC;simp only [GF] at hd;simp only [PS,hd];clear hd;go_wp2_with (first|refine sL ?_|(refine sS ?_;clear H;intros;rename_i H));obtain ⟨Ca,hca⟩:∃ c,putC C1 kn (((ids.drop at_).take m).map fI)=c:=⟨_,rfl⟩
   rw [hca] at H;have HCAE:=zh hca;clear hca;replace H:St w M [blk gk (.cells (K1) 74),pA X1,blk gi (.cells (Ca) 26),blk b3 (.cells #[.slice (some ⟨gi,0,none⟩) n ci,.slice (some ⟨gk,0,none⟩) n ck] 122),blk b4 (.cells #[.slice none 0 0,.slice none 0 0] 122),blk b8 (.cells #[.slice (some ⟨gi,0,none⟩) (kn+m) ci,.slice (some ⟨gk,0,none⟩) kn ck] 122),rowsA encI 3 1 (.slice (some ⟨gx,0,none⟩) nx cp) ix] _:=H.picks (.cons pk (.cons pk (.cons pk (.cons pk (.cons pk (.cons pk (.cons pk .nil)))))));refine wp_region_sgx 8 [⟨[],fun v _=>v=.pointer (some ⟨b8,1,none⟩)⟩,⟨[0],fun v _=>v=.slice (some ⟨gk,0,none⟩) kn ck⟩,⟨[],fun v _=>v=.pointer (some ⟨b3,1,none⟩)⟩,⟨[2],fun v _=>v=.slice (some ⟨gk,0,none⟩) n ck⟩,⟨[],fun v _=>v=.int .i64 at_⟩,⟨[],fun v _=>v=.int .i64 i⟩,⟨[3,4,5],fun v _=>v=.slice (some ⟨gk,ok,none⟩) m crk⟩,⟨[1,6],fun v _=>v=.slice (some ⟨gk,0,none⟩) (kn+m) ck⟩] [7] [[0],[0],[0],[0],[0],[0],[0],[0]] [fun _ wx=>St w M [blk gk (.cells (K1) 74),pA X1,blk gi (.cells (Ca) 26),blk b3 (.cells #[.slice (some ⟨gi,0,none⟩) n ci,.slice (some ⟨gk,0,none⟩) n ck] 122),blk b4 (.cells #[.slice none 0 0,.slice none 0 0] 122),blk b8 (.cells #[.slice (some ⟨gi,0,none⟩) (kn+m) ci,.slice (some ⟨gk,0,none⟩) kn ck] 122),rowsA encI 3 1 (.slice (some ⟨gx,0,none⟩) nx cp) ix] wx,fun vals wx=>St w M [blk gk (.cells (putC K1 kn ((((ts.map Tr.key).drop at_).take m).map fU)) 74),pA X1,blk gi (.cells (Ca) 26),blk b3 (.cells #[.slice (some ⟨gi,0,none⟩) n ci,.slice (some ⟨gk,0,none⟩) n ck] 122),blk b4 (.cells #[.slice none 0 0,.slice none 0 0] 122),blk b8 (.cells #[.slice (some ⟨gi,0,none⟩) (kn+m) ci,.slice (some ⟨gk,0,none⟩) kn ck] 122),rowsA encI 3 1 (.slice (some ⟨gx,0,none⟩) nx cp) ix] wx]
    [[],[(0,40)],[],[(2,42)],[],[],[(3,43),(4,44),(5,45)],[(1,41),(6,46)]] [(0,40),(1,41),(2,42),(3,43),(4,44),(5,45),(6,46),(7,47)] (by kernel_rfl) (by kernel_rfl) H.drew ⟨⟨qo,trivial⟩,⟨ql,trivial⟩,⟨qo,trivial⟩,⟨ql,trivial⟩,⟨qo,trivial⟩,⟨qo,trivial⟩,⟨?_,trivial⟩,⟨?_,trivial⟩,trivial⟩ ?_
   ·intro vals wx hd HC;simp only [GF] at hd;have H:=HC;simp only [CA] at H;simp only [PS,hd];refine StStep.seg rfl rfl rfl rfl rfl rfl rfl H2CI.out2 (m:=m) (cr:=crk) HIM.out HCRK.out HOK.out ⟨rfl,HC⟩
   ·intro vals wx hd HC;simp only [GF] at hd;have H:=HC;simp only [CA] at H;simp only [PS,hd];clear HC;refine StStep.room rfl rfl rfl rfl rfl rfl H ((((ts.map Tr.key).drop at_).take m).map fU) HLK.out (seg_new (H.at pk) HIN.out.kk (Nat.le_refl _) HOK.out HLTK.out HMK2.out) (by intro u hu;obtain ⟨x,_,rfl⟩:=List.mem_map.1 hu;rfl) HRM.out2 HSK.out ?_;intro wz H;exact ⟨rfl,H⟩
   intro vals wx hd HC;simp only [CA] at HC;have H:=HC;clear HC;simp only [GF] at hd;simp only [PS,hd];clear hd;go_wp2_with (first|refine sL ?_|(refine sS ?_;clear H;intros;rename_i H));obtain ⟨Ka,hka9⟩:∃ c,putC K1 kn ((((ts.map Tr.key).drop at_).take m).map fU)=c:=⟨_,rfl⟩
   rw [hka9] at H;have HKAE:=zh hka9;clear hka9;have hmid:=HIN.out.mid HQ.out.den HNXT.out (by rw [HN.out];exact hci) (by rw [HN.out];exact hck);rw [HCAE.out,HKAE.out] at hmid;have HA2:=zh hmid.1;have HSI2:=zh hmid.1.size;have HSK2:=zh hmid.2.size;have HCA:Hid (∀ w,(blk gi (.cells (Ca) 26)).ho w->w.cell? ⟨gi,i,none⟩=some (.int .i64 a)):=zh fun w h=>arr_cell h (HA2.out.od i a (Nat.le_refl _) HNXT.out.ia)
   have HCB:Hid (∀ w,(blk gi (.cells (Ca) 26)).ho w->w.cell? ⟨gi,i+1,none⟩=some (.int .i64 b)):=zh fun w h=>arr_cell h (HA2.out.od (i+1) b (Nat.le_succ _) HNXT.out.ib)
   clear hmid;have HC0:Hid (∀ w,(pA X1).ho w->w.cell? ⟨X.p,0,none⟩=some (.pointer (some ⟨X1.s,0,none⟩))):=zh fun w h=>by have:=pA_c0 h;rwa [HIN.out.ext.p] at this
   have HPW:Hid (∀ w,(pA X1).ho w->Calls Tryz.prog 43 #[.pointer (some ⟨X1.s,0,none⟩),.int .i64 a,.int .i64 b] w (MPost X1 (.pair x y) (pA X1).fp w)):=zh fun w h=>pair_p (HNXT.out.da.le HPX.out.ok HIN.out.ext.le) (HNXT.out.db.le HPX.out.ok HIN.out.ext.le) (Nat.le_trans HNXT.out.len HML.out) HIN.out.ok w h
   replace H:St w M [pA X1,blk gi (.cells (Ca) 26),blk gk (.cells (Ka) 74),blk b3 (.cells #[.slice (some ⟨gi,0,none⟩) n ci,.slice (some ⟨gk,0,none⟩) n ck] 122),blk b4 (.cells #[.slice none 0 0,.slice none 0 0] 122),blk b8 (.cells #[.slice (some ⟨gi,0,none⟩) (kn+m) ci,.slice (some ⟨gk,0,none⟩) (kn+m) ck] 122),rowsA encI 3 1 (.slice (some ⟨gx,0,none⟩) nx cp) ix] _:=H.picks (.cons pk (.cons pk (.cons pk (.cons pk (.cons pk (.cons pk (.cons pk .nil)))))));refine wp_region_sgx 21 [⟨[],fun v _=>v=.pointer (some ⟨X.p,0,none⟩)⟩,⟨[0],fun v _=>v=.pointer (some ⟨X.p,0,none⟩)⟩,⟨[1],fun v _=>v=.pointer (some ⟨X.p,0,none⟩)⟩,⟨[2],fun v _=>v=.pointer (some ⟨X1.s,0,none⟩)⟩,⟨[],fun v _=>v=.pointer (some ⟨b3,0,none⟩)⟩,⟨[4],fun v _=>v=.slice (some ⟨gi,0,none⟩) n ci⟩,⟨[],fun v _=>v=.int .i64 i⟩,⟨[5,6],fun v _=>v=.pointer (some ⟨gi,i,none⟩)⟩,⟨[7],fun v _=>v=.int .i64 a⟩,⟨[],fun v _=>v=.pointer (some ⟨b3,0,none⟩)⟩,⟨[9],fun v _=>v=.slice (some ⟨gi,0,none⟩) n ci⟩,⟨[],fun v _=>v=.int .i64 i⟩,⟨[11],fun v _=>v=.int .i64 ((i:Int)+1)⟩,⟨[10,12],fun v _=>v=.pointer (some ⟨gi,i+1,none⟩)⟩,⟨[13],fun v _=>v=.int .i64 b⟩,⟨[3,8,14],fun v _=>∃ (id:Nat) (c:Option Nat),v=.tuple #[.int .i64 id,errV c]⟩,⟨[15],fun v ds=>ds=[v]⟩,⟨[16],fun v ds=>∃ (id:Nat) (c:Option Nat),ds=[.tuple #[.int .i64 id,errV c]]∧v=.int .i64 id⟩,⟨[16],fun v ds=>∃ (id:Nat) (c:Option Nat),ds=[.tuple #[.int .i64 id,errV c]]∧v=errV c⟩,⟨[17],fun v ds=>ds=[v]⟩,⟨[18],fun v ds=>ds=[v]⟩] [15] [[0],[0],[0],[0],[0],[0],[0],[0],[0],[0],[0],[0],[0],[0],[0],[0],[1],[1],[1],[1],[1]] [fun _ wx=>St w M [pA X1,blk gi (.cells (Ca) 26),blk gk (.cells (Ka) 74),blk b3 (.cells #[.slice (some ⟨gi,0,none⟩) n ci,.slice (some ⟨gk,0,none⟩) n ck] 122),blk b4 (.cells #[.slice none 0 0,.slice none 0 0] 122),blk b8 (.cells #[.slice (some ⟨gi,0,none⟩) (kn+m) ci,.slice (some ⟨gk,0,none⟩) (kn+m) ck] 122),rowsA encI 3 1 (.slice (some ⟨gx,0,none⟩) nx cp) ix] wx,fun vals wx=>∃ (X2:Px) (id:Nat) (c:Option Nat),vals 15=.tuple #[.int .i64 id,errV c]∧MkFact X1 X2 (.pair x y) id c∧St w M [pA X2,blk gi (.cells (Ca) 26),blk gk (.cells (Ka) 74),blk b3 (.cells #[.slice (some ⟨gi,0,none⟩) n ci,.slice (some ⟨gk,0,none⟩) n ck] 122),blk b4 (.cells #[.slice none 0 0,.slice none 0 0] 122),blk b8 (.cells #[.slice (some ⟨gi,0,none⟩) (kn+m) ci,.slice (some ⟨gk,0,none⟩) (kn+m) ck] 122),rowsA encI 3 1 (.slice (some ⟨gx,0,none⟩) nx cp) ix] wx]
    [[],[(0,50)],[(1,51)],[(2,52)],[],[(4,54)],[],[(5,55),(6,56)],[(7,57)],[],[(9,59)],[],[(11,61)],[(10,60),(12,62)],[(13,63)],[(3,53),(8,58),(14,64)],[(15,65)],[(16,49)],[(16,49)],[(17,66)],[(18,67)]] [(0,50),(1,51),(2,52),(3,53),(4,54),(5,55),(6,56),(7,57),(8,58),(9,59),(10,60),(11,61),(12,62),(13,63),(14,64),(15,65),(16,49),(17,66),(18,67),(19,12),(20,13)] (by kernel_rfl) (by kernel_rfl) H.drew ⟨⟨qo,trivial⟩,⟨qo,trivial⟩,⟨qo,trivial⟩,⟨ql,trivial⟩,⟨qo,trivial⟩,⟨ql,trivial⟩,⟨qo,trivial⟩,⟨?_,trivial⟩,⟨ql,trivial⟩,⟨qo,trivial⟩,⟨ql,trivial⟩,⟨qo,trivial⟩,⟨qo,trivial⟩,⟨?_,trivial⟩,⟨ql,trivial⟩,⟨?_,trivial⟩,⟨?_,trivial⟩,⟨?_,trivial⟩,⟨?_,trivial⟩,⟨?_,trivial⟩,⟨?_,trivial⟩,trivial⟩ ?_
   ·intro vals wx hd HC;simp only [GF] at hd;have H:=HC;simp only [CA] at H;simp only [PS,hd];go_simp;rw [if_pos (show i<n by omega)];exact ⟨rfl,HC⟩
   ·intro vals wx hd HC;simp only [GF] at hd;have H:=HC;simp only [CA] at H;simp only [PS,hd];go_simp;rw [if_pos (show (0:Int)<=(i:Int)+1∧(i:Int)+1<(n:Int) by omega)];exact ⟨rfl,HC⟩
   ·intro vals wx hd HC;simp only [GF] at hd;obtain ⟨h3,h8,h14⟩:=hd;have H:=HC;simp only [CA] at H;simp only [PS,h3,h8,h14];clear h3 h8 h14 HC;go_simp;with_reducible refine zm (HPW.out _ (H.get pk)) ?_
    rintro e wc ⟨X2,id,c,rfl,m1,m2,m3,m4,hb⟩;have H2:=(H.pick pk).call hb;exact ⟨_,rfl,⟨id,c,rfl⟩,X2,id,c,rfl,⟨m1,m2,m3,m4⟩,by simpa using H2⟩
   ·intro vals wx hd HC;simp only [GF] at hd;have h15:=hd;clear hd;have H:=HC;simp only [CA] at H;obtain ⟨X2,id,c,hv7,hmk,H⟩:=H;simp only [PS];clear h15;go_simp;first|exact HC|exact ⟨rfl,HC⟩
   ·intro vals wx hd HC;simp only [GF] at hd;have h16:=hd;clear hd;have H:=HC;simp only [CA] at H;obtain ⟨X2,id,c,hv7,hmk,H⟩:=H;simp only [PS];have e8:vals 16=.tuple #[.int .i64 id,errV c]:=(by rw [← hv7];exact X8 (show [vals 15]=[vals 16] from h16));simp only [e8];clear h16;go_simp;first|exact HC|exact ⟨⟨id,c,by simp [e8],rfl⟩,HC⟩|exact ⟨⟨id,rfl,c,rfl⟩,HC⟩|exact ⟨⟨c,⟨id,rfl⟩,rfl⟩,HC⟩|exact ⟨⟨id,c,rfl⟩,HC⟩|exact ⟨⟨id,⟨rfl,c,rfl⟩,rfl⟩,HC⟩|exact ⟨⟨⟨id,rfl⟩,c,rfl⟩,HC⟩|fail "Z9"
   ·intro vals wx hd HC;simp only [GF] at hd;have h16:=hd;clear hd;have H:=HC;simp only [CA] at H;obtain ⟨X2,id,c,hv7,hmk,H⟩:=H;simp only [PS];have e8:vals 16=.tuple #[.int .i64 id,errV c]:=(by rw [← hv7];exact X8 (show [vals 15]=[vals 16] from h16));simp only [e8];clear h16;go_simp;first|exact HC|exact ⟨⟨id,c,by simp [e8],rfl⟩,HC⟩|exact ⟨⟨id,rfl,c,rfl⟩,HC⟩|exact ⟨⟨c,⟨id,rfl⟩,rfl⟩,HC⟩|exact ⟨⟨id,c,rfl⟩,HC⟩|exact ⟨⟨id,⟨rfl,c,rfl⟩,rfl⟩,HC⟩|exact ⟨⟨⟨id,rfl⟩,c,rfl⟩,HC⟩|fail "Z9"
   ·intro vals wx hd HC;simp only [GF] at hd;have h17:=hd;clear hd;have H:=HC;simp only [CA] at H;obtain ⟨X2,id,c,hv7,hmk,H⟩:=H;simp only [PS];clear h17;go_simp;first|exact HC|exact ⟨rfl,HC⟩
   ·intro vals wx hd HC;simp only [GF] at hd;have h18:=hd;clear hd;have H:=HC;simp only [CA] at H;obtain ⟨X2,id,c,hv7,hmk,H⟩:=H;simp only [PS];clear h18;go_simp;first|exact HC|exact ⟨rfl,HC⟩
   intro vals wx hd HC;have h15:=hd.2.2.2.2.2.2.2.2.2.2.2.2.2.2.2.1;have h16:=hd.2.2.2.2.2.2.2.2.2.2.2.2.2.2.2.2.1;have h17:=hd.2.2.2.2.2.2.2.2.2.2.2.2.2.2.2.2.2.1;have h18:=hd.2.2.2.2.2.2.2.2.2.2.2.2.2.2.2.2.2.2.1;have h19:=hd.2.2.2.2.2.2.2.2.2.2.2.2.2.2.2.2.2.2.2.1;have h20:=hd.2.2.2.2.2.2.2.2.2.2.2.2.2.2.2.2.2.2.2.2.1;simp only [CA] at HC;obtain ⟨X2,id,c,hv7,hmk,H⟩:=HC;simp only [GF] at hd;simp only [PS,hd];clear hd;have e8:vals 16=.tuple #[.int .i64 id,errV c]:=(by rw [← hv7];exact X8 (show [vals 15]=[vals 16] from h16));have h9':∃ (i':Nat) (c':Option Nat),[vals 16]=[.tuple #[.int .i64 i',errV c']]∧vals 17=.int .i64 i':=h17;have h10':∃ (i':Nat) (c':Option Nat),[vals 16]=[.tuple #[.int .i64 i',errV c']]∧vals 18=errV c':=h18;have e9:vals 17=.int .i64 id:=by
    obtain ⟨i',c',e,e'⟩:=h9';rw [e8] at e;simp at e;rw [e'];simp [e.1]
   have e10:vals 18=errV c:=by
    obtain ⟨i',c',e,e'⟩:=h10';rw [e8] at e;simp at e;rw [e',e.2]
   have e11:vals 19=.int .i64 id:=(by rw [← e9];exact X8 (show [vals 17]=[vals 19] from h19));have e12:vals 20=errV c:=(by rw [← e10];exact X8 (show [vals 18]=[vals 20] from h20));simp only [hv7,e8,e9,e10,e11,e12];clear e8 e9 e10 e11 e12 h15 h16 h17 h18 h19 h20 hv7 h9' h10';have HMK:=zh hmk;obtain ⟨ky,hky⟩:∃ ky,(Tr.pair x y).key=ky:=⟨_,rfl⟩
   have HKY:=zh hky;rcases hmk.ans with ⟨rfl,hid⟩|⟨rfl,rfl,hs,hmost⟩
   ·have HID:=zh hid;have HAD:Hid (∀ w,((sqA X2 b8 gi gk ci ck (kn+m) Ca Ka).sep deA).ho w->Calls Tryz.prog 96 #[.pointer (some ⟨X.p,0,none⟩),.pointer (some ⟨b8,0,none⟩),.int .i64 id] w (AddPost X2 b8 gi gk ci ck (kn+m) Ca Ka id ky (sqA X2 b8 gi gk ci ck (kn+m) Ca Ka).fp w)):=zh fun w h=>by
     have:=add_p (k:=kn+m) HMK.out.ok HID.out HKY.out (by omega) (by omega) (by omega) HSI2.out HSK2.out w h;rwa [HMK.out.ext.p,HIN.out.ext.p] at this
    clear hmk hky hid;simp only [errV] at *;replace H:=sqA_shut (H.picks (L':=[pA X2,blk b8 (.cells #[.slice (some ⟨gi,0,none⟩) (kn+m) ci,.slice (some ⟨gk,0,none⟩) (kn+m) ck] 122),blk gi (.cells (Ca) 26),blk gk (.cells (Ka) 74),blk b3 (.cells #[.slice (some ⟨gi,0,none⟩) n ci,.slice (some ⟨gk,0,none⟩) n ck] 122),blk b4 (.cells #[.slice none 0 0,.slice none 0 0] 122),rowsA encI 3 1 (.slice (some ⟨gx,0,none⟩) nx cp) ix]) (.cons pk (.cons pk (.cons pk (.cons pk (.cons pk (.cons pk (.cons pk .nil))))))));go_wp2_with (first|refine sL ?_|(refine sS ?_;clear H;intros;rename_i H)|(go_at_call 96;with_reducible refine zm (HAD.out _ (H.sepK HK pk pk)) ?_;rintro e wc ⟨X3,y1,y2,y3,rfl,hb⟩;have HY:=zh (za y1 (za y2 y3));clear y1 y2 y3;replace H:=zn ((H.pick pk).call hb);clear hb;replace H:=sqA_open H));rw [← HCAE.out,← HKAE.out] at H;refine ⟨⟨X3,j+1,i+2,kn+m+1,_,_,_,_,by go_num,by go_num,HIN.out.step HQ.out.den HPX.out.ok HNXT.out HIX.out (HMK.out.ext.trans HY.out.1) HY.out.2.1 (by rw [HY.out.2.2];exact HID.out) HKY.out (by rw [HY.out.2.2];exact HMK.out.len) (by rw [HN.out];exact hci) (by rw [HN.out];exact hck),H.picks (.cons pk (.cons pk (.cons pk (.cons pk (.cons pk (.cons pk (.cons pk .nil)))))))⟩,by simp [intOf];omega⟩
   ·have HS:=zh hs;have HMO:=zh hmost;clear hs hmost hmk hky;simp only [errV,EV] at *;go_wp2_with (first|refine sL ?_|(refine sS ?_;clear H;intros;rename_i H));refine bodyPost_ret (res_row_tmp rfl H rfl pk rfl rfl) rfl ?_;have hsh:=HIN.out.short HQ.out.den HNXT.out;rw [HN.out] at hsh;refine ⟨X2,_,_,HIN.out.ext.trans HMK.out.ext,HMK.out.ok,H.picks (.cons pk (.cons pk (.cons pk .nil))),.inr ⟨rfl,by rw [HS.out];exact HMO.out,by rw [HS.out];exact hsh⟩⟩
  ·obtain rfl:j=nx:=by omega
   obtain ⟨m,hm⟩:∃ m,n=at_+m:=⟨n-at_,by omega⟩
   have HMR:=zh hm;have HRM:Hid2 (kn+m<=ci) (kn+m<=ck):=⟨by omega,by omega⟩
   have hml1:((ids.drop at_).take m).length=m:=(by rw [List.length_take,List.length_drop,HN.out];omega);have hml2:(((ts.map Tr.key).drop at_).take m).length=m:=(by rw [List.length_take,List.length_drop,HTL.out];omega);have HLI:Hid ((((ids.drop at_).take m).map fI).length=m):=zh (by rw [List.length_map,hml1]);have HLK:Hid (((((ts.map Tr.key).drop at_).take m).map fU).length=m):=zh (by rw [List.length_map,hml2]);have HLTI:Hid (m≠0->at_<ci):=zh fun h=>by omega
   have HLTK:Hid (m≠0->at_<ck):=zh fun h=>by omega
   have HMI:Hid (at_+m<=ids.length):=zh (by rw [HN.out];omega);have HMK2:Hid (at_+m<=(ts.map Tr.key).length):=zh (by rw [HTL.out];omega);have hmn:at_+m<=n:=(by omega);clear hm hml1 hml2;go_wp2_with (first|refine sL ?_|(refine sS ?_;clear H;intros;rename_i H));replace H:St w M [blk gi (.cells (C1) 26),pA X1,blk gk (.cells (K1) 74),blk b3 (.cells #[.slice (some ⟨gi,0,none⟩) n ci,.slice (some ⟨gk,0,none⟩) n ck] 122),blk b4 (.cells #[.slice none 0 0,.slice none 0 0] 122),blk b8 (.cells #[.slice (some ⟨gi,0,none⟩) kn ci,.slice (some ⟨gk,0,none⟩) kn ck] 122),rowsA encI 3 1 (.slice ad j cp) ix] _:=H.picks (.cons pk (.cons pk (.cons pk (.cons pk (.cons pk (.cons pk (.cons pk .nil)))))));refine wp_region_sgx 7 [⟨[],fun v _=>v=.pointer (some ⟨b8,0,none⟩)⟩,⟨[0],fun v _=>v=.slice (some ⟨gi,0,none⟩) kn ci⟩,⟨[],fun v _=>v=.pointer (some ⟨b3,0,none⟩)⟩,⟨[2],fun v _=>v=.slice (some ⟨gi,0,none⟩) n ci⟩,⟨[],fun v _=>v=.int .i64 at_⟩,⟨[3,4],fun v _=>v=.slice (some ⟨gi,oi,none⟩) m cri⟩,⟨[1,5],fun v _=>v=.slice (some ⟨gi,0,none⟩) (kn+m) ci⟩] [6] [[0],[0],[0],[0],[0],[0],[0]] [fun _ wx=>St w M [blk gi (.cells (C1) 26),pA X1,blk gk (.cells (K1) 74),blk b3 (.cells #[.slice (some ⟨gi,0,none⟩) n ci,.slice (some ⟨gk,0,none⟩) n ck] 122),blk b4 (.cells #[.slice none 0 0,.slice none 0 0] 122),blk b8 (.cells #[.slice (some ⟨gi,0,none⟩) kn ci,.slice (some ⟨gk,0,none⟩) kn ck] 122),rowsA encI 3 1 (.slice ad j cp) ix] wx,fun vals wx=>St w M [blk gi (.cells (putC C1 kn (((ids.drop at_).take m).map fI)) 26),pA X1,blk gk (.cells (K1) 74),blk b3 (.cells #[.slice (some ⟨gi,0,none⟩) n ci,.slice (some ⟨gk,0,none⟩) n ck] 122),blk b4 (.cells #[.slice none 0 0,.slice none 0 0] 122),blk b8 (.cells #[.slice (some ⟨gi,0,none⟩) kn ci,.slice (some ⟨gk,0,none⟩) kn ck] 122),rowsA encI 3 1 (.slice ad j cp) ix] wx]
    [[],[(0,82)],[],[(2,84)],[],[(3,85),(4,86)],[(1,83),(5,87)]] [(0,82),(1,83),(2,84),(3,85),(4,86),(5,87),(6,88)] (by kernel_rfl) (by kernel_rfl) H.drew ⟨⟨qo,trivial⟩,⟨ql,trivial⟩,⟨qo,trivial⟩,⟨ql,trivial⟩,⟨qo,trivial⟩,⟨?_,trivial⟩,⟨?_,trivial⟩,trivial⟩ ?_
   ·intro vals wx hd HC;simp only [GF] at hd;have H:=HC;simp only [CA] at H;simp only [PS,hd];refine StStep.segL rfl rfl rfl rfl rfl rfl (m:=m) (cr:=cri) HMR.out HCRI.out HOI.out ⟨rfl,HC⟩
   ·intro vals wx hd HC;simp only [GF] at hd;have H:=HC;simp only [CA] at H;simp only [PS,hd];clear HC;refine StStep.room rfl rfl rfl rfl rfl rfl H (((ids.drop at_).take m).map fI) HLI.out (seg_new (H.at pk) HIN.out.i (Nat.le_refl _) HOI.out HLTI.out HMI.out) (by intro u hu;obtain ⟨x,_,rfl⟩:=List.mem_map.1 hu;rfl) HRM.out1 HSI.out ?_;intro wz H;exact ⟨rfl,H⟩
   intro vals wx hd HC;simp only [CA] at HC;have H:=HC;clear HC;simp only [GF] at hd;simp only [PS,hd];clear hd;go_wp2_with (first|refine sL ?_|(refine sS ?_;clear H;intros;rename_i H));obtain ⟨Ca,hca⟩:∃ c,putC C1 kn (((ids.drop at_).take m).map fI)=c:=⟨_,rfl⟩
   rw [hca] at H;have HCAE:=zh hca;clear hca;replace H:St w M [blk gk (.cells (K1) 74),pA X1,blk gi (.cells (Ca) 26),blk b3 (.cells #[.slice (some ⟨gi,0,none⟩) n ci,.slice (some ⟨gk,0,none⟩) n ck] 122),blk b4 (.cells #[.slice none 0 0,.slice none 0 0] 122),blk b8 (.cells #[.slice (some ⟨gi,0,none⟩) (kn+m) ci,.slice (some ⟨gk,0,none⟩) kn ck] 122),rowsA encI 3 1 (.slice ad j cp) ix] _:=H.picks (.cons pk (.cons pk (.cons pk (.cons pk (.cons pk (.cons pk (.cons pk .nil)))))));refine wp_region_sgx 7 [⟨[],fun v _=>v=.pointer (some ⟨b8,1,none⟩)⟩,⟨[0],fun v _=>v=.slice (some ⟨gk,0,none⟩) kn ck⟩,⟨[],fun v _=>v=.pointer (some ⟨b3,1,none⟩)⟩,⟨[2],fun v _=>v=.slice (some ⟨gk,0,none⟩) n ck⟩,⟨[],fun v _=>v=.int .i64 at_⟩,⟨[3,4],fun v _=>v=.slice (some ⟨gk,ok,none⟩) m crk⟩,⟨[1,5],fun v _=>v=.slice (some ⟨gk,0,none⟩) (kn+m) ck⟩] [6] [[0],[0],[0],[0],[0],[0],[0]] [fun _ wx=>St w M [blk gk (.cells (K1) 74),pA X1,blk gi (.cells (Ca) 26),blk b3 (.cells #[.slice (some ⟨gi,0,none⟩) n ci,.slice (some ⟨gk,0,none⟩) n ck] 122),blk b4 (.cells #[.slice none 0 0,.slice none 0 0] 122),blk b8 (.cells #[.slice (some ⟨gi,0,none⟩) (kn+m) ci,.slice (some ⟨gk,0,none⟩) kn ck] 122),rowsA encI 3 1 (.slice ad j cp) ix] wx,fun vals wx=>St w M [blk gk (.cells (putC K1 kn ((((ts.map Tr.key).drop at_).take m).map fU)) 74),pA X1,blk gi (.cells (Ca) 26),blk b3 (.cells #[.slice (some ⟨gi,0,none⟩) n ci,.slice (some ⟨gk,0,none⟩) n ck] 122),blk b4 (.cells #[.slice none 0 0,.slice none 0 0] 122),blk b8 (.cells #[.slice (some ⟨gi,0,none⟩) (kn+m) ci,.slice (some ⟨gk,0,none⟩) kn ck] 122),rowsA encI 3 1 (.slice ad j cp) ix] wx]
    [[],[(0,90)],[],[(2,92)],[],[(3,93),(4,94)],[(1,91),(5,95)]] [(0,90),(1,91),(2,92),(3,93),(4,94),(5,95),(6,96)] (by kernel_rfl) (by kernel_rfl) H.drew ⟨⟨qo,trivial⟩,⟨ql,trivial⟩,⟨qo,trivial⟩,⟨ql,trivial⟩,⟨qo,trivial⟩,⟨?_,trivial⟩,⟨?_,trivial⟩,trivial⟩ ?_
   ·intro vals wx hd HC;simp only [GF] at hd;have H:=HC;simp only [CA] at H;simp only [PS,hd];refine StStep.segL rfl rfl rfl rfl rfl rfl (m:=m) (cr:=crk) HMR.out HCRK.out HOK.out ⟨rfl,HC⟩
   ·intro vals wx hd HC;simp only [GF] at hd;have H:=HC;simp only [CA] at H;simp only [PS,hd];clear HC;refine StStep.room rfl rfl rfl rfl rfl rfl H ((((ts.map Tr.key).drop at_).take m).map fU) HLK.out (seg_new (H.at pk) HIN.out.kk (Nat.le_refl _) HOK.out HLTK.out HMK2.out) (by intro u hu;obtain ⟨x,_,rfl⟩:=List.mem_map.1 hu;rfl) HRM.out2 HSK.out ?_;intro wz H;exact ⟨rfl,H⟩
   intro vals wx hd HC;simp only [CA] at HC;have H:=HC;clear HC;simp only [GF] at hd;simp only [PS,hd];clear hd;go_wp2_with (first|refine sL ?_|(refine sS ?_;clear H;intros;rename_i H));refine bodyPost_ret (res_row_tmp rfl H rfl pk rfl rfl) rfl ?_;rw [← HCAE.out] at H;obtain ⟨hl1,hl2,hl3⟩:=HIN.out.last HQ.out.den HPX.out.ok HNX.out.symm (HN.out.trans HMR.out) (by rw [HN.out];exact hci) (by rw [HN.out];exact hck);rw [HN.out] at hl3;exact ⟨X1,_,_,HIN.out.ext,HIN.out.ok,H.picks (.cons pk (.cons pk (.cons pk .nil))),.inl ⟨_,by rw [hl2];rfl,hl1,by rw [hl2];exact hl3⟩⟩
end
section
open Go.RowKit Go.Maps
attribute [local go_sem] InGr
section
variable {ops:Array Oper} {a:Act} {w w0:World} {M:List Nat} {L:List As} {o:Oper} {Rr:Value->World->Prop}
theorem run_mkroom {t e:TypeId} {n:Nat} {z:Value} {bytes:Nat} (hte:sliceO t=some e) (hi:infoO e=some (z,1,bytes)) (hz:z.cells=#[z]) (hn:n*bytes<=281474976710656) (h63:n<=16777216) (w:World) :
  (Instr.makeSlice t (.int .i64 0) (.int .i64 (n:Int))).run Tryz.prog w=.ok (.slice (some ⟨w.heap.size,0,none⟩) 0 n) (w.alloc (.cells (madeCells #[z] n) e)):=by
 obtain ⟨i,h2,h3,h4,h5⟩:=infoO_ok hi;have hb3:(bytes:Int)*(n:Int)<=281474976710656:=by
  have h9:((n*bytes:Nat):Int)<=281474976710656:=(by omega);rw [Nat.mul_comm] at h9;rwa [Int.natCast_mul] at h9
 have hrun:=run_makeSlice (P:=Tryz.prog) (w:=w) t e i z (sliceO_ok hte) h2 h3 .i64 .i64 0 n (by omega) (by omega) (by rw [h4];simp;omega) (by rw [h5];exact hb3) (by omega);rw [hz,h4] at hrun;simpa only [Int.toNat_natCast,Nat.mul_one,Int.toNat_zero] using hrun
def blkV:Value->Nat
 |.pointer (some ad)=>ad.block
 |.slice (some ad) _ _=>ad.block
 |_=>0
def newA (cs:Array Value) (e:TypeId) (v:Value):As:=blk (blkV v) (.cells cs e)
theorem StStep.mkroom {t e:TypeId} {x y:Operand} {n:Nat} {z:Value} {bytes:Nat} (H:St w0 M L w) (hw:Region.wanted o (yielded ops a.tmps)=true) (ho:o.op=.makeSlice t x y) (hx:a.eval x=.int .i64 0) (hy:a.eval y=.int .i64 (n:Int)) (hte:sliceO t=some e) (hi:infoO e=some (z,1,bytes)) (hz:z.cells=#[z]) (hn:n*bytes<=281474976710656) (h63:n<=16777216)
  (h:∀ b w',St w0 M (newA (madeCells #[z] n) e (.slice (some ⟨b,0,none⟩) 0 n)::L) w'->Rr (.slice (some ⟨b,0,none⟩) 0 n) w'):StStep Tryz.prog ops o a w Rr :=
 StStep.val hw (by unfold execOp;simp only [ho,hx,hy,Sem.run_bind,run_mkroom hte hi hz hn h63 w,Result.andThen_ok];rfl) (h w.heap.size (w.alloc _) (H.alloc _))
end
def encT (x:Nat):List Value:=[.int .u8 x]
theorem encT_len:∀ x,(encT x).length=1:=fun _=>rfl
theorem Arr.fresh {C:Array Value} {cap:Nat} {f:Nat->Value} {a:Nat} (h:C.size=cap):Arr C cap f [] [] a:=⟨h,by simp,by simp⟩
structure LetIn (X X':Px) (text:List Nat) (n k:Nat) (C K:Array Value) (nids:List Nat):Prop where
 ext:X.Ext X'
 ok:PxOk X'
 hk:k<=n
 nl:nids.length=k
 den:DenL X'.S nids ((text.take k).map Tr.leaf)
 i:Arr C n fI nids [] n
 kk:Arr K n fU (((text.take k).map Tr.leaf).map Tr.key) [] n
 size:X'.S.list.length<=X.S.list.length+k
theorem LetIn.step {X X1 X2:Px} {text:List Nat} {n k id b ky:Nat} {C K:Array Value} {nids:List Nat} (h:LetIn X X1 text n k C K nids) (hn:text.length=n) (hb:text[k]?=some b) (ext:X1.Ext X2) (ok:PxOk X2) (hid:Den X2.S id (.leaf b)) (hky:(Tr.leaf b).key=ky) (hsz:X2.S.list.length<=X1.S.list.length+1) :
  LetIn X X2 text n (k+1) (putC C k [.int .i64 id]) (putC K k [.int .u64 ky]) (nids++[id]):=by
 have hk:=gelt hb;have e:text.take (k+1)=text.take k++[b]:=(by rw [List.take_add_one,hb];rfl);have hkl:(((text.take k).map Tr.leaf).map Tr.key).length=k:=(by rw [List.length_map,List.length_map,List.length_take];omega);refine ⟨h.ext.trans ext,ok,by omega,by simp [h.nl],?_,?_,?_,by have:=h.size;omega⟩
 ·rw [e,List.map_append];exact (h.den.le h.ok.ok ext.le).append ⟨hid,trivial⟩
 ·have:=h.i.app [id] (a':=n) (Nat.le_refl _) (by rw [h.nl];simp;omega) (by rw [h.nl];simp;omega);rw [h.nl] at this;exact this
 ·have:=h.kk.app [ky] (a':=n) (Nat.le_refl _) (by rw [hkl];simp;omega) (by rw [hkl];simp;omega);rw [hkl] at this;rw [e,List.map_append,List.map_append];simp only [List.map_cons,List.map_nil,hky];exact this
abbrev LetPost (X:Px) (ts:List Tr) (n:Nat) (M:List Nat) (w:World) (e:Ending) (w':World):Prop :=
 ∃ X':Px,X.Ext X'∧PxOk X'∧((∃ (gi gk:Nat) (CI CK:Array Value) (ids:List Nat),e=.returned (.tuple #[.agg #[.slice (some ⟨gi,0,none⟩) n n,.slice (some ⟨gk,0,none⟩) n n],.nilIface])∧SeqIn X' CI CK n n ids ts∧X'.S.list.length<=X.S.list.length+n∧St w M [pA X',blk gi (.cells CI 26),blk gk (.cells CK 74)] w') ∨
  (e=.returned (.tuple #[.agg #[.slice none 0 0,.slice none 0 0],EV 3])∧X'.S.most<=X'.S.list.length∧X'.S.list.length<X.S.list.length+n∧St w M [pA X'] w'))
def LetRel (X:Px) (text:List Nat) (n gi gk b4 b6:Nat) (M:List Nat) (w:World) (v21:Value) (wr:World):Prop :=
 ∃ (X':Px) (k:Nat) (C K:Array Value) (nids:List Nat),v21=.int .i64 k∧LetIn X X' text n k C K nids∧St w M [pA X',blk b6 (.cells #[.slice (some ⟨gi,0,none⟩) k n,.slice (some ⟨gk,0,none⟩) k n] 122),blk gi (.cells C 26),blk gk (.cells K 74),blk b4 (.cells #[.slice none 0 0,.slice none 0 0] 122)] wr
attribute [local go_sem] StStep stAt stUpon in
theorem letters_p {X:Px} {P:PoolT} {text:List Nat} {v:Value} (hX:PxOk X) (hr:RowIn P encT 1 v text) (hb:∀ x∈text,x<256) (h1:1<=text.length) (hlen:text.length<=65536) (w:World) (hd:((pA X).sep deA).ho w) (hp:((pA X).sep (poolA P)).ho w) :
  Calls Tryz.prog 62 #[.pointer (some ⟨X.p,0,none⟩),v] w (LetPost X (text.map Tr.leaf) text.length (pA X).fp w):=by
 obtain ⟨g,of,c,rfl,_⟩:=hr.has (by omega);rw [sep_ho] at hd hp;have H:=St.one hd.1;have HK:Ks w (pA X).fp [deA,poolA P]:=⟨fun A hA=>by
   simp at hA;rcases hA with rfl|rfl
   ·exact hd.2.1
   ·exact hp.2.1,fun A hA b hbA hm=>by
   simp at hA;rcases hA with rfl|rfl
   ·exact hd.2.2 b hm hbA
   ·exact hp.2.2 b hm hbA⟩
 generalize (pA X).fp=M at *;have HR:=zh hr;have HB:=zh hb;have HPX:=zh hX;obtain ⟨n,hn⟩:∃ n,text.length=n:=⟨_,rfl⟩
 have HN:=zh hn;rw [hn] at hlen h1 HR ⊢;clear hd hp hr hb hX hn;go_enter Tryz.func62,Tryz.ntmps62;go_wp2_with (first|refine sL ?_|(refine sS ?_;clear H;intros;rename_i H));rename_i b4 _ _ _;refine wp_region_rgx H [blk b4 (.cells #[.slice none 0 0,.slice none 0 0] 122),pA X] 8 [⟨[],[],[],fun v _=>v=.slice (some ⟨g,of,none⟩) n c,fun _ _=>[]⟩,⟨[],[],[0],fun v _=>v=.int .i64 n,fun _ _=>[]⟩,⟨[],[],[1],fun v _=>∃ b,v=.slice (some ⟨b,0,none⟩) 0 n,fun v _=>[newA (madeCells #[.int .i64 0] n) 26 v]⟩,⟨[],[],[],fun v _=>v=.slice (some ⟨g,of,none⟩) n c,fun _ _=>[]⟩,⟨[],[],[3],fun v _=>v=.int .i64 n,fun _ _=>[]⟩,⟨[],[],[4],fun v _=>∃ b,v=.slice (some ⟨b,0,none⟩) 0 n,fun v _=>[newA (madeCells #[.int .u64 0] n) 74 v]⟩,⟨[],[],[2,5],fun v l=>∃ p q,l=[.slice (some ⟨p,0,none⟩) 0 n,.slice (some ⟨q,0,none⟩) 0 n]∧v=.agg #[.slice (some ⟨p,0,none⟩) 0 n,.slice (some ⟨q,0,none⟩) 0 n],fun _ _=>[]⟩,⟨[],[],[],fun v _=>∃ b,v=.pointer (some ⟨b,0,none⟩),fun v _=>[newA #[.slice none 0 0,.slice none 0 0] 122 v]⟩] (by kernel_rfl)
  [[],[(0,12)],[(1,13)],[],[(3,15)],[(4,16)],[(2,14),(5,17)],[]] [(0,12),(1,13),(2,14),(3,15),(4,16),(5,17),(6,18),(7,6)] [0,1,2,3,4,5,6,7] (by kernel_rfl) (by kernel_rfl) (by kernel_rfl) ⟨?_,?_,?_,?_,?_,?_,?_,?_,trivial⟩ ?_
 ·intro vals wx X hd H;clear hd;replace H:=sP H;simp only [putS,List.foldl_nil];go_simp;first|exact H|exact ⟨rfl,H⟩
 ·intro vals wx X hd H;have h0:vals 0=.slice (some ⟨g,of,none⟩) n c:=hd.1;clear hd;replace H:=sP H;simp only [putS,List.foldl_nil,List.foldl_cons,Act.put,List.setIfInBounds_toArray,List.set_cons_zero,List.set_cons_succ,h0];clear h0;go_simp;first|exact H|exact ⟨rfl,H⟩
 ·intro vals wx X hd H;have h1:vals 1=.int .i64 n:=hd.1;clear hd;replace H:=sP H;simp only [putS,List.foldl_nil,List.foldl_cons,Act.put,List.setIfInBounds_toArray,List.set_cons_zero,List.set_cons_succ,h1];exact StStep.mkroom (bytes:=8) H rfl rfl rfl rfl rfl rfl rfl (by omega) (by omega) fun b w' H=>⟨⟨b,rfl⟩,H⟩
 ·intro vals wx X hd H;clear hd;replace H:=sP H;simp only [putS,List.foldl_nil];go_simp;first|exact H|exact ⟨rfl,H⟩
 ·intro vals wx X hd H;have h3:vals 3=.slice (some ⟨g,of,none⟩) n c:=hd.1;clear hd;replace H:=sP H;simp only [putS,List.foldl_nil,List.foldl_cons,Act.put,List.setIfInBounds_toArray,List.set_cons_zero,List.set_cons_succ,h3];clear h3;go_simp;first|exact H|exact ⟨rfl,H⟩
 ·intro vals wx X hd H;have h4:vals 4=.int .i64 n:=hd.1;clear hd;replace H:=sP H;simp only [putS,List.foldl_nil,List.foldl_cons,Act.put,List.setIfInBounds_toArray,List.set_cons_zero,List.set_cons_succ,h4];exact StStep.mkroom (bytes:=8) H rfl rfl rfl rfl rfl rfl rfl (by omega) (by omega) fun b w' H=>⟨⟨b,rfl⟩,H⟩
 ·intro vals wx X hd H;have h2:=hd.1;have h5:=hd.2.1;clear hd;replace H:=sP H;simp only [putS,List.foldl_nil,List.foldl_cons,Act.put,List.setIfInBounds_toArray,List.set_cons_zero,List.set_cons_succ];obtain ⟨p,e2⟩:∃ b,vals 2=.slice (some ⟨b,0,none⟩) 0 n:=h2;obtain ⟨q,e5⟩:∃ b,vals 5=.slice (some ⟨b,0,none⟩) 0 n:=h5;have e9:[2,5].map vals=[.slice (some ⟨p,0,none⟩) 0 n,.slice (some ⟨q,0,none⟩) 0 n]:=(by simp only [List.map_cons,List.map_nil,e2,e5]);simp only [e9];rw [e2,e5];clear e2 e5 e9;go_simp;first|exact H|exact ⟨⟨p,q,rfl,rfl⟩,H⟩
 ·intro vals wx X hd H;clear hd;replace H:=sP H;simp only [putS,List.foldl_nil];exact StStep.allocT H rfl rfl rfl rfl fun b w' H=>⟨⟨b,rfl⟩,H⟩
 intro vals wx hd H;have h0:vals 0=.slice (some ⟨g,of,none⟩) n c:=hd.1;have h1:vals 1=.int .i64 n:=hd.2.1;have h2:=hd.2.2.1;have h3:vals 3=.slice (some ⟨g,of,none⟩) n c:=hd.2.2.2.1;have h4:vals 4=.int .i64 n:=hd.2.2.2.2.1;have h5:=hd.2.2.2.2.2.1;have h6:=hd.2.2.2.2.2.2.1;have h7:=hd.2.2.2.2.2.2.2.1;clear hd;replace H:=sP H;simp only [putS,List.foldl_nil,List.foldl_cons,Act.put,List.setIfInBounds_toArray,List.set_cons_zero,List.set_cons_succ,List.drop_succ_cons,List.drop_zero,h0,h1,h3,h4];clear h0 h1 h3 h4;obtain ⟨gi,gk,e9,e6⟩:∃ p q,[2,5].map vals=[.slice (some ⟨p,0,none⟩) 0 n,.slice (some ⟨q,0,none⟩) 0 n]∧vals 6=.agg #[.slice (some ⟨p,0,none⟩) 0 n,.slice (some ⟨q,0,none⟩) 0 n]:=h6;simp only [List.map_cons,List.map_nil,List.cons.injEq,and_true] at e9;obtain ⟨b6,e7⟩:∃ b,vals 7=.pointer (some ⟨b,0,none⟩):=h7;simp only [e9.1,e9.2,e6,e7,newA,blkV] at H ⊢;clear e9 e6 e7 h2 h5;go_wp2_with (first|refine sL ?_|(refine sS ?_;clear H;intros;rename_i H))
 go_loopw [21] (fun v21 wr=>LetRel X text n gi gk b4 b6 M w v21 wr) (fun v21 _=>n-(intOf v21).toNat)
 case atStart=>exact ⟨X,0,_,_,[],rfl,⟨.refl _,HPX.out,Nat.zero_le _,rfl,trivial,Arr.fresh (by have:=congrArg List.length (toList_madeCells_one (.int .i64 0) n);simpa using this),Arr.fresh (by have:=congrArg List.length (toList_madeCells_one (.int .u64 0) n);simpa using this),Nat.le_refl _⟩,H.picks (.cons pk (.cons pk (.cons pk (.cons pk (.cons pk .nil)))))⟩
 case round =>
  clear H;obtain ⟨X1,k,C1,K1,nids,rfl,hin,H⟩:=hrel;have hkl:=hin.hk;have HIN:=zh hin;have HSI:=zh hin.i.size;have HSK:=zh hin.kk.size;clear hin;by_cases hlt:k<n
  ·obtain ⟨b,hb⟩:∃ b,text[k]?=some b:=⟨_,zg (by rw [HN.out];exact hlt)⟩
   have HBX:=zh hb;have HC:Hid (∀ w,(poolA P).ho w->w.cell? ⟨g,of+k,none⟩=some (.int .u8 b)):=zh fun w h=>HR.out.cell h encT_len hb rfl
   have hb2:=HB.out b (List.mem_of_getElem? hb);have HC0:Hid (∀ w,(pA X1).ho w->w.cell? ⟨X.p,0,none⟩=some (.pointer (some ⟨X1.s,0,none⟩))):=zh fun w h=>by have:=pA_c0 h;rwa [HIN.out.ext.p] at this
   have HLT:Hid (∀ w,(pA X1).ho w->Calls Tryz.prog 42 #[.pointer (some ⟨X1.s,0,none⟩),.int .u8 b] w (MPost X1 (.leaf b) (pA X1).fp w)):=zh fun w h=>letter_p b hb2 HIN.out.ok w h
   clear hb;go_wp2_with (first|refine sL ?_|(refine sS ?_;clear H;intros;rename_i H)|((with_reducible refine isLoad ?_);refine AtLoad.cel rfl rfl rfl rfl (HC.out _ (H.known HK pk)) ?_;simp only [Act.put,puA,puB,puC]));with_reducible refine zm (HLT.out _ (H.get pk)) ?_
   rintro e wc ⟨X2,id,c',rfl,m1,m2,m3,m4,hcl⟩;replace H:=(H.pick pk).call hcl;clear hcl;simp only [List.cons_append,List.nil_append] at H;have HE:=zh m1;have HO2:=zh m2;have HM3:=zh m3;rcases m4 with ⟨rfl,hid⟩|⟨rfl,rfl,hs,hmost⟩
   ·obtain ⟨ky,hky⟩:∃ ky,(Tr.leaf b).key=ky:=⟨_,rfl⟩
    have HKY:=zh hky;have HID:=zh hid;have HAD:Hid (∀ w,((sqA X2 b6 gi gk n n k C1 K1).sep deA).ho w->Calls Tryz.prog 96 #[.pointer (some ⟨X.p,0,none⟩),.pointer (some ⟨b6,0,none⟩),.int .i64 id] w (AddPost X2 b6 gi gk n n k C1 K1 id ky (sqA X2 b6 gi gk n n k C1 K1).fp w)):=zh fun w h=>by
     have:=add_p (k:=k) HO2.out HID.out HKY.out (by omega) (by omega) (by omega) HSI.out HSK.out w h;rwa [HE.out.p,HIN.out.ext.p] at this
    clear m1 m2 m3 hid hky;simp only [errV] at *;replace H:=sqA_shut (H.picks (L':=[pA X2,blk b6 (.cells #[.slice (some ⟨gi,0,none⟩) k n,.slice (some ⟨gk,0,none⟩) k n] 122),blk gi (.cells C1 26),blk gk (.cells K1 74),blk b4 (.cells #[.slice none 0 0,.slice none 0 0] 122)]) (.cons pk (.cons pk (.cons pk (.cons pk (.cons pk .nil))))));go_wp2_with (first|refine sL ?_|(refine sS ?_;clear H;intros;rename_i H)|(go_at_call 96;with_reducible refine zm (HAD.out _ (H.sepK HK pk pk)) ?_;rintro e wc ⟨X3,y1,y2,y3,rfl,hb⟩;have HY:=zh (za y1 (za y2 y3));clear y1 y2 y3;replace H:=zn ((H.pick pk).call hb);clear hb;replace H:=sqA_open H));exact ⟨⟨X3,k+1,_,_,_,by go_num,HIN.out.step HN.out HBX.out (HE.out.trans HY.out.1) HY.out.2.1 (by rw [HY.out.2.2];exact HID.out) HKY.out (by rw [HY.out.2.2];exact HM3.out),H.picks (.cons pk (.cons pk (.cons pk (.cons pk (.cons pk .nil)))))⟩,by simp [intOf];omega⟩
   ·have HS:=zh hs;have HMO:=zh hmost;clear hs hmost m1 m2 m3;simp only [errV,EV] at *;go_wp2_with (first|refine sL ?_|(refine sS ?_;clear H;intros;rename_i H));refine bodyPost_ret (res_row_tmp rfl H rfl pk rfl rfl) rfl ?_;exact ⟨X2,HIN.out.ext.trans HE.out,HO2.out,.inr ⟨rfl,by rw [HS.out];exact HMO.out,by rw [HS.out];have:=HIN.out.size;omega,H.picks (.cons pk .nil)⟩⟩
  ·obtain rfl:k=n:=by omega
   go_wp2_with (first|refine sL ?_|(refine sS ?_;clear H;intros;rename_i H));refine bodyPost_ret (res_row_tmp rfl H rfl pk rfl rfl) rfl ?_;have hin:=HIN.out;have htk:text.take k=text:=List.take_of_length_le (by rw [HN.out];exact Nat.le_refl _);have hden:=hin.den;have hkk:=hin.kk;rw [htk] at hden hkk;exact ⟨X1,hin.ext,hin.ok,.inl ⟨gi,gk,C1,K1,nids,rfl,⟨hden,hin.i.forget,hkk.forget⟩,hin.size,H.picks (.cons pk (.cons pk (.cons pk .nil)))⟩⟩
end
section
open Go.RowKit Go.Maps
attribute [local go_sem] InGr
theorem lenL_runs (l:List Tr):lenL (runs l)=lenL l:=by
 have h:=groups_flat l;have h2:∀ g:List (Tr×Nat),lenL (g.map powT)=lenL (g.flatMap fun p=>List.replicate p.2 p.1):=by
  intro g;induction g with
  |nil=>rfl
  |cons p g ih =>
   rw [List.map_cons,lenL_cons,List.flatMap_cons,lenL_append,ih,lenL_rep];congr 1
   unfold powT;split
   ·rename_i h1;rw [h1,Nat.mul_one]
   ·rfl
 unfold runs;rw [h2,h]
theorem lenL_pairs (f:Tr->Tr->Bool):∀ l:List Tr,lenL (pairsF f l)=lenL l
 |[]=>rfl
 |[x]=>rfl
 |x::y::r=>by
  rw [pairsF];split
  ·rw [lenL_cons,lenL_pairs f r,lenL_cons,lenL_cons];show x.len+y.len+_=_
   omega
  ·rw [lenL_cons,lenL_pairs f (y::r),lenL_cons,lenL_cons,lenL_cons]
theorem lenL_step (m:Nat) (l:List Tr):lenL (stepP m l)=lenL l:=by
 unfold stepP;split
 ·exact lenL_runs l
 ·exact lenL_pairs _ l
theorem lenL_seq (s:List Tr):∀ m,lenL (seqP s m)=lenL s
 |0=>rfl
 |m+1=>by rw [seqP,lenL_step,lenL_seq s m]
theorem lenL_leaf (l:List Nat):lenL (l.map Tr.leaf)=l.length:=by
 induction l with
 |nil=>rfl
 |cons x l ih=>rw [List.map_cons,lenL_cons,ih,List.length_cons];show 1+_=_;omega
theorem Canon.pow (T:Tr) (h:Canon T):T.Pow2:=by
 have:=h.pow2 T.lv T;rw [lay_low (Nat.le_refl _)] at this;exact this (by simp)
theorem Canon.one {T:Tr} (h:Canon T) {m:Nat} (hl:(T.lay m).length<=1):T.lay m=[T]:=by
 by_cases hm:m<T.lv
 ·have:=lay_two h.pow hm;omega
 ·exact lay_low (by omega)
theorem Canon.two {T:Tr} (h:Canon T) (hu:T.Upto 25339) {m:Nat} (hl:1<(T.lay m).length):m<25339:=by
 have h1:=hu.lv;by_cases hm:m<T.lv
 ·omega
 ·rw [lay_low (by omega)] at hl;simp at hl
abbrev OfPost (X:Px) (T:Tr) (n:Nat) (M:List Nat) (w:World) (e:Ending) (w':World):Prop :=
 ∃ X':Px,X.Ext X'∧PxOk X'∧X'.S.list.length<=X.S.list.length+2*n∧((∃ id,e=.returned (.tuple #[.int .i64 (id:Nat),.nilIface])∧Den X'.S id T) ∨
  (e=.returned (.tuple #[.int .i64 0,EV 3])∧X'.S.most<=X'.S.list.length))∧St w M [pA X'] w'
structure OfIn (X X':Px) (T:Tr) (n l q:Nat) (C K:Array Value) (ids:List Nat):Prop where
 ext:X.Ext X'
 ok:PxOk X'
 inn:SeqIn X' C K n n ids (T.lay l)
 len:ids.length=q
 pos:1<=q
 size:X'.S.list.length+q<=X.S.list.length+2*n
def OfRel (X:Px) (T:Tr) (n gi gk b6:Nat) (M:List Nat) (w:World) (v8:Value) (wr:World):Prop :=
 ∃ (X':Px) (l q:Nat) (C K:Array Value) (ids:List Nat),v8=.int .i64 (l+1:Nat)∧OfIn X X' T n l q C K ids∧l<=25339∧St w M [pA X',blk b6 (.cells #[.slice (some ⟨gi,0,none⟩) q n,.slice (some ⟨gk,0,none⟩) q n] 122),blk gi (.cells C 26),blk gk (.cells K 74)] wr
theorem of_p {X:Px} {P:PoolT} {text:List Nat} {v:Value} {T:Tr} (hX:PxOk X) (hr:RowIn P encT 1 v text) (hb:∀ x∈text,x<256) (h1:1<=text.length) (hlen:text.length<=65536) (hT:Canon T) (h0:T.lay 0=text.map Tr.leaf) (hU:T.Upto 25339) (w:World) (hd:((pA X).sep deA).ho w) (hp:((pA X).sep (poolA P)).ho w) :
  Calls Tryz.prog 22 #[.pointer (some ⟨X.p,0,none⟩),v] w (OfPost X T text.length (pA X).fp w):=by
 obtain ⟨g,of,c,rfl,_⟩:=hr.has (by omega);have HLE:Hid (∀ w,((pA X).sep deA).ho w->((pA X).sep (poolA P)).ho w->Calls Tryz.prog 62 #[.pointer (some ⟨X.p,0,none⟩),.slice (some ⟨g,of,none⟩) text.length c] w (LetPost X (T.lay 0) text.length (pA X).fp w)):=zh fun w h1' h2'=>by rw [h0];exact letters_p hX hr hb h1 hlen w h1' h2'
 have HC0:Hid (∀ w,(pA X).ho w->w.cell? ⟨X.p,0,none⟩=some (.pointer (some ⟨X.s,0,none⟩))):=zh fun w h=>pA_c0 h
 rw [sep_ho] at hd hp;have H:=St.one hd.1;have HK:Ks w (pA X).fp [deA,poolA P]:=⟨fun A hA=>by
   simp at hA;rcases hA with rfl|rfl
   ·exact hd.2.1
   ·exact hp.2.1,fun A hA b hbA hm=>by
   simp at hA;rcases hA with rfl|rfl
   ·exact hd.2.2 b hm hbA
   ·exact hp.2.2 b hm hbA⟩
 generalize (pA X).fp=M at *;have HML:Hid (∀ l,lenL (T.lay l)<=maxT):=zh fun l=>by
  rw [← hT.seq,h0,lenL_seq,lenL_leaf];unfold maxT;omega
 have HCN:=zh hT;have HUP:=zh hU;have HPX:=zh hX;obtain ⟨n,hn⟩:∃ n,text.length=n:=⟨_,rfl⟩
 have HLN:Hid ((T.lay 0).length=n):=zh (by rw [h0,List.length_map,hn]);rw [hn] at hlen h1 HLE ⊢;clear hd hp hr hb hX hn hT h0 hU;have d0:decide ((65536:Int)<(n:Int))=false:=(by simp;omega);have d1:((n:Int)==0)=false:=(by simp;omega);go_enter Tryz.func22,Tryz.ntmps22;go_wp2_with (first|refine sL ?_|(refine sS ?_;clear H;intros;rename_i H));with_reducible refine zm (HLE.out _ (H.sepK HK pk pk) (H.sepK HK pk pk)) ?_
 rintro e wc ⟨X0,x1,x2,⟨gi,gk,CI,CK,ids,rfl,hs,hsz,hb⟩|⟨rfl,hm,hl,hb⟩⟩;rotate_left
 ·clear H;have H:=hb;clear hb;have HX:=zh (za x1 (za x2 (za hm hl)));clear x1 x2 hm hl;simp only [EV] at *;go_wp2_with (first|refine sL ?_|(refine sS ?_;clear H;intros;rename_i H));go_ret2;exact ⟨X0,HX.out.1,HX.out.2.1,by have:=HX.out.2.2.2;omega,.inr ⟨rfl,HX.out.2.2.1⟩,H.picks (.cons pk .nil)⟩
 ·clear H;have H:=hb;clear hb;have HIN0:Hid (OfIn X X0 T n 0 n CI CK ids):=zh ⟨x1,x2,hs,by rw [hs.den.len,HLN.out],h1,by omega⟩;clear x1 x2 hs hsz;go_wp2_with (first|refine sL ?_|(refine sS ?_;clear H;intros;rename_i H));rename_i b6 _ _ _ _
  go_loopw [8] (fun v8 wr=>OfRel X T n gi gk b6 M w v8 wr) (fun v8 _=>25340-(intOf v8).toNat)
  case atStart=>exact ⟨X0,0,n,CI,CK,ids,rfl,HIN0.out,Nat.zero_le _,H.picks (.cons pk (.cons pk (.cons pk (.cons pk .nil))))⟩
  case round =>
   clear H HIN0;obtain ⟨X1,l,q,C1,K1,ids1,rfl,hin,hl2,H⟩:=hrel;have hq1:=hin.pos;have HIN:=zh hin;have hqn:q<=n:=(by have:=hin.inn.i.len;rw [hin.len] at this;exact this);have hql:(T.lay l).length=q:=(by rw [← hin.inn.den.len,hin.len]);have HQL:=zh hql;clear hin hql;by_cases hq:1<q
   ·have hlt:l<25339:=HCN.out.two HUP.out (by rw [HQL.out];exact hq);have d2:decide ((1:Int)<(q:Int))=true:=(by simp;omega);replace H:=((H.picks (L':=[blk gi (.cells C1 26),blk gk (.cells K1 74),pA X1,blk b6 (.cells #[.slice (some ⟨gi,0,none⟩) q n,.slice (some ⟨gk,0,none⟩) q n] 122)]) (.cons pk (.cons pk (.cons pk (.cons pk .nil))))).join.pick2 (A:=pA X1) (B:=(blk gi (.cells C1 26)).sep (blk gk (.cells K1 74))) pk pk).join;by_cases hpar:(l+1)%2=1
    ·have HRU:Hid (∀ w,(((pA X1).sep ((blk gi (.cells C1 26)).sep (blk gk (.cells K1 74)))).sep deA).ho w->Calls Tryz.prog 63 #[.pointer (some ⟨X.p,0,none⟩),.agg #[.slice (some ⟨gi,0,none⟩) q n,.slice (some ⟨gk,0,none⟩) q n]] w (SeqPost X1 gi gk n n q (T.lay (l+1)) ((pA X1).sep ((blk gi (.cells C1 26)).sep (blk gk (.cells K1 74)))).fp w)):=zh fun w h=>by
      have:=runs_p HIN.out.ok HIN.out.inn (by rw [HIN.out.len];exact hq1) (by rw [HIN.out.len];omega) (HML.out l) w h;rw [HIN.out.len,HIN.out.ext.p] at this;have hst:=HCN.out.step l;rw [stepP,if_pos hpar] at hst;rwa [hst] at this
     go_wp2_with (first|refine sL ?_|(refine sS ?_;clear H;intros;rename_i H));with_reducible refine zm (HRU.out _ (H.sepK HK pk pk)) ?_
     rintro e wc ⟨X2,C2,K2,y1,y2,hcl,⟨ids2,rfl,hs,hsz⟩|⟨rfl,hmo,hsz⟩⟩
     ·replace H:=(H.pick pk).call hcl;clear hcl;simp only [List.cons_append,List.nil_append] at H;obtain ⟨q2,hq2⟩:∃ q2,(T.lay (l+1)).length=q2:=⟨_,rfl⟩
      have HIN2:Hid (OfIn X X2 T n (l+1) q2 C2 K2 ids2):=zh ⟨HIN.out.ext.trans y1,y2,hs,by rw [hs.den.len,hq2],by rw [← hq2];exact lay_pos HCN.out.pow,by rw [← hq2];have:=HIN.out.size;omega⟩;clear y1 y2 hs hsz;rw [hq2];clear hq2;go_wp2_with (first|refine sL ?_|(refine sS ?_;clear H;intros;rename_i H));exact ⟨⟨X2,l+1,q2,C2,K2,ids2,by go_num,HIN2.out,by omega,H.picks (.cons pk (.cons pk (.cons pk (.cons pk .nil))))⟩,by simp [intOf];omega⟩
     ·replace H:=(H.pick pk).call hcl;clear hcl;simp only [List.cons_append,List.nil_append] at H;have HY:=zh (za y1 (za y2 (za hmo hsz)));clear y1 y2 hmo hsz;simp only [EV] at *;go_wp2_with (first|refine sL ?_|(refine sS ?_;clear H;intros;rename_i H));go_ret2;exact ⟨X2,HIN.out.ext.trans HY.out.1,HY.out.2.1,by have:=HY.out.2.2.2;have:=HIN.out.size;omega,.inr ⟨rfl,HY.out.2.2.1⟩,H.picks (.cons pk .nil)⟩
    ·have HRU:Hid (∀ w,(((pA X1).sep ((blk gi (.cells C1 26)).sep (blk gk (.cells K1 74)))).sep deA).ho w->Calls Tryz.prog 64 #[.pointer (some ⟨X.p,0,none⟩),.agg #[.slice (some ⟨gi,0,none⟩) q n,.slice (some ⟨gk,0,none⟩) q n],.int .i64 ((l:Int)+1)] w (SeqPost X1 gi gk n n q (T.lay (l+1)) ((pA X1).sep ((blk gi (.cells C1 26)).sep (blk gk (.cells K1 74)))).fp w)):=zh fun w h=>by
      have:=pairs_p (L:=l+1) HIN.out.ok HIN.out.inn (by omega) (by omega) (by omega) (by rw [HIN.out.len];exact hq1) (by rw [HIN.out.len];omega) (HML.out l) w h;rw [HIN.out.len,HIN.out.ext.p] at this;have hst:=HCN.out.step l;rw [stepP,if_neg hpar] at hst;rwa [hst] at this
     go_wp2_with (first|refine sL ?_|(refine sS ?_;clear H;intros;rename_i H));with_reducible refine zm (HRU.out _ (H.sepK HK pk pk)) ?_
     rintro e wc ⟨X2,C2,K2,y1,y2,hcl,⟨ids2,rfl,hs,hsz⟩|⟨rfl,hmo,hsz⟩⟩
     ·replace H:=(H.pick pk).call hcl;clear hcl;simp only [List.cons_append,List.nil_append] at H;obtain ⟨q2,hq2⟩:∃ q2,(T.lay (l+1)).length=q2:=⟨_,rfl⟩
      have HIN2:Hid (OfIn X X2 T n (l+1) q2 C2 K2 ids2):=zh ⟨HIN.out.ext.trans y1,y2,hs,by rw [hs.den.len,hq2],by rw [← hq2];exact lay_pos HCN.out.pow,by rw [← hq2];have:=HIN.out.size;omega⟩;clear y1 y2 hs hsz;rw [hq2];clear hq2;go_wp2_with (first|refine sL ?_|(refine sS ?_;clear H;intros;rename_i H));exact ⟨⟨X2,l+1,q2,C2,K2,ids2,by go_num,HIN2.out,by omega,H.picks (.cons pk (.cons pk (.cons pk (.cons pk .nil))))⟩,by simp [intOf];omega⟩
     ·replace H:=(H.pick pk).call hcl;clear hcl;simp only [List.cons_append,List.nil_append] at H;have HY:=zh (za y1 (za y2 (za hmo hsz)));clear y1 y2 hmo hsz;simp only [EV] at *;go_wp2_with (first|refine sL ?_|(refine sS ?_;clear H;intros;rename_i H));go_ret2;exact ⟨X2,HIN.out.ext.trans HY.out.1,HY.out.2.1,by have:=HY.out.2.2.2;have:=HIN.out.size;omega,.inr ⟨rfl,HY.out.2.2.1⟩,H.picks (.cons pk .nil)⟩
   ·obtain rfl:q=1:=by omega
    have hone:=HCN.out.one (m:=l) (by rw [HQL.out];exact Nat.le_refl _);have hin:=HIN.out;have hden:=hin.inn.den;rw [hone] at hden;obtain ⟨id,hid⟩:∃ id,ids1=[id]:=by
     have:=hin.len;cases ids1 with
     |nil=>simp at this
     |cons a r=>cases r with
      |nil=>exact ⟨a,rfl⟩
      |cons _ _=>simp at this
    subst hid;have HID:=zh hden.1;have HC:Hid (∀ w,(blk gi (.cells C1 26)).ho w->w.cell? ⟨gi,0,none⟩=some (.int .i64 id)):=zh fun w h=>arr_cell h (HIN.out.inn.i.nw 0 id rfl)
    clear hone hin hden;go_wp2_with (first|refine sL ?_|(refine sS ?_;clear H;intros;rename_i H));go_ret2;exact ⟨X1,HIN.out.ext,HIN.out.ok,by have:=HIN.out.size;omega,.inl ⟨id,rfl,HID.out⟩,H.picks (.cons pk .nil)⟩
end
section
open Go.RowKit Go.Maps
attribute [local go_sem] InGr
structure Fr where
 id:Nat
 r:Rl
 lev:Nat
 hv:Nat
def Fr.cells (f:Fr):List Value:=[.int .i64 f.id,.int .i64 f.r.kind,.int .u8 f.r.letter,.int .i64 f.r.left,.int .i64 f.r.right,.int .i64 f.r.times,.int .i64 f.lev,.int .i64 f.hv]
def wholeN (r:Rl):Nat:=if r.kind=3 then r.times else 2
def farN (bk:Bool) (f:Fr):Nat:=if f.r.kind=2∧bk=true then f.r.right else f.r.left
def childN (bk:Bool) (f:Fr):Nat:=if f.r.kind=2∧((f.hv=2∧bk=false)∨(f.hv=1∧bk=true)) then f.r.right else f.r.left
theorem whole_c (r:Rl) (w:World):Calls Tryz.prog 173 #[ruleV r] w fun e w'=>e=.returned (.int .i64 (wholeN r))∧St w [] [] w':=by
 have H:=St.nil w [];unfold wholeN ruleV;by_cases h:r.kind=3
 ·rw [if_pos h];have h2:((r.kind:Int)==3)=true:=(by simp;omega);clear h;go_enter Tryz.func173,Tryz.ntmps173;go_wp2_with (first|refine sL ?_|(refine sS ?_;clear H;intros;rename_i H));go_ret;exact ⟨rfl,H.nix⟩
 ·rw [if_neg h];have h2:((r.kind:Int)==3)=false:=(by simp;omega);clear h;go_enter Tryz.func173,Tryz.ntmps173;go_wp2_with (first|refine sL ?_|(refine sS ?_;clear H;intros;rename_i H));go_ret;exact ⟨rfl,H.nix⟩
theorem far_c (f:Fr) (bk:Bool) (w:World):Calls Tryz.prog 159 #[.agg #[.int .i64 f.id,.int .i64 f.r.kind,.int .u8 f.r.letter,.int .i64 f.r.left,.int .i64 f.r.right,.int .i64 f.r.times,.int .i64 f.lev,.int .i64 f.hv],.bool bk] w fun e w'=>e=.returned (.int .i64 (farN bk f))∧St w [] [] w':=by
 have H:=St.nil w [];unfold farN;by_cases h:f.r.kind=2
 ·have h2:((f.r.kind:Int)==2)=true:=(by simp;omega);cases bk with
  |true =>
   rw [if_pos ⟨h,rfl⟩];clear h;go_enter Tryz.func159,Tryz.ntmps159;go_wp2_with (first|refine sL ?_|(refine sS ?_;clear H;intros;rename_i H));go_ret;exact ⟨rfl,H.nix⟩
  |false =>
   rw [if_neg (by simp)];clear h;go_enter Tryz.func159,Tryz.ntmps159;go_wp2_with (first|refine sL ?_|(refine sS ?_;clear H;intros;rename_i H));go_ret;exact ⟨rfl,H.nix⟩
 ·rw [if_neg (fun e=>h e.1)];have h2:((f.r.kind:Int)==2)=false:=(by simp;omega);clear h;go_enter Tryz.func159,Tryz.ntmps159;go_wp2_with (first|refine sL ?_|(refine sS ?_;clear H;intros;rename_i H));go_ret;exact ⟨rfl,H.nix⟩
theorem child_c (f:Fr) (bk:Bool) (w:World):Calls Tryz.prog 160 #[.agg #[.int .i64 f.id,.int .i64 f.r.kind,.int .u8 f.r.letter,.int .i64 f.r.left,.int .i64 f.r.right,.int .i64 f.r.times,.int .i64 f.lev,.int .i64 f.hv],.bool bk] w fun e w'=>e=.returned (.int .i64 (childN bk f))∧St w [] [] w':=by
 have H:=St.nil w [];unfold childN;by_cases h:f.r.kind=2
 ·have h2:((f.r.kind:Int)==2)=true:=(by simp;omega);by_cases h3:f.hv=2
  ·have h4:((f.hv:Int)==2)=true:=(by simp;omega);have h5:((f.hv:Int)==1)=false:=(by simp;omega);cases bk with
   |false =>
    rw [if_pos ⟨h,.inl ⟨h3,rfl⟩⟩];clear h h3;go_enter Tryz.func160,Tryz.ntmps160;go_wp2_with (first|refine sL ?_|(refine sS ?_;clear H;intros;rename_i H));go_ret;exact ⟨rfl,H.nix⟩
   |true =>
    rw [if_neg (by rintro ⟨_,⟨_,e⟩|⟨e,_⟩⟩;cases e;omega)];clear h h3;go_enter Tryz.func160,Tryz.ntmps160;go_wp2_with (first|refine sL ?_|(refine sS ?_;clear H;intros;rename_i H));go_ret;exact ⟨rfl,H.nix⟩
  ·have h4:((f.hv:Int)==2)=false:=(by simp;omega);by_cases h6:f.hv=1
   ·have h5:((f.hv:Int)==1)=true:=(by simp;omega);cases bk with
    |false =>
     rw [if_neg (by rintro ⟨_,⟨e,_⟩|⟨_,e⟩⟩;omega;cases e)];clear h h3 h6;go_enter Tryz.func160,Tryz.ntmps160;go_wp2_with (first|refine sL ?_|(refine sS ?_;clear H;intros;rename_i H));go_ret;exact ⟨rfl,H.nix⟩
    |true =>
     rw [if_pos ⟨h,.inr ⟨h6,rfl⟩⟩];clear h h3 h6;go_enter Tryz.func160,Tryz.ntmps160;go_wp2_with (first|refine sL ?_|(refine sS ?_;clear H;intros;rename_i H));go_ret;exact ⟨rfl,H.nix⟩
   ·have h5:((f.hv:Int)==1)=false:=(by simp;omega);rw [if_neg (by rintro ⟨_,⟨e,_⟩|⟨e,_⟩⟩ <;> omega)];clear h h3 h6;go_enter Tryz.func160,Tryz.ntmps160;go_wp2_with (first|refine sL ?_|(refine sS ?_;clear H;intros;rename_i H));go_ret;exact ⟨rfl,H.nix⟩
 ·have h2:((f.r.kind:Int)==2)=false:=(by simp;omega);rw [if_neg (fun e=>h e.1)];clear h;go_enter Tryz.func160,Tryz.ntmps160;go_wp2_with (first|refine sL ?_|(refine sS ?_;clear H;intros;rename_i H));go_ret;exact ⟨rfl,H.nix⟩
theorem size_p {X:Px} {id:Nat} {t:Tr} (hX:PxOk X) (hd:Den X.S id t) (w:World) (h:(pA X).ho w):Calls Tryz.prog 92 #[.pointer (some ⟨X.p,0,none⟩),.int .i64 id] w fun e w'=>e=.returned (.int .i64 t.len)∧St w [] [] w':=by
 obtain ⟨i,x,rfl,hx,ht⟩:=den_get hd;have hl:=(tr_len hX.ok i x hx).1;rw [ht] at hl;rw [hl];have HK:=Ks.one h;have H:=St.nil w [];have HW:Hid (∀ w,(pA X).ho w->Calls Tryz.prog 40 #[.pointer (some ⟨X.s,0,none⟩),.int .i64 ((i:Int)+1)] w fun e w'=>e=.returned (.tuple #[.agg #[.int .i64 x.w.len,.int .i64 x.w.lines,.int .i64 x.w.head,.int .i64 x.w.tail,.int .u64 x.w.val,.int .u64 x.w.scale],.nilIface])∧St w [] [] w'):=zh fun w h=>by
  exact weight_c (i:=i+1) hx w (pA_sto h)
 have HS:Hid (∀ w,(pA X).ho w->Calls Tryz.prog 53 #[.pointer (some ⟨X.p,0,none⟩)] w fun e w'=>e=.returned (.pointer (some ⟨X.s,0,none⟩))∧w'=w):=zh fun w h=>store_p w h
 clear hl ht hx hd hX h;go_enter Tryz.func92,Tryz.ntmps92;go_wp2_with (first|refine sL ?_|(refine sS ?_;clear H;intros;rename_i H)|(go_at_call 53;refine same (HS.out _ (H.known HK pk)) ?_)|(go_at_call 40;with_reducible refine zm (HW.out _ (H.known HK pk)) ?_;rintro e wc ⟨rfl,hb⟩;replace H:=H.grew hb.below;clear hb));go_ret;exact ⟨rfl,H.nix⟩
end
section
open Go.RowKit Go.Maps
attribute [local go_sem] InGr
attribute [local go_sem] StStep stAt stUpon in
theorem open_c {X:Px} {b o id i a:Nat} {x:En} {t:Tr} {Y:As} (hX:PxOk X) (hd:Den X.S id t) (hl:t.lev=some a) (hi:id=i+1) (hx:X.S.list[i]?=some x) (hcp:∀ w,Y.ho w->w.cell? ⟨b,o,none⟩=some (.pointer (some ⟨X.p,0,none⟩))) (hci:∀ w,Y.ho w->w.cell? ⟨b,o+3,none⟩=some (.int .i64 id)) (w:World) (h1:((pA X).sep deA).ho w) (h2:((pA X).sep Y).ho w) :
  Calls Tryz.prog 158 #[.pointer (some ⟨b,o,none⟩)] w (PPost X (.agg #[.int .i64 id,.int .i64 x.r.kind,.int .u8 x.r.letter,.int .i64 x.r.left,.int .i64 x.r.right,.int .i64 x.r.times,.int .i64 a,.int .i64 (wholeN x.r:Nat)]) (pA X).fp w):=by
 rw [sep_ho] at h1 h2;have H:=St.one h1.1;have HK:Ks w (pA X).fp [deA,Y]:=⟨fun A hA=>by
   simp at hA;rcases hA with rfl|rfl
   ·exact h1.2.1
   ·exact h2.2.1,fun A hA b hbA hm=>by
   simp at hA;rcases hA with rfl|rfl
   ·exact h1.2.2 b hm hbA
   ·exact h2.2.2 b hm hbA⟩
 have HSP:Hid (∀ w,(pA X).ho w->Calls Tryz.prog 53 #[.pointer (some ⟨X.p,0,none⟩)] w fun e w'=>e=.returned (.pointer (some ⟨X.s,0,none⟩))∧w'=w):=zh fun w h=>store_p w h
 have HKP:Hid (∀ w,(pA X).ho w->Calls Tryz.prog 174 #[.pointer (some ⟨X.p,0,none⟩)] w fun e w'=>e=.returned (.pointer (some ⟨X.K.t,0,none⟩))∧w'=w):=zh fun w h=>keys_p w h
 have HRU:Hid (∀ w,(pA X).ho w->Calls Tryz.prog 68 #[.pointer (some ⟨X.s,0,none⟩),.int .i64 id] w fun e w'=>e=.returned (.tuple #[.agg #[.int .i64 x.r.kind,.int .u8 x.r.letter,.int .i64 x.r.left,.int .i64 x.r.right,.int .i64 x.r.times],.nilIface])∧St w [] [] w'):=zh fun w h=>rule_c hx id (by omega) w (pA_sto h)
 have HLV:Hid (∀ w,((pA X).sep deA).ho w->Calls Tryz.prog 122 #[.pointer (some ⟨X.K.t,0,none⟩),.int .i64 id] w (PPost X (.tuple #[.int .i64 a,.nilIface]) (pA X).fp w)):=zh fun w h=>by
  have:=level_p hX hd w h;rw [hl] at this;exact this
 have HWH:Hid (∀ w,Calls Tryz.prog 173 #[.agg #[.int .i64 x.r.kind,.int .u8 x.r.letter,.int .i64 x.r.left,.int .i64 x.r.right,.int .i64 x.r.times]] w fun e w'=>e=.returned (.int .i64 (wholeN x.r:Nat))∧St w [] [] w'):=zh fun w=>whole_c x.r w
 have HCP:=zh hcp;have HCI:=zh hci;generalize (pA X).fp=M at H HK ⊢;clear h1 h2 hX hd hl hi hx hcp hci;go_enter Tryz.func158,Tryz.ntmps158;go_wp2_with (first|refine sL ?_|(refine sS ?_;clear H;intros;rename_i H));rename_i b2 _ _ _;replace H:St w M [pA X,blk b2 (.cells #[.int .i64 0,.int .i64 0,.int .u8 0,.int .i64 0,.int .i64 0,.int .i64 0,.int .i64 0,.int .i64 0] 265)] _:=H.picks (.cons pk (.cons pk .nil));refine wp_region_sgx 16 [⟨[],fun v _=>v=.pointer (some ⟨b,o,none⟩)⟩,⟨[0],fun v _=>v=.pointer (some ⟨b,o,none⟩)⟩,⟨[1],fun v _=>v=.pointer (some ⟨b,o,none⟩)⟩,⟨[2],fun v _=>v=.pointer (some ⟨X.p,0,none⟩)⟩,⟨[3],fun v _=>v=.pointer (some ⟨X.s,0,none⟩)⟩,⟨[],fun v _=>v=.pointer (some ⟨b,o,none⟩)⟩,⟨[5],fun v _=>v=.pointer (some ⟨b,o,none⟩)⟩,⟨[6],fun v _=>v=.pointer (some ⟨b,o+3,none⟩)⟩,⟨[7],fun v _=>v=.int .i64 id⟩,⟨[4,8],fun v _=>v=.tuple #[.agg #[.int .i64 x.r.kind,.int .u8 x.r.letter,.int .i64 x.r.left,.int .i64 x.r.right,.int .i64 x.r.times],.nilIface]⟩,⟨[9],fun v _=>v=.tuple #[.agg #[.int .i64 x.r.kind,.int .u8 x.r.letter,.int .i64 x.r.left,.int .i64 x.r.right,.int .i64 x.r.times],.nilIface]⟩,⟨[10],fun v _=>v=.agg #[.int .i64 x.r.kind,.int .u8 x.r.letter,.int .i64 x.r.left,.int .i64 x.r.right,.int .i64 x.r.times]⟩,⟨[10],fun v _=>v=.nilIface⟩,⟨[],fun v _=>∃ b3:Nat,v=.pointer (some ⟨b3,0,none⟩)⟩,⟨[11,13],fun _ _=>True⟩,⟨[12],fun v _=>v=.nilIface⟩] [13,14] [[0,1],[0,1],[0,1],[0,1],[0,1],[0,1],[0,1],[0,1],[0,1],[0,1],[0,1],[0,1],[0,1,2],[0],[1],[2]] [fun _ wx=>St w M [pA X,blk b2 (.cells #[.int .i64 0,.int .i64 0,.int .u8 0,.int .i64 0,.int .i64 0,.int .i64 0,.int .i64 0,.int .i64 0] 265)] wx,fun vals wx=>∃ b3:Nat,vals 13=.pointer (some ⟨b3,0,none⟩)∧St w M [blk b3 (.cells #[.int .i64 0,.int .u8 0,.int .i64 0,.int .i64 0,.int .i64 0] 131),pA X,blk b2 (.cells #[.int .i64 0,.int .i64 0,.int .u8 0,.int .i64 0,.int .i64 0,.int .i64 0,.int .i64 0,.int .i64 0] 265)] wx,fun vals wx=>∃ b3:Nat,vals 13=.pointer (some ⟨b3,0,none⟩)∧St w M [blk b3 (.cells #[.int .i64 x.r.kind,.int .u8 x.r.letter,.int .i64 x.r.left,.int .i64 x.r.right,.int .i64 x.r.times] 131),pA X,blk b2 (.cells #[.int .i64 0,.int .i64 0,.int .u8 0,.int .i64 0,.int .i64 0,.int .i64 0,.int .i64 0,.int .i64 0] 265)] wx]
  [[],[(0,8)],[(1,9)],[(2,10)],[(3,11)],[],[(5,13)],[(6,14)],[(7,15)],[(4,12),(8,16)],[(9,17)],[(10,7)],[(10,7)],[],[(11,18),(13,3)],[(12,19)]] [(0,8),(1,9),(2,10),(3,11),(4,12),(5,13),(6,14),(7,15),(8,16),(9,17),(10,7),(11,18),(12,19),(13,3),(15,4)] (by kernel_rfl) (by kernel_rfl) H.drew ⟨⟨qo,qo,trivial⟩,⟨qo,qo,trivial⟩,⟨qo,qo,trivial⟩,⟨ql,ql,trivial⟩,⟨?_,?_,trivial⟩,⟨qo,qo,trivial⟩,⟨qo,qo,trivial⟩,⟨qo,qo,trivial⟩,⟨ql,ql,trivial⟩,⟨?_,?_,trivial⟩,⟨qo,qo,trivial⟩,⟨qo,qo,trivial⟩,⟨qo,qo,qo,trivial⟩,⟨?_,trivial⟩,⟨?_,trivial⟩,⟨qo,trivial⟩,trivial⟩ ?_
 ·intro vals wx hd HC;simp only [GF] at hd;have h3:=hd;clear hd;have H:=HC;simp only [CA] at H;simp only [PS,h3];clear h3;go_simp;with_reducible refine zm (HSP.out _ (H.get pk)) ?_
  rintro e wc ⟨rfl,rfl⟩;first|exact ⟨_,rfl,rfl,HC⟩|exact ⟨_,rfl,HC⟩
 ·intro vals wx hd HC;simp only [GF] at hd;have h3:=hd;clear hd;have H:=HC;simp only [CA] at H;obtain ⟨b3,hv,H⟩:=H;simp only [PS,h3];clear h3;go_simp;with_reducible refine zm (HSP.out _ (H.get pk)) ?_
  rintro e wc ⟨rfl,rfl⟩;first|exact ⟨_,rfl,rfl,HC⟩|exact ⟨_,rfl,HC⟩
 ·intro vals wx hd HC;simp only [GF] at hd;obtain ⟨h4,h8⟩:=hd;have H:=HC;simp only [CA] at H;simp only [PS,h4,h8];clear h4 h8 HC;go_simp;with_reducible refine zm (HRU.out _ (H.get pk)) ?_
  rintro e wc ⟨rfl,hb⟩;replace H:=H.grew hb.below;exact ⟨_,rfl,rfl,H⟩
 ·intro vals wx hd HC;simp only [GF] at hd;obtain ⟨h4,h8⟩:=hd;have H:=HC;simp only [CA] at H;obtain ⟨b3,hv,H⟩:=H;simp only [PS,h4,h8];clear h4 h8 HC;go_simp;with_reducible refine zm (HRU.out _ (H.get pk)) ?_
  rintro e wc ⟨rfl,hb⟩;replace H:=H.grew hb.below;exact ⟨_,rfl,rfl,⟨b3,hv,H⟩⟩
 ·intro vals wx hd HC;clear hd;have H:=HC;simp only [CA] at H;simp only [PS];clear HC;refine StStep.allocT H rfl rfl rfl rfl ?_;intro b3 wz H;exact ⟨⟨b3,rfl⟩,b3,rfl,H⟩
 ·intro vals wx hd HC;simp only [GF] at hd;obtain ⟨h11,h13⟩:=hd;have H:=HC;simp only [CA] at H;obtain ⟨b3,hv,H⟩:=H;simp only [PS,h11,hv,h11];refine StStep.storeT rfl rfl rfl rfl rfl rfl H rfl ?_;intro wz H;exact ⟨trivial,b3,hv,H⟩
 intro vals wx hd HC;have h13:=hd.2.2.2.2.2.2.2.2.2.2.2.2.2.1;simp only [CA] at HC;obtain ⟨b3,hv,H⟩:=HC;simp only [GF] at hd;simp only [PS,hd];clear hd;simp only [hv];clear hv;go_wp2_with (first|refine sL ?_|(refine sS ?_;clear H;intros;rename_i H));replace H:St w M [pA X,blk b3 (.cells #[.int .i64 x.r.kind,.int .u8 x.r.letter,.int .i64 x.r.left,.int .i64 x.r.right,.int .i64 x.r.times] 131),blk b2 (.cells #[.int .i64 0,.int .i64 0,.int .u8 0,.int .i64 0,.int .i64 0,.int .i64 0,.int .i64 0,.int .i64 0] 265)] _:=H.picks (.cons pk (.cons pk (.cons pk .nil)));refine wp_region_sgx 15 [⟨[],fun v _=>v=.pointer (some ⟨b,o,none⟩)⟩,⟨[0],fun v _=>v=.pointer (some ⟨b,o,none⟩)⟩,⟨[1],fun v _=>v=.pointer (some ⟨b,o,none⟩)⟩,⟨[2],fun v _=>v=.pointer (some ⟨X.p,0,none⟩)⟩,⟨[3],fun v _=>v=.pointer (some ⟨X.K.t,0,none⟩)⟩,⟨[],fun v _=>v=.pointer (some ⟨b,o,none⟩)⟩,⟨[5],fun v _=>v=.pointer (some ⟨b,o,none⟩)⟩,⟨[6],fun v _=>v=.pointer (some ⟨b,o+3,none⟩)⟩,⟨[7],fun v _=>v=.int .i64 id⟩,⟨[4,8],fun v _=>v=.tuple #[.int .i64 a,.nilIface]⟩,⟨[9],fun v _=>v=.tuple #[.int .i64 a,.nilIface]⟩,⟨[10],fun v _=>v=.int .i64 a⟩,⟨[10],fun v _=>v=.nilIface⟩,⟨[11],fun v _=>v=.int .i64 a⟩,⟨[12],fun v _=>v=.nilIface⟩] [9] [[0],[0],[0],[0],[0],[0],[0],[0],[0],[0],[1],[1],[1],[1],[1]] [fun _ wx=>St w M [pA X,blk b3 (.cells #[.int .i64 x.r.kind,.int .u8 x.r.letter,.int .i64 x.r.left,.int .i64 x.r.right,.int .i64 x.r.times] 131),blk b2 (.cells #[.int .i64 0,.int .i64 0,.int .u8 0,.int .i64 0,.int .i64 0,.int .i64 0,.int .i64 0,.int .i64 0] 265)] wx,fun _ wx=>∃ X2:Px,(X.Ext X2∧PxOk X2∧X2.S=X.S)∧St w M [pA X2,blk b3 (.cells #[.int .i64 x.r.kind,.int .u8 x.r.letter,.int .i64 x.r.left,.int .i64 x.r.right,.int .i64 x.r.times] 131),blk b2 (.cells #[.int .i64 0,.int .i64 0,.int .u8 0,.int .i64 0,.int .i64 0,.int .i64 0,.int .i64 0,.int .i64 0] 265)] wx]
  [[],[(0,21)],[(1,22)],[(2,23)],[(3,24)],[],[(5,26)],[(6,27)],[(7,28)],[(4,25),(8,29)],[(9,30)],[(10,20)],[(10,20)],[(11,31)],[(12,32)]] [(0,21),(1,22),(2,23),(3,24),(4,25),(5,26),(6,27),(7,28),(8,29),(9,30),(10,20),(11,31),(12,32),(13,5),(14,6)] (by kernel_rfl) (by kernel_rfl) H.drew ⟨⟨qo,trivial⟩,⟨qo,trivial⟩,⟨qo,trivial⟩,⟨ql,trivial⟩,⟨?_,trivial⟩,⟨qo,trivial⟩,⟨qo,trivial⟩,⟨qo,trivial⟩,⟨ql,trivial⟩,⟨?_,trivial⟩,⟨qo,trivial⟩,⟨qo,trivial⟩,⟨qo,trivial⟩,⟨qo,trivial⟩,⟨qo,trivial⟩,trivial⟩ ?_
 ·intro vals wx hd HC;simp only [GF] at hd;have h3:=hd;clear hd;have H:=HC;simp only [CA] at H;simp only [PS,h3];clear h3;go_simp;with_reducible refine zm (HKP.out _ (H.get pk)) ?_
  rintro e wc ⟨rfl,rfl⟩;first|exact ⟨_,rfl,rfl,HC⟩|exact ⟨_,rfl,HC⟩
 ·intro vals wx hd HC;simp only [GF] at hd;obtain ⟨h4,h8⟩:=hd;have H:=HC;simp only [CA] at H;simp only [PS,h4,h8];clear h4 h8 HC;go_simp;with_reducible refine zm (HLV.out _ (H.sepK HK pk pk)) ?_
  rintro e wc ⟨X2,y1,y2,y3,rfl,hb⟩;have H2:=(H.pick pk).call hb;exact ⟨_,rfl,rfl,X2,⟨y1,y2,y3⟩,by simpa using H2⟩
 intro vals wx hd HC;simp only [CA] at HC;obtain ⟨X2,hX2,H⟩:=HC;simp only [GF] at hd;simp only [PS,hd];clear hd;have HY:=zh hX2;clear hX2;go_wp2_with (first|refine sL ?_|(refine sS ?_;clear H;intros;rename_i H));refine wp_region_h H 9 [] [] (by kernel_rfl) (by kernel_rfl) ?_;apply Exists.intro;refine ⟨fun w1 hw1 HX=>?_,fun bs wr Hr=>?_⟩
 ·refine sG ?_;repeat (first|go_big_quiet_skip|refine sQ ?_|((with_reducible refine isQLoad ?_);(refine QtLoad.cel rfl rfl rfl rfl (fun y=>HCI.out _ ((HX y).known HK pk)) ?_;simp only [Act.put,puA,puB,puC]))|go_big_quiet_step ((go_at_call 173;with_reducible exact quiet_st_x (HWH.out _)))|go_big_quiet_step (fail))
  exact wpQuiet_nil rfl
 clear H;have H:=Hr;clear Hr;replace H:=sH H;refine sT ?_;go_wp2_with (first|refine sL ?_|(refine sS ?_;clear H;intros;rename_i H));refine bodyPost_ret (res_row rfl H rfl pk rfl) rfl ?_;exact ⟨X2,HY.out.1,HY.out.2.1,HY.out.2.2,rfl,H.picks (.cons pk .nil)⟩
end
section
structure FrOf (S:Sto) (bk:Bool) (q:Tr×Nat) (f:Fr):Prop where
 den:Den S f.id q.1
 lev:q.1.lev=some f.lev
 rule:∃ i x,f.id=i+1∧S.list[i]?=some x∧f.r=x.r
 lt:q.2<(kids q.1).length
 hv:f.hv=if bk then (kids q.1).length-q.2 else q.2+1
theorem FrOf.le {S S':Sto} {bk:Bool} {q:Tr×Nat} {f:Fr} (h:FrOf S bk q f) (hS:S.Ok) (hl:S.Le S'):FrOf S' bk q f:=by
 obtain ⟨i,x,h1,h2,h3⟩:=h.rule;exact ⟨h.den.le hS hl,h.lev,⟨i,x,h1,hl.get h2,h3⟩,h.lt,h.hv⟩
theorem kids_rule {S:Sto} (hS:S.Ok) {i:Nat} {x:En} {t:Tr} (hx:S.list[i]?=some x) (ht:S.tr (i+1)=t) (hk:0<(kids t).length) :
  wholeN x.r=(kids t).length∧((∃ l r u v,x.r=⟨2,0,l,r,0⟩∧t=.pair u v∧Den S l u∧Den S r v)∨(∃ l u k,x.r=⟨3,0,l,0,k⟩∧t=.pow u k∧2<=k∧Den S l u)):=by
 cases rule_of hS hx with
 |letter b hb hr hw h1 =>
  rw [← ht,h1] at hk;simp [kids] at hk
 |pair l r y z hl hr hy hz he hw hs h1 =>
  rw [h1] at ht;subst ht;refine ⟨by rw [he];rfl,.inl ⟨l+1,r+1,_,_,he,rfl,den_of hy,den_of hz⟩⟩
 |pow l k y hl hy h2 he hw hs h1 =>
  rw [h1] at ht;subst ht;refine ⟨by rw [he];simp [wholeN,kids],.inr ⟨l+1,_,k,he,rfl,h2,den_of hy⟩⟩
theorem FrOf.child {S:Sto} (hS:S.Ok) {bk:Bool} {q:Tr×Nat} {f:Fr} (h:FrOf S bk q f):∃ c,(kids q.1)[q.2]?=some c∧Den S (childN bk f) c:=by
 obtain ⟨t,j⟩:=q;obtain ⟨i,x,e1,hx,e2⟩:=h.rule;have hd:=h.den;have hlt:=h.lt;have hhv:=h.hv;simp only at hd hlt hhv;rw [e1] at hd;obtain ⟨_,hc⟩:=kids_rule hS hx hd.2.2 (by omega);rcases hc with ⟨l,r,u,v,he,rfl,du,dv⟩|⟨l,u,k,he,rfl,hk,du⟩
 ·simp only [kids,List.length_cons,List.length_nil] at hlt hhv;have hj:j=0∨j=1:=(by omega);rcases hj with rfl|rfl
  ·refine ⟨u,rfl,?_⟩;unfold childN;rw [e2,he];cases bk with
   |false=>simp only [Bool.false_eq_true,if_false] at hhv;rw [if_neg (by simp [hhv])];exact du
   |true=>simp only [if_true] at hhv;rw [if_neg (by simp [hhv])];exact du
  ·refine ⟨v,rfl,?_⟩;unfold childN;rw [e2,he];cases bk with
   |false=>simp only [Bool.false_eq_true,if_false] at hhv;rw [if_pos (by simp [hhv])];exact dv
   |true=>simp only [if_true] at hhv;rw [if_pos (by simp [hhv])];exact dv
 ·simp only [kids,List.length_replicate] at hlt;refine ⟨u,by simp [kids,List.getElem?_replicate,hlt],?_⟩;unfold childN;rw [e2,he,if_neg (by simp)];exact du
theorem far_den {S:Sto} (hS:S.Ok) {bk:Bool} {t:Tr} {f:Fr} (hd:Den S f.id t) (hr:∃ i x,f.id=i+1∧S.list[i]?=some x∧f.r=x.r) (hk:0<(kids t).length):∃ c,(kids t)[if bk then (kids t).length-1 else 0]?=some c∧Den S (farN bk f) c:=by
 obtain ⟨i,x,e1,hx,e2⟩:=hr;rw [e1] at hd;obtain ⟨_,hc⟩:=kids_rule hS hx hd.2.2 hk;rcases hc with ⟨l,r,u,v,he,rfl,du,dv⟩|⟨l,u,k,he,rfl,hk2,du⟩
 ·unfold farN;rw [e2,he];cases bk with
  |false=>exact ⟨u,rfl,by rw [if_neg (by simp)];exact du⟩
  |true=>exact ⟨v,rfl,by rw [if_pos (by simp)];exact dv⟩
 ·unfold farN;rw [e2,he,if_neg (show ¬ ((3:Nat)=2∧bk=true) from fun e=>by have:=e.1;omega)];refine ⟨u,?_,du⟩;simp only [kids,List.length_replicate,List.getElem?_replicate];rw [if_pos (by cases bk <;> simp <;> omega)]
theorem FrOf.open_ {S:Sto} (hS:S.Ok) {bk:Bool} {id i a:Nat} {x:En} {t:Tr} (hd:Den S id t) (hi:id=i+1) (hx:S.list[i]?=some x) (hl:t.lev=some a) (hk:0<(kids t).length):FrOf S bk (t,if bk then 0 else (kids t).length-1) ⟨id,x.r,a,wholeN x.r⟩:=by
 subst hi;obtain ⟨hw,_⟩:=kids_rule hS hx hd.2.2 hk;refine ⟨hd,hl,⟨i,x,rfl,hx,rfl⟩,?_,?_⟩
 ·simp only;split <;> omega
 ·simp only;rw [hw];cases bk <;> simp;omega
end
section
open Go.RowKit Go.Maps
structure EndAt (cs:Array Value) (o p:Nat) (bk:Bool) (pv:Value) (id ky:Nat):Prop where
 sz:o+5<=cs.size
 c0:cs[o]?=some (.pointer (some ⟨p,0,none⟩))
 c1:cs[o+1]?=some (.bool bk)
 c2:cs[o+2]?=some pv
 c3:cs[o+3]?=some (.int .i64 id)
 c4:cs[o+4]?=some (.int .u64 ky)
structure AlikeBut (cs cs':Array Value) (o:Nat):Prop where
 size:cs'.size=cs.size
 eq:∀ j,j<o∨o+5<=j->cs'[j]?=cs[j]?
theorem AlikeBut.refl (cs:Array Value) (o:Nat):AlikeBut cs cs o:=⟨rfl,fun _ _=>rfl⟩
theorem AlikeBut.trans {a b c:Array Value} {o:Nat} (h:AlikeBut a b o) (k:AlikeBut b c o):AlikeBut a c o:=⟨k.size.trans h.size,fun j hj=>(k.eq j hj).trans (h.eq j hj)⟩
theorem AlikeBut.set (cs:Array Value) (o j:Nat) (v:Value) (h1:o<=j) (h2:j<o+5):AlikeBut cs (cs.setIfInBounds j v) o:=⟨by simp,fun i hi=>by rw [Array.getElem?_setIfInBounds_ne (by omega)]⟩
theorem EndAt.other {cs cs':Array Value} {o o' p:Nat} {bk:Bool} {pv:Value} {id ky:Nat} (h:EndAt cs o p bk pv id ky) (ha:AlikeBut cs cs' o') (hd:o+5<=o'∨o'+5<=o):EndAt cs' o p bk pv id ky :=
 ⟨by rw [ha.size];exact h.sz,by rw [ha.eq _ (by omega)];exact h.c0,by rw [ha.eq _ (by omega)];exact h.c1,by rw [ha.eq _ (by omega)];exact h.c2,by rw [ha.eq _ (by omega)];exact h.c3,by rw [ha.eq _ (by omega)];exact h.c4⟩
theorem EndAt.setPath {cs:Array Value} {o p:Nat} {bk:Bool} {pv:Value} {id ky:Nat} (h:EndAt cs o p bk pv id ky) (pv':Value):EndAt (cs.setIfInBounds (o+2) pv') o p bk pv' id ky:=by
 have hs:=h.sz;refine ⟨by simpa using hs,?_,?_,?_,?_,?_⟩
 ·rw [Array.getElem?_setIfInBounds_ne (by omega)];exact h.c0
 ·rw [Array.getElem?_setIfInBounds_ne (by omega)];exact h.c1
 ·rw [Array.getElem?_setIfInBounds_self_of_lt (by omega)]
 ·rw [Array.getElem?_setIfInBounds_ne (by omega)];exact h.c3
 ·rw [Array.getElem?_setIfInBounds_ne (by omega)];exact h.c4
theorem EndAt.setId {cs:Array Value} {o p:Nat} {bk:Bool} {pv:Value} {id ky:Nat} (h:EndAt cs o p bk pv id ky) (id':Nat):EndAt (cs.setIfInBounds (o+3) (.int .i64 id')) o p bk pv id' ky:=by
 have hs:=h.sz;refine ⟨by simpa using hs,?_,?_,?_,?_,?_⟩
 ·rw [Array.getElem?_setIfInBounds_ne (by omega)];exact h.c0
 ·rw [Array.getElem?_setIfInBounds_ne (by omega)];exact h.c1
 ·rw [Array.getElem?_setIfInBounds_ne (by omega)];exact h.c2
 ·rw [Array.getElem?_setIfInBounds_self_of_lt (by omega)]
 ·rw [Array.getElem?_setIfInBounds_ne (by omega)];exact h.c4
theorem EndAt.setKey {cs:Array Value} {o p:Nat} {bk:Bool} {pv:Value} {id ky:Nat} (h:EndAt cs o p bk pv id ky) (ky':Nat):EndAt (cs.setIfInBounds (o+4) (.int .u64 ky')) o p bk pv id ky':=by
 have hs:=h.sz;refine ⟨by simpa using hs,?_,?_,?_,?_,?_⟩
 ·rw [Array.getElem?_setIfInBounds_ne (by omega)];exact h.c0
 ·rw [Array.getElem?_setIfInBounds_ne (by omega)];exact h.c1
 ·rw [Array.getElem?_setIfInBounds_ne (by omega)];exact h.c2
 ·rw [Array.getElem?_setIfInBounds_ne (by omega)];exact h.c3
 ·rw [Array.getElem?_setIfInBounds_self_of_lt (by omega)]
def encFr (f:Fr):List Value:=f.cells
theorem encFr_len:∀ f,(encFr f).length=8:=fun _=>rfl
theorem encFr_one:∀ f,∀ u∈encFr f,u.oneCell'=true:=by
 intro f u hu;simp [encFr,Fr.cells] at hu;rcases hu with rfl|rfl|rfl|rfl|rfl|rfl|rfl|rfl <;> rfl
def PathOf (S:Sto) (bk:Bool):List (Tr×Nat)->List Fr->Prop
 |[],fs=>fs=[]
 |q::p,fs=>∃ fs' f,fs=fs'++[f]∧FrOf S bk q f∧PathOf S bk p fs'
theorem PathOf.le {S S':Sto} {bk:Bool} (hS:S.Ok) (hl:S.Le S'):∀ {p:List (Tr×Nat)} {fs:List Fr},PathOf S bk p fs->PathOf S' bk p fs
 |[],_,h=>h
 |_::_,_,⟨fs',f,h1,h2,h3⟩=>⟨fs',f,h1,h2.le hS hl,PathOf.le hS hl h3⟩
theorem PathOf.len {S:Sto} {bk:Bool}:∀ {p:List (Tr×Nat)} {fs:List Fr},PathOf S bk p fs->fs.length=p.length
 |[],_,h=>by rw [h];rfl
 |_::p,_,⟨fs',f,h1,h2,h3⟩=>by rw [h1,List.length_append,PathOf.len h3];rfl
end
section
open Go.RowKit Go.Maps
attribute [local go_sem] InGr
theorem StStep.storeC {ops:Array Oper} {a:Act} {w w0:World} {M:List Nat} {L:List As} {o:Oper} {Rr:Value->World->Prop} {ty:TypeId} {x y:Operand} {g j:Nat} (hw:Region.wanted o (yielded ops a.tmps)=true) (ho:o.op=.store ty x y) (hx:a.eval x=.pointer (some ⟨g,j,none⟩)) {v:Value} (hr:isCellT ty=true) (hy:evalO a y=some v) (h1:v.oneCell'=true)
  {cs:Array Value} {t:TypeId} (H:St w0 M (blk g (.cells cs t)::L) w) (hl:j<cs.size) (h:∀ w',St w0 M (blk g (.cells (cs.setIfInBounds j v) t)::L) w'->Rr undef w'):StStep Tryz.prog ops o a w Rr:=by
 unfold StStep;rw [if_pos hw];have hc:v.cells=#[v]:=(by cases v <;> first|rfl|cases h1);have hg:w.heap[g]?=some (.cells cs t):=H.at Pick.here;have hr':=run_storeVar_at (P:=Tryz.prog) w g j t ty cs v hg (by rw [hc];exact cellTy_size (isCellT_ok hr)) (by rw [hc];simp;omega) (fun u hu=>by rw [hc] at hu;simp at hu;subst hu;exact h1);have e:(cs.toList.take j++v.cells.toList++cs.toList.drop (j+v.cells.size)).toArray=cs.setIfInBounds j v:=by
  rw [hc];apply Array.ext';simp only [Array.toList_setIfInBounds];rw [List.set_eq_take_append_cons_drop,if_pos (by simpa using hl)];simp
 rw [e] at hr';unfold stAt execOp;simp only [ho,hx,evalO_eq hy,Instr.storeAt,Instr.sureAddr,Sem.run_bind,Sem.run_pure,Result.andThen_ok,hr'];exact h _ (H.setRow Upd.here)
theorem downT_step {bk:Bool} {m:Nat} {p:List (Tr×Nat)} {t c:Tr} (hl:m<t.lv) (hc:(kids t)[if bk then 0 else (kids t).length-1]?=some c):downT bk m p t=downT bk m ((t,if bk then 0 else (kids t).length-1)::p) c:=by
 cases t with
 |leaf b=>simp [kids] at hc
 |pair l r =>
  rw [downT,if_neg (by omega)];cases bk with
  |true=>simp [kids] at hc;subst hc;simp
  |false=>simp [kids] at hc;subst hc;simp [kids]
 |pow s k =>
  rw [downT,if_neg (by omega)];have:c=s:=List.eq_of_mem_replicate (List.mem_of_getElem? hc);subst this;simp [kids]
theorem downT_end {bk:Bool} {m:Nat} {p:List (Tr×Nat)} {t:Tr} (hl:t.lv<=m):downT bk m p t=(p,t):=by
 cases t with
 |leaf b=>rfl
 |pair l r=>rw [downT,if_pos hl]
 |pow s k=>rw [downT,if_pos hl]
structure DownIn (X X':Px) (bk:Bool) (m o lim:Nat) (p:List (Tr×Nat)) (x:Tr) (cs cs':Array Value) (pv':Value) (fs':List Fr) (p':List (Tr×Nat)) (x':Tr) (f:Fr) (ky:Nat):Prop where
 ext:X.Ext X'
 ok:PxOk X'
 same:X'.S=X.S
 at_:EndAt cs' o X.p bk pv' f.id ky
 alike:AlikeBut cs cs' o
 path:PathOf X'.S bk p' fs'
 den:Den X'.S f.id x'
 gd:x'.Gd
 lev:x'.lev=some f.lev
 rule:∃ i en,f.id=i+1∧X'.S.list[i]?=some en∧f.r=en.r
 hv:f.hv=wholeN f.r
 way:downT bk m p' x'=downT bk m p x
 room:fs'.length+x'.lv<=lim
theorem DownIn.fr {X X':Px} {bk:Bool} {m o lim:Nat} {p:List (Tr×Nat)} {x:Tr} {cs cs':Array Value} {pv':Value} {fs':List Fr} {p':List (Tr×Nat)} {x':Tr} {f:Fr} {ky:Nat} (h:DownIn X X' bk m o lim p x cs cs' pv' fs' p' x' f ky) (hl:m<f.lev) :
  FrOf X'.S bk (x',if bk then 0 else (kids x').length-1) f∧∃ c,(kids x')[if bk then 0 else (kids x').length-1]?=some c∧Den X'.S (childN bk f) c∧c.Gd∧c.lv<x'.lv:=by
 obtain ⟨i,en,h1,h2,h3⟩:=h.rule;have hk:2<=(kids x').length:=kids_two h.gd (by rw [lv_of h.lev];omega);have hfr:FrOf X'.S bk (x',if bk then 0 else (kids x').length-1) f:=by
  have:=FrOf.open_ (bk:=bk) h.ok.ok h.den h1 h2 h.lev (by omega);have e:f=⟨f.id,en.r,f.lev,wholeN en.r⟩:=by
   have hv:=h.hv;rw [h3] at hv;rw [← h3];cases f
   simp only at hv h3 ⊢;rw [h3,hv]
  rw [e];exact this
 obtain ⟨c,hc,hd⟩:=hfr.child h.ok.ok;exact ⟨hfr,c,hc,hd,(h.gd.kid (List.mem_of_getElem? hc)).1,(h.gd.kid (List.mem_of_getElem? hc)).2⟩
def DownRel (X:Px) (bk:Bool) (m b o lim:Nat) (ty:TypeId) (p:List (Tr×Nat)) (x:Tr) (cs:Array Value) (M:List Nat) (w:World) (lv:Nat) (v4:Value) (wr:World):Prop :=
 ∃ (X':Px) (cs':Array Value) (pv':Value) (fs':List Fr) (p':List (Tr×Nat)) (x':Tr) (f:Fr) (ky b4:Nat),v4=.pointer (some ⟨b4,0,none⟩)∧lv=x'.lv∧DownIn X X' bk m o lim p x cs cs' pv' fs' p' x' f ky ∧
  St w M [pA X',blk b (.cells cs' ty),rowsA encFr 265 8 pv' fs',blk b4 (.cells #[.int .i64 f.id,.int .i64 f.r.kind,.int .u8 f.r.letter,.int .i64 f.r.left,.int .i64 f.r.right,.int .i64 f.r.times,.int .i64 f.lev,.int .i64 f.hv] 265)] wr
attribute [local go_sem] StStep stAt stUpon in
theorem down_c {X:Px} {bk:Bool} {m b o lim id ky:Nat} {ty:TypeId} {p:List (Tr×Nat)} {x:Tr} {cs:Array Value} {pv:Value} {fs:List Fr} (hX:PxOk X) (he:EndAt cs o X.p bk pv id ky) (hd:Den X.S id x) (hg:x.Gd) (hp:PathOf X.S bk p fs) (hlim:lim<=1048576) (hr:fs.length+x.lv<=lim) (hm:m<9223372036854775808) (w:World) (h:(((pA X).sep ((blk b (.cells cs ty)).sep (rowsA encFr 265 8 pv fs))).sep deA).ho w) :
  Calls Tryz.prog 161 #[.pointer (some ⟨b,o,none⟩),.int .i64 m] w fun e w'=>∃ (X':Px) (cs':Array Value) (pv':Value) (fs':List Fr) (id':Nat),e=.returned (.tuple #[])∧X.Ext X'∧PxOk X'∧X'.S=X.S∧EndAt cs' o X.p bk pv' id' (downT bk m p x).2.key∧AlikeBut cs cs' o∧PathOf X'.S bk (downT bk m p x).1 fs'∧Den X'.S id' (downT bk m p x).2∧St w ((pA X).sep ((blk b (.cells cs ty)).sep (rowsA encFr 265 8 pv fs))).fp [pA X',blk b (.cells cs' ty),rowsA encFr 265 8 pv' fs'] w':=by
 rw [sep_ho] at h;obtain ⟨k1,k2,hdd⟩:=h;have H:=St.one k1;have HK:Ks w ((pA X).sep ((blk b (.cells cs ty)).sep (rowsA encFr 265 8 pv fs))).fp [deA]:=⟨by simpa using k2,by simpa using fun b hb hm=>hdd b hm hb⟩
 generalize ((pA X).sep ((blk b (.cells cs ty)).sep (rowsA encFr 265 8 pv fs))).fp=M at *;replace H:=H.sep;replace H:=(H.pick (.there .here)).sep;obtain ⟨i,en,hi,hx,ht⟩:=den_get hd;obtain ⟨a,ha⟩:=hg.1;have HOP:Hid (∀ w,((pA X).sep deA).ho w->((pA X).sep (blk b (.cells cs ty))).ho w->Calls Tryz.prog 158 #[.pointer (some ⟨b,o,none⟩)] w (PPost X (.agg #[.int .i64 id,.int .i64 en.r.kind,.int .u8 en.r.letter,.int .i64 en.r.left,.int .i64 en.r.right,.int .i64 en.r.times,.int .i64 a,.int .i64 (wholeN en.r:Nat)]) (pA X).fp w)):=zh fun w h1 h2=>open_c hX hd ha hi hx (fun w h=>arr_cell h he.c0) (fun w h=>arr_cell h he.c3) w h1 h2
 have HIN0:Hid (∀ X2:Px,X.Ext X2->PxOk X2->X2.S=X.S->DownIn X X2 bk m o lim p x cs cs pv fs p x ⟨id,en.r,a,wholeN en.r⟩ ky):=zh fun X2 e1 e2 e3=>⟨e1,e2,e3,he,.refl _ _,by rw [e3];exact hp,by rw [e3];exact hd,hg,ha,⟨i,en,hi,by rw [e3];exact hx,rfl⟩,rfl,rfl,hr⟩
 have HLIM:=zh hlim;clear k1 k2 hdd he hd hg hp hi hx ht ha hX hr;go_enter Tryz.func161,Tryz.ntmps161;go_wp2_with (first|refine sL ?_|(refine sS ?_;clear H;intros;rename_i H)|(go_at_call 158;with_reducible refine zm (HOP.out _ (H.sepK HK pk pk) (H.sepO pk pk)) ?_;rintro e wc ⟨X2,y1,y2,y3,rfl,hb⟩;have HY:=zh (za y1 (za y2 y3));clear y1 y2 y3;replace H:=zn ((H.pick pk).call hb);clear hb));rename_i b4 _ _;go_loopg [4] x.lv (fun lv v4 wr=>DownRel X bk m b o lim ty p x cs M w lv v4 wr);case atStart=>exact ⟨X2,cs,pv,fs,p,x,⟨id,en.r,a,wholeN en.r⟩,ky,b4,rfl,rfl,HIN0.out X2 HY.out.1 HY.out.2.1 HY.out.2.2,H.picks (.cons pk (.cons pk (.cons pk (.cons pk .nil))))⟩
 case round =>
  clear H HIN0 HOP HY;obtain ⟨X1,cs1,pv1,fs1,p1,x1,f,ky1,b4,rfl,rfl,hin,H⟩:=hrel;have HIN:=zh hin;have HSZ:Hid (o+5<=cs1.size):=zh hin.at_.sz;by_cases hlt:m<f.lev
  ·obtain ⟨hfr,c,hc,hdc,hcg,hclv⟩:=hin.fr hlt;have HFR:=zh hfr;have HCC:=zh hc;have HDC:=zh hdc;have HCG:=zh hcg;have d1:decide ((m:Int)<(f.lev:Int))=true:=(by simp;omega);clear hin hfr hc hdc hcg;go_wp2_with (first|refine sL ?_|(refine sS ?_;clear H;intros;rename_i H));replace H:St w M [rowsA encFr 265 8 pv1 fs1,pA X1,blk b (.cells cs1 ty),blk b4 (.cells #[.int .i64 f.id,.int .i64 f.r.kind,.int .u8 f.r.letter,.int .i64 f.r.left,.int .i64 f.r.right,.int .i64 f.r.times,.int .i64 f.lev,.int .i64 f.hv] 265)] _:=H.picks (.cons pk (.cons pk (.cons pk (.cons pk .nil))));refine wp_region_sgx 8 [⟨[],fun v _=>v=.pointer (some ⟨b,o,none⟩)⟩,⟨[],fun v _=>v=.pointer (some ⟨b,o,none⟩)⟩,⟨[1],fun v _=>v=.pointer (some ⟨b,o,none⟩)⟩,⟨[2],fun v _=>v=.pointer (some ⟨b,o+2,none⟩)⟩,⟨[3],fun v _=>v=pv1⟩,⟨[],fun v _=>v=.agg #[.int .i64 f.id,.int .i64 f.r.kind,.int .u8 f.r.letter,.int .i64 f.r.left,.int .i64 f.r.right,.int .i64 f.r.times,.int .i64 f.lev,.int .i64 f.hv]⟩,⟨[5],fun v _=>∃ bn:Nat,v=.slice (some ⟨bn,0,none⟩) 1 1⟩,⟨[4,6],fun _ _=>True⟩] [6,7] [[0,1,2],[0,1],[0,1],[0,1],[0,1],[0],[0],[1]] [fun _ wx=>St w M [rowsA encFr 265 8 pv1 fs1,pA X1,blk b (.cells cs1 ty),blk b4 (.cells #[.int .i64 f.id,.int .i64 f.r.kind,.int .u8 f.r.letter,.int .i64 f.r.left,.int .i64 f.r.right,.int .i64 f.r.times,.int .i64 f.lev,.int .i64 f.hv] 265)] wx,fun vals wx=>∃ bn:Nat,vals 6=.slice (some ⟨bn,0,none⟩) 1 1∧St w M [rowsA encFr 265 8 pv1 fs1,rowsA encFr 265 8 (.slice (some ⟨bn,0,none⟩) 1 1) [f],pA X1,blk b (.cells cs1 ty),blk b4 (.cells #[.int .i64 f.id,.int .i64 f.r.kind,.int .u8 f.r.letter,.int .i64 f.r.left,.int .i64 f.r.right,.int .i64 f.r.times,.int .i64 f.lev,.int .i64 f.hv] 265)] wx,fun vals wx=>St w M [rowsA encFr 265 8 (vals 7) (fs1++[f]),pA X1,blk b (.cells cs1 ty),blk b4 (.cells #[.int .i64 f.id,.int .i64 f.r.kind,.int .u8 f.r.letter,.int .i64 f.r.left,.int .i64 f.r.right,.int .i64 f.r.times,.int .i64 f.lev,.int .i64 f.hv] 265)] wx]
    [[],[],[(1,14)],[(2,15)],[(3,16)],[],[(5,18)],[(4,17),(6,19)]] [(0,13),(1,14),(2,15),(3,16),(4,17),(5,18),(6,19),(7,20)] (by kernel_rfl) (by kernel_rfl) H.drew ⟨⟨qo,qo,qo,trivial⟩,⟨qo,qo,trivial⟩,⟨qo,qo,trivial⟩,⟨qo,qo,trivial⟩,⟨?_,?_,trivial⟩,⟨ql,trivial⟩,⟨?_,trivial⟩,⟨?_,trivial⟩,trivial⟩ ?_
   ·intro vals wx hd HC;simp only [GF] at hd;have H:=HC;simp only [CA] at H;simp only [PS,hd];refine StStep.celC rfl rfl rfl rfl (arr_cell (H.get (A:=blk b (.cells cs1 ty)) pk) HIN.out.at_.c2) ⟨rfl,HC⟩
   ·intro vals wx hd HC;simp only [GF] at hd;have H:=HC;simp only [CA] at H;obtain ⟨bn,hv,H⟩:=H;simp only [PS,hd];refine StStep.celC rfl rfl rfl rfl (arr_cell (H.get (A:=blk b (.cells cs1 ty)) pk) HIN.out.at_.c2) ⟨rfl,HC⟩
   ·intro vals wx hd HC;simp only [GF] at hd;have H:=HC;simp only [CA] at H;simp only [PS,hd];clear HC;refine StStep.slice1 (enc:=encFr) H rfl rfl rfl rfl rfl rfl rfl rfl rfl f rfl encFr_len ?_;intro bn wz H;exact ⟨⟨bn,rfl⟩,bn,rfl,H.picks (.cons pk (.cons pk (.cons pk (.cons pk (.cons pk .nil)))))⟩
   ·intro vals wx hd HC;simp only [GF] at hd;have H:=HC;simp only [CA] at H;obtain ⟨bn,hv,H⟩:=H;simp only [PS,hd,hv];refine StStep.append (enc:=encFr) rfl rfl rfl rfl rfl (by decide) (by decide) rfl rfl H (H.get (A:=rowsA encFr 265 8 (.slice (some ⟨bn,0,none⟩) 1 1) [f]) pk) encFr_len encFr_one (by have:=HIN.out.room;have:=HLIM.out;simp;omega) ?_;intro v' wz H;exact ⟨trivial,H.picks (.cons pk (.cons pk (.cons pk (.cons pk .nil))))⟩
   intro vals wx hd HC;have h6:=hd.2.2.2.2.2.2.1;simp only [CA] at HC;have H:=HC;clear HC;simp only [GF] at hd;simp only [PS,hd];clear hd;obtain ⟨ad2,c2,e2,_⟩:=rowsA_shape (H.get (A:=rowsA encFr 265 8 (vals 7) (fs1++[f])) pk);simp only [e2] at H ⊢;clear e2;have hlen:(fs1++[f]).length=fs1.length+1:=(by simp);obtain ⟨n2,hn2⟩:∃ n2,(fs1++[f]).length=n2:=⟨_,rfl⟩
   simp only [hn2] at H ⊢;have hat2:=HIN.out.at_.setPath (.slice ad2 n2 c2);obtain ⟨cs2,hcs2⟩:∃ c,cs1.setIfInBounds (o+2) (.slice ad2 n2 c2)=c:=⟨_,rfl⟩
   have HCS2:=zh hcs2;rw [hcs2] at hat2;have HAT2:=zh hat2;have HSZ2:Hid (o+5<=cs2.size):=zh hat2.sz;have HN2:=zh hn2;clear hat2 hcs2 hn2 hlen;go_wp2_with (first|refine sL ?_|(refine sS ?_;clear H;intros;rename_i H)|((with_reducible refine isStore ?_);refine AtStore.cell H rfl rfl rfl rfl rfl (cellTy_size (isCellT_ok rfl)) (cs:=cs1) pk (by have:=HSZ.out;omega) HCS2.out ?_;clear H;intro _ H;simp only [Act.put,puA,puB,puC]));have HCH:Hid (∀ w,Calls Tryz.prog 160 #[.agg #[.int .i64 f.id,.int .i64 f.r.kind,.int .u8 f.r.letter,.int .i64 f.r.left,.int .i64 f.r.right,.int .i64 f.r.times,.int .i64 f.lev,.int .i64 f.hv],.bool bk] w fun e w'=>e=.returned (.int .i64 (childN bk f))∧St w [] [] w'):=zh fun w=>child_c f bk w
   obtain ⟨ci,hci⟩:∃ ci,childN bk f=ci:=⟨_,rfl⟩
   rw [hci] at HCH HDC;clear hci;refine wp_region_h H 7 [] [] (by kernel_rfl) (by kernel_rfl) ?_;apply Exists.intro;refine ⟨fun w1 hw1 HX=>?_,fun bs wr Hr=>?_⟩
   ·refine sG ?_;repeat (first|go_big_quiet_skip|refine sQ ?_|((with_reducible refine isQLoad ?_);(refine QtLoad.cel rfl rfl rfl rfl (fun y=>arr_cell ((HX y).get (A:=blk b (.cells cs2 ty)) pk) HAT2.out.c1) ?_;simp only [Act.put,puA,puB,puC]))|go_big_quiet_step ((go_at_call 160;with_reducible exact quiet_st_x (HCH.out _)))|go_big_quiet_step (fail))
    exact wpQuiet_nil rfl
   clear H;have H:=Hr;clear Hr;replace H:=sH H;refine sT ?_;have hat3:=HAT2.out.setId ci;obtain ⟨cs3,hcs3⟩:∃ c,cs2.setIfInBounds (o+3) (.int .i64 ci)=c:=⟨_,rfl⟩
   have HCS3:=zh hcs3;rw [hcs3] at hat3;have HAT3:=zh hat3;obtain ⟨i2,en2,hi2,hx2,ht2⟩:=den_get HDC.out;obtain ⟨a2,ha2⟩:=HCG.out.1;have HX2:=zh (za hi2 (za hx2 ha2));have HOP:Hid (∀ w,((pA X1).sep deA).ho w->((pA X1).sep (blk b (.cells cs3 ty))).ho w->Calls Tryz.prog 158 #[.pointer (some ⟨b,o,none⟩)] w (PPost X1 (.agg #[.int .i64 ci,.int .i64 en2.r.kind,.int .u8 en2.r.letter,.int .i64 en2.r.left,.int .i64 en2.r.right,.int .i64 en2.r.times,.int .i64 a2,.int .i64 (wholeN en2.r:Nat)]) (pA X1).fp w)):=zh fun w h1 h2=>open_c HIN.out.ok HDC.out HX2.out.2.2 HX2.out.1 HX2.out.2.1 (fun w h=>by rw [HIN.out.ext.p];exact arr_cell h HAT3.out.c0) (fun w h=>arr_cell h HAT3.out.c3) w h1 h2
   have hac3:AlikeBut cs cs3 o:=by
    have h1:=AlikeBut.set cs1 o (o+2) (.slice ad2 n2 c2) (by omega) (by omega);have h2:=AlikeBut.set cs2 o (o+3) (.int .i64 ci) (by omega) (by omega);rw [HCS2.out] at h1;rw [hcs3] at h2;exact (HIN.out.alike.trans h1).trans h2
   have HAC:=zh hac3;clear hat3 hcs3 hi2 hx2 ht2 ha2 hac3;go_wp2_with (first|refine sL ?_|(refine sS ?_;clear H;intros;rename_i H)|((with_reducible refine isStore ?_);refine AtStore.cell H rfl rfl rfl rfl rfl (cellTy_size (isCellT_ok rfl)) (cs:=cs2) pk (by have:=HSZ2.out;omega) HCS3.out ?_;clear H;intro _ H;simp only [Act.put,puA,puB,puC])|(go_at_call 158;with_reducible refine zm (HOP.out _ (H.sepK HK pk pk) (H.sepO pk pk)) ?_;rintro e wc ⟨X2,y1,y2,y3,rfl,hb⟩;have HY:=zh (za y1 (za y2 y3));clear y1 y2 y3;replace H:=zn ((H.pick pk).call hb);clear hb));go_roundg c.lv;case measure=>exact hclv
   case rel =>
    have hin:=HIN.out;have hy:=HY.out;exact ⟨X2,cs3,_,fs1++[f],_,c,⟨ci,en2.r,a2,wholeN en2.r⟩,ky1,_,rfl,rfl,⟨hin.ext.trans hy.1,hy.2.1,hy.2.2.trans hin.same,HAT3.out,HAC.out,(by rw [hy.2.2];exact ⟨fs1,f,rfl,HFR.out,hin.path⟩:PathOf X2.S bk ((x1,if bk then 0 else (kids x1).length-1)::p1) (fs1++[f])),by rw [hy.2.2];exact HDC.out,HCG.out,HX2.out.2.2,⟨i2,en2,HX2.out.1,by rw [hy.2.2];exact HX2.out.2.1,rfl⟩,rfl,(downT_step (by rw [lv_of hin.lev];exact hlt) HCC.out).symm.trans hin.way,by have:=hin.room;simp;omega⟩,H.picks (.cons pk (.cons pk (.cons pk (.cons pk .nil))))⟩
  ·have d1:decide ((m:Int)<(f.lev:Int))=false:=(by simp;omega);have hend:=downT_end (bk:=bk) (p:=p1) (t:=x1) (m:=m) (by rw [lv_of hin.lev];omega);have hway:=hin.way;rw [hend] at hway;obtain ⟨kk,hkk⟩:∃ kk,x1.key=kk:=⟨_,rfl⟩
   have HKK:=zh hkk;have HKY:Hid (∀ w,(pA X1).ho w->Calls Tryz.prog 174 #[.pointer (some ⟨X.p,0,none⟩)] w fun e w'=>e=.returned (.pointer (some ⟨X1.K.t,0,none⟩))∧w'=w):=zh fun w h=>by
    have:=keys_p w h;rwa [hin.ext.p] at this
   have HKE:Hid (∀ w,((pA X1).sep deA).ho w->Calls Tryz.prog 98 #[.pointer (some ⟨X1.K.t,0,none⟩),.int .i64 f.id] w (PPost X1 (.tuple #[.int .u64 kk,.nilIface]) (pA X1).fp w)):=zh fun w h=>by rw [← HKK.out];exact key_p hin.ok hin.den w h
   have HWAY:=zh hway;clear hin hend hway hkk;go_wp2_with (first|refine sL ?_|(refine sS ?_;clear H;intros;rename_i H));replace H:St w M [blk b (.cells cs1 ty),pA X1,rowsA encFr 265 8 pv1 fs1,blk b4 (.cells #[.int .i64 f.id,.int .i64 f.r.kind,.int .u8 f.r.letter,.int .i64 f.r.left,.int .i64 f.r.right,.int .i64 f.r.times,.int .i64 f.lev,.int .i64 f.hv] 265)] _:=H.picks (.cons pk (.cons pk (.cons pk (.cons pk .nil))));refine wp_region_sgx 17 [⟨[],fun v _=>v=.pointer (some ⟨b,o,none⟩)⟩,⟨[],fun v _=>v=.pointer (some ⟨b,o,none⟩)⟩,⟨[1],fun v _=>v=.pointer (some ⟨b,o,none⟩)⟩,⟨[2],fun v _=>v=.pointer (some ⟨b,o,none⟩)⟩,⟨[3],fun v _=>v=.pointer (some ⟨X.p,0,none⟩)⟩,⟨[4],fun v _=>v=.pointer (some ⟨X1.K.t,0,none⟩)⟩,⟨[],fun v _=>v=.pointer (some ⟨b,o,none⟩)⟩,⟨[6],fun v _=>v=.pointer (some ⟨b,o,none⟩)⟩,⟨[7],fun v _=>v=.pointer (some ⟨b,o+3,none⟩)⟩,⟨[8],fun v _=>v=.int .i64 f.id⟩,⟨[5,9],fun v _=>v=.tuple #[.int .u64 kk,.nilIface]⟩,⟨[10],fun v _=>v=.tuple #[.int .u64 kk,.nilIface]⟩,⟨[11],fun v _=>v=.int .u64 kk⟩,⟨[11],fun v _=>v=.nilIface⟩,⟨[0],fun v _=>v=.pointer (some ⟨b,o,none⟩)⟩,⟨[14],fun v _=>v=.pointer (some ⟨b,o+4,none⟩)⟩,⟨[12,15],fun _ _=>True⟩] [10,16] [[0,1],[0],[0],[0],[0],[0],[0],[0],[0],[0],[0],[1],[1],[1,2],[1],[1],[1]] [fun _ wx=>St w M [blk b (.cells cs1 ty),pA X1,rowsA encFr 265 8 pv1 fs1,blk b4 (.cells #[.int .i64 f.id,.int .i64 f.r.kind,.int .u8 f.r.letter,.int .i64 f.r.left,.int .i64 f.r.right,.int .i64 f.r.times,.int .i64 f.lev,.int .i64 f.hv] 265)] wx,fun _ wx=>∃ X2:Px,(X1.Ext X2∧PxOk X2∧X2.S=X1.S)∧St w M [blk b (.cells cs1 ty),pA X2,rowsA encFr 265 8 pv1 fs1,blk b4 (.cells #[.int .i64 f.id,.int .i64 f.r.kind,.int .u8 f.r.letter,.int .i64 f.r.left,.int .i64 f.r.right,.int .i64 f.r.times,.int .i64 f.lev,.int .i64 f.hv] 265)] wx,fun _ wx=>∃ X2:Px,(X1.Ext X2∧PxOk X2∧X2.S=X1.S)∧St w M [blk b (.cells (cs1.setIfInBounds (o+4) (.int .u64 kk)) ty),pA X2,rowsA encFr 265 8 pv1 fs1,blk b4 (.cells #[.int .i64 f.id,.int .i64 f.r.kind,.int .u8 f.r.letter,.int .i64 f.r.left,.int .i64 f.r.right,.int .i64 f.r.times,.int .i64 f.lev,.int .i64 f.hv] 265)] wx]
    [[],[],[(1,35)],[(2,36)],[(3,37)],[(4,38)],[],[(6,40)],[(7,41)],[(8,42)],[(5,39),(9,43)],[(10,44)],[(11,33)],[(11,33)],[(0,34)],[(14,47)],[(12,45),(15,48)]] [(0,34),(1,35),(2,36),(3,37),(4,38),(5,39),(6,40),(7,41),(8,42),(9,43),(10,44),(11,33),(12,45),(13,46),(14,47),(15,48)] (by kernel_rfl) (by kernel_rfl) H.drew ⟨⟨qo,qo,trivial⟩,⟨qo,trivial⟩,⟨qo,trivial⟩,⟨qo,trivial⟩,⟨?_,trivial⟩,⟨?_,trivial⟩,⟨qo,trivial⟩,⟨qo,trivial⟩,⟨qo,trivial⟩,⟨?_,trivial⟩,⟨?_,trivial⟩,⟨qo,trivial⟩,⟨qo,trivial⟩,⟨qo,qo,trivial⟩,⟨qo,trivial⟩,⟨qo,trivial⟩,⟨?_,trivial⟩,trivial⟩ ?_
   ·intro vals wx hd HC;simp only [GF] at hd;have H:=HC;simp only [CA] at H;simp only [PS,hd];refine StStep.celC rfl rfl rfl rfl (arr_cell (H.get (A:=blk b (.cells cs1 ty)) pk) HIN.out.at_.c0) ⟨rfl,HC⟩
   ·intro vals wx hd HC;simp only [GF] at hd;have h4:=hd;clear hd;have H:=HC;simp only [CA] at H;simp only [PS,h4];clear h4;go_simp;with_reducible refine zm (HKY.out _ (H.get pk)) ?_
    rintro e wc ⟨rfl,rfl⟩;first|exact ⟨_,rfl,rfl,HC⟩|exact ⟨_,rfl,HC⟩
   ·intro vals wx hd HC;simp only [GF] at hd;have H:=HC;simp only [CA] at H;simp only [PS,hd];refine StStep.celC rfl rfl rfl rfl (arr_cell (H.get (A:=blk b (.cells cs1 ty)) pk) HIN.out.at_.c3) ⟨rfl,HC⟩
   ·intro vals wx hd HC;simp only [GF] at hd;obtain ⟨h5,h9⟩:=hd;have H:=HC;simp only [CA] at H;simp only [PS,h5,h9];clear h5 h9 HC;go_simp;with_reducible refine zm (HKE.out _ (H.sepK HK pk pk)) ?_
    rintro e wc ⟨X2,y1,y2,y3,rfl,hb⟩;have H2:=(H.pick pk).call hb;simp only [List.cons_append,List.nil_append] at H2;exact ⟨_,rfl,rfl,X2,⟨y1,y2,y3⟩,H2.picks (.cons pk (.cons pk (.cons pk (.cons pk .nil))))⟩
   ·intro vals wx hd HC;simp only [GF] at hd;have H:=HC;simp only [CA] at H;obtain ⟨X2,hX2,H⟩:=H;simp only [PS,hd];refine StStep.storeC rfl rfl rfl rfl rfl rfl H (by have:=HSZ.out;omega) ?_;intro wz H;exact ⟨trivial,X2,hX2,H⟩
   intro vals wx hd HC;simp only [CA] at HC;obtain ⟨X2,hX2,H⟩:=HC;simp only [GF] at hd;simp only [PS,hd];clear hd;have HY:=zh hX2;clear hX2;go_wp2_with (first|refine sL ?_|(refine sS ?_;clear H;intros;rename_i H));refine nR ?_;have hin:=HIN.out;have hw:=HWAY.out;rw [← hw];have hk5:=hin.at_.setKey kk;exact ⟨X2,_,pv1,fs1,f.id,rfl,hin.ext.trans HY.out.1,HY.out.2.1,HY.out.2.2.trans hin.same,by rw [HKK.out];exact hk5,hin.alike.trans (AlikeBut.set cs1 o (o+4) (.int .u64 kk) (by omega) (by omega)),by rw [HY.out.2.2];exact hin.path,by rw [HY.out.2.2];exact hin.den,H.picks (.cons pk (.cons pk (.cons pk .nil)))⟩
end
section
open Go.RowKit Go.Maps
attribute [local go_sem] InGr
theorem parent_none {b o m c:Nat} {ad:Option Addr} {Y:As} (hc:∀ w,Y.ho w->w.cell? ⟨b,o+2,none⟩=some (.slice ad 0 c)) (w:World) (h:Y.ho w) :
  Calls Tryz.prog 172 #[.pointer (some ⟨b,o,none⟩),.int .i64 m] w fun e w'=>e=.returned (.pointer none)∧w'=w:=by
 have HC:=zh (hc w h);clear hc h;go_enter Tryz.func172,Tryz.ntmps172;go_wp2_with (first|refine sL ?_|(refine sS ?_;clear H;intros;rename_i H)|((with_reducible refine isLoad ?_);refine AtLoad.cel rfl rfl rfl rfl HC.out ?_;simp only [Act.put,puA,puB,puC]));go_ret;exact ⟨rfl,rfl⟩
theorem parent_some {b o m c g n:Nat} {fs:List Fr} {f:Fr} {Y:As} (hc:∀ w,Y.ho w->w.cell? ⟨b,o+2,none⟩=some (.slice (some ⟨g,0,none⟩) (n+1) c)) (hn:n<=1048576) (hl:∀ w,Y.ho w->w.cell? ⟨g,n*8+6,none⟩=some (.int .i64 f.lev)) (w:World) (h:Y.ho w) :
  Calls Tryz.prog 172 #[.pointer (some ⟨b,o,none⟩),.int .i64 m] w fun e w'=>e=.returned (if f.lev=m then .pointer (some ⟨g,n*8,none⟩) else .pointer none)∧w'=w:=by
 have HC:=zh (hc w h);have HL:=zh (hl w h);clear hc h hl;by_cases hm:f.lev=m
 ·rw [if_pos hm];have d1:((f.lev:Int)==(m:Int))=true:=(by simp;omega);clear hm;go_enter Tryz.func172,Tryz.ntmps172;go_wp2_with (first|refine sL ?_|(refine sS ?_;clear H;intros;rename_i H)|((with_reducible refine isLoad ?_);first|(refine AtLoad.cel rfl rfl rfl rfl HC.out ?_;simp only [Act.put,puA,puB,puC])|(refine AtLoad.cel rfl rfl rfl rfl HL.out ?_;simp only [Act.put,puA,puB,puC])));go_ret;exact ⟨rfl,rfl⟩
 ·rw [if_neg hm];have d1:((f.lev:Int)==(m:Int))=false:=(by simp;omega);clear hm;go_enter Tryz.func172,Tryz.ntmps172;go_wp2_with (first|refine sL ?_|(refine sS ?_;clear H;intros;rename_i H)|((with_reducible refine isLoad ?_);first|(refine AtLoad.cel rfl rfl rfl rfl HC.out ?_;simp only [Act.put,puA,puB,puC])|(refine AtLoad.cel rfl rfl rfl rfl HL.out ?_;simp only [Act.put,puA,puB,puC])));go_ret;exact ⟨rfl,rfl⟩
end
section
abbrev EndP:=List (Tr×Nat)×Option Tr
def topAt (lv:Nat):List (Tr×Nat)->Option (Tr×Nat)
 |[]=>none
 |q::_=>if q.1.lv=lv then some q else none
def hvT (bk:Bool) (q:Tr×Nat):Nat:=if bk then (kids q.1).length-q.2 else q.2+1
def runT (bk:Bool) (lv:Nat) (p:List (Tr×Nat)):Nat×Bool:=match topAt lv p with|none=>(1,false)|some q=>(hvT bk q,decide (hvT bk q<(kids q.1).length))
def headT (M:List It) (e:EndP):Option Tr:=match M with|i::_=>some i.x|[]=>e.2
def lastT (M:List It) (d:EndP):Option Tr:=match M.getLast? with|some i=>some i.x|none=>d.2
theorem topAt_none {m:Nat} {p:List (Tr×Nat)} (h:topAt (m+1) p=none):TopN m p:=by
 intro t j p' e;subst e;simp only [topAt] at h;split at h
 ·cases h
 ·assumption
theorem topAt_some {lv:Nat} {p:List (Tr×Nat)} {q:Tr×Nat} (h:topAt lv p=some q):∃ p',p=q::p'∧q.1.lv=lv:=by
 cases p with
 |nil=>cases h
 |cons r p =>
  simp only [topAt] at h;split at h
  ·injection h with h;subst h;exact ⟨p,rfl,by assumption⟩
  ·cases h
theorem step_odd {m:Nat} (he:m%2=0) (l:List Tr):stepP (m+1) l=runs l:=by unfold stepP;rw [if_pos (by omega)]
theorem step_even {m:Nat} (ho:m%2=1) (l:List Tr):stepP (m+1) l=pairsF (fits (m+1)) l:=by unfold stepP;rw [if_neg (by omega)]
structure LOk (a:Tr) (m:Nat) (L R:List Tr) (M:List It) (d1:EndP) (M1:List It) (P:List Tr):Prop where
 lay:∃ Q,a.lay (m+1)=P++Q
 end_:EndL a m d1 (P.flatMap (Tr.lay m))
 up:EndL a (m+1) (upT false (m+1) d1) P
 mv:∃ Y,L=P.flatMap (Tr.lay m)++Y∧expI M1=Y++expI M
 cut:stepP (m+1) (P.flatMap (Tr.lay m)++(expI M1++R))=P++stepP (m+1) (expI M1++R)
structure ROk (b:Tr) (m:Nat) (R:List Tr) (M:List It) (e1:EndP) (M1:List It) (Q:List Tr):Prop where
 lay:∃ P,b.lay (m+1)=P++Q
 end_:EndR b m e1 (Q.flatMap (Tr.lay m))
 up:EndR b (m+1) (upT true (m+1) e1) Q
 mv:∃ Y,R=Y++Q.flatMap (Tr.lay m)∧expI M1=expI M++Y
 cut:stepP (m+1) (expI M1++Q.flatMap (Tr.lay m))=stepP (m+1) (expI M1)++Q
theorem LOk.none (a:Tr) (m:Nat) (R:List Tr) (M:List It):LOk a m [] R M ([],Option.none) M [] :=
 ⟨⟨_,(List.nil_append _).symm⟩,⟨rfl,rfl⟩,⟨rfl,rfl⟩,⟨[],by simp,by simp⟩,by simp⟩
theorem ROk.none (b:Tr) (m:Nat) (M:List It):ROk b m [] M ([],Option.none) M [] :=
 ⟨⟨_,(List.append_nil _).symm⟩,⟨rfl,rfl⟩,⟨rfl,rfl⟩,⟨[],by simp,by simp⟩,by simp⟩
def gRunL (lv:Nat) (d e:EndP) (M:List It):EndP×List It:=match d.2 with
 |none=>(d,M)
 |some x=>if (runT false lv d.1).2=true∨headT M e=some x then (dropT false (lv-1) (runT false lv d.1).1 d.1,⟨x,none,(runT false lv d.1).1⟩::M) else (d,M)
def gRunR (lv:Nat) (d e:EndP) (M:List It):EndP×List It:=match e.2 with
 |none=>(e,M)
 |some x=>if (runT true lv e.1).2=true∨lastT M d=some x then (dropT true (lv-1) (runT true lv e.1).1 e.1,M++[⟨x,none,(runT true lv e.1).1⟩]) else (e,M)
section
variable {a b:Tr} {m:Nat} {d e:EndP} {M:List It} {L R:List Tr}
theorem gRunL_ok (he:m%2=0) (hc:Canon a) (hd:EndL a m d L) (hh:∀ y,(expI M++R).head?=some y->headT M e=some y):∃ P,LOk a m L R M (gRunL (m+1) d e M).1 (gRunL (m+1) d e M).2 P:=by
 obtain ⟨p,o⟩:=d;cases o with
 |none =>
  obtain ⟨rfl,rfl⟩:=hd;exact ⟨[],LOk.none a m R M⟩
 |some x =>
  have hd:EdL a m p x L:=hd;have hD:EndL a m (p,some x) L:=hd;unfold gRunL;simp only [Nat.add_sub_cancel];by_cases hmv:(runT false (m+1) p).2=true∨headT M e=some x
  ·rw [if_pos hmv];cases ht:topAt (m+1) p with
   |none =>
    have hr:runT false (m+1) p=(1,false):=(by simp [runT,ht]);rw [hr];obtain ⟨P,Q,h1,h2,h3,h4⟩:=rlMoveN he hc hd (topAt_none ht) (expI M++R);have hdr:=dropL (m:=m) hc.gd p x hd.zip hd.above;rw [h2] at hdr h3 h4;exact ⟨P,⟨Q,h1⟩,hdr,upL hc h1 hdr,⟨[x],h3,by simp [expI_cons,It.exp]⟩,by rw [step_odd he,step_odd he];simpa [expI_cons,It.exp] using h4⟩
   |some q =>
    obtain ⟨p',rfl,hq⟩:=topAt_some ht;obtain ⟨t,j⟩:=q;have hr:(runT false (m+1) ((t,j)::p')).1=j+1:=(by simp [runT,ht,hvT]);rw [hr];obtain ⟨P,Q,k,_,h1,h2,h3,h4⟩:=rlMoveT he hc hd hq (expI M++R);have hdr:=dropL (m:=m) hc.gd p' t hd.zip.tail.1 fun f hf=>hd.above f (by simp [hf])
    have hdt:dropT false m (j+1) ((t,j)::p')=dropT false m 1 p':=by
     simp only [dropT,Bool.false_eq_true,if_false];rw [if_neg (by omega)]
    rw [hdt];rw [h2] at hdr h3 h4;exact ⟨P,⟨Q,h1⟩,hdr,upL hc h1 hdr,⟨_,h3,by simp [expI_cons,It.exp]⟩,by rw [step_odd he,step_odd he];simpa [expI_cons,It.exp] using h4⟩
  ·rw [if_neg hmv];have hn1:¬ (runT false (m+1) p).2=true:=fun h=>hmv (.inl h)
   have hn2:¬ headT M e=some x:=fun h=>hmv (.inr h)
   have hw:∃ P Q,a.lay (m+1)=P++Q∧L=P.flatMap (Tr.lay m):=by
    cases ht:topAt (m+1) p with
    |none=>exact rlWholeN hc hd (topAt_none ht)
    |some q =>
     obtain ⟨p',rfl,hq⟩:=topAt_some ht;obtain ⟨t,j⟩:=q;refine rlWholeT hc hd hq ?_;have hlt:=gelt hd.zip.tail.2;simp [runT,ht,hvT] at hn1;omega
   obtain ⟨P,Q,h1,h2⟩:=hw;refine ⟨P,⟨Q,h1⟩,by rw [← h2];exact hD,upL hc h1 (by rw [← h2];exact hD),⟨[],by simpa using h2,by simp⟩,?_⟩;rw [step_odd he,step_odd he];refine rlKeep he hc h1 _ fun z y hz hy=>?_
   rw [← h2,hd.eq] at hz;simp at hz;subst hz;intro hxy;subst hxy;exact hn2 (hh _ hy)
theorem gRunR_ok (he:m%2=0) (hc:Canon b) (hd:EndR b m e R) (hl:∀ z,(expI M).getLast?=some z->lastT M d=some z):∃ Q,ROk b m R M (gRunR (m+1) d e M).1 (gRunR (m+1) d e M).2 Q:=by
 obtain ⟨p,o⟩:=e;cases o with
 |none =>
  obtain ⟨rfl,rfl⟩:=hd;exact ⟨[],ROk.none b m M⟩
 |some x =>
  have hd:EdR b m p x R:=hd;have hD:EndR b m (p,some x) R:=hd;unfold gRunR;simp only [Nat.add_sub_cancel];by_cases hmv:(runT true (m+1) p).2=true∨lastT M d=some x
  ·rw [if_pos hmv];cases ht:topAt (m+1) p with
   |none =>
    have hr:runT true (m+1) p=(1,false):=(by simp [runT,ht]);rw [hr];obtain ⟨P,Q,h1,h2,h4⟩:=rrMoveN he hc hd (topAt_none ht);have hdr:=dropR (m:=m) hc.gd p x hd.zip hd.above;have h3:=hd.eq;rw [h2] at hdr h3 h4;have e1:expI (M++[⟨x,none,1⟩])=expI M++[x]:=(by simp [expI_append,expI_cons,expI_nil,It.exp]);refine ⟨Q,⟨P,h1⟩,hdr,upR hc h1 hdr,⟨[x],by simpa using h3,e1⟩,?_⟩;rw [step_odd he,step_odd he];refine rr_cut he hc h1 _ fun z y hz hy=>?_
    rw [e1] at hz;simp at hz;subst hz;exact h4 y hy
   |some q =>
    obtain ⟨p',rfl,hq⟩:=topAt_some ht;obtain ⟨t,j⟩:=q;obtain ⟨P,Q,k,rfl,hjk,h1,h2,h3,h4⟩:=rrMoveT he hc hd hq;have hr:(runT true (m+1) ((Tr.pow x k,j)::p')).1=k-j:=(by simp [runT,ht,hvT,kids]);rw [hr];have hdr:=dropR (m:=m) hc.gd p' _ hd.zip.tail.1 fun f hf=>hd.above f (by simp [hf])
    have hdt:dropT true m (k-j) ((Tr.pow x k,j)::p')=dropT true m 1 p':=by
     simp only [dropT,if_true,kids,List.length_replicate];rw [if_neg (by omega)]
    rw [hdt];rw [h2] at hdr h3 h4;have e1:expI (M++[⟨x,none,k-j⟩])=expI M++List.replicate (k-j) x:=(by simp [expI_append,expI_cons,expI_nil,It.exp]);refine ⟨Q,⟨P,h1⟩,hdr,upR hc h1 hdr,⟨_,h3,e1⟩,?_⟩;rw [step_odd he,step_odd he];refine rr_cut he hc h1 _ fun z y hz hy=>?_
    rw [e1] at hz;obtain ⟨n,hn⟩:=Nat.exists_eq_succ_of_ne_zero (show k-j≠0 by omega);rw [hn,List.replicate_succ',← List.append_assoc] at hz;simp at hz;subst hz;exact h4 y hy
  ·rw [if_neg hmv];have hn1:¬ (runT true (m+1) p).2=true:=fun h=>hmv (.inl h)
   have hn2:¬ lastT M d=some x:=fun h=>hmv (.inr h)
   have hw:∃ P Q,b.lay (m+1)=P++Q∧R=Q.flatMap (Tr.lay m):=by
    cases ht:topAt (m+1) p with
    |none=>exact grKeepN hc hd (topAt_none ht)
    |some q =>
     obtain ⟨p',rfl,hq⟩:=topAt_some ht;obtain ⟨t,j⟩:=q;have hlt:=gelt hd.zip.tail.2;have hj:j=0:=by
      simp [runT,ht,hvT] at hn1;omega
     subst hj;exact grKeepT hc hd hq
   obtain ⟨P,Q,h1,h2⟩:=hw;refine ⟨Q,⟨P,h1⟩,by rw [← h2];exact hD,upR hc h1 (by rw [← h2];exact hD),⟨[],by simpa using h2,by simp⟩,?_⟩;rw [step_odd he,step_odd he];refine rr_cut he hc h1 _ fun z y hz hy=>?_
   rw [← h2,hd.eq] at hy;simp at hy;subst hy;intro hxy;subst hxy;exact hn2 (hl _ hz)
end
def keepP (bk:Bool) (lv:Nat) (p:List (Tr×Nat)) (x:Tr) (h:Option Tr):Bool:=match topAt lv p with
 |some q=>decide (hvT bk q=2)
 |none=>match h with|some y=>!(if bk then fits lv y x else fits lv x y)|none=>true
def gPairL (lv:Nat) (d e:EndP) (M:List It):EndP×List It:=match d.2 with
 |none=>(d,M)
 |some x=>if keepP false lv d.1 x (headT M e)=true then (d,M) else (dropT false (lv-1) 1 d.1,⟨x,none,1⟩::M)
def gPairR (lv:Nat) (d e:EndP) (M:List It):EndP×List It:=match e.2 with
 |none=>(e,M)
 |some x=>if keepP true lv e.1 x (lastT M d)=true then (e,M) else (dropT true (lv-1) 1 e.1,M++[⟨x,none,1⟩])
section
variable {a b:Tr} {m:Nat} {d e:EndP} {M:List It} {L R:List Tr}
theorem gPairL_ok (ho:m%2=1) (hc:Canon a) (hd:EndL a m d L) (hh:∀ y,(expI M++R).head?=some y->headT M e=some y):∃ P,LOk a m L R M (gPairL (m+1) d e M).1 (gPairL (m+1) d e M).2 P:=by
 obtain ⟨p,o⟩:=d;cases o with
 |none =>
  obtain ⟨rfl,rfl⟩:=hd;exact ⟨[],LOk.none a m R M⟩
 |some x =>
  have hd:EdL a m p x L:=hd;have hD:EndL a m (p,some x) L:=hd;unfold gPairL;simp only [Nat.add_sub_cancel];have keep:(∃ P Q,a.lay (m+1)=P++Q∧L=P.flatMap (Tr.lay m)∧pairsF (fits (m+1)) (L++(expI M++R))=P++pairsF (fits (m+1)) (expI M++R))->∃ P,LOk a m L R M (p,some x) M P:=by
   rintro ⟨P,Q,h1,h2,h3⟩;refine ⟨P,⟨Q,h1⟩,by rw [← h2];exact hD,upL hc h1 (by rw [← h2];exact hD),⟨[],by simpa using h2,by simp⟩,?_⟩;rw [step_even ho,step_even ho,← h2];exact h3
  have move:(∃ P Q,a.lay (m+1)=P++Q∧before m p=P.flatMap (Tr.lay m)∧L=before m p++[x]∧pairsF (fits (m+1)) (before m p++x::(expI M++R))=P++pairsF (fits (m+1)) (x::(expI M++R)))->∃ P,LOk a m L R M (dropT false m 1 p) (⟨x,none,1⟩::M) P:=by
   rintro ⟨P,Q,h1,h2,h3,h4⟩;have hdr:=dropL (m:=m) hc.gd p x hd.zip hd.above;rw [h2] at hdr h3 h4;exact ⟨P,⟨Q,h1⟩,hdr,upL hc h1 hdr,⟨[x],h3,by simp [expI_cons,It.exp]⟩,by rw [step_even ho,step_even ho];simpa [expI_cons,It.exp] using h4⟩
  cases ht:topAt (m+1) p with
  |none =>
   by_cases hk:keepP false (m+1) p x (headT M e)=true
   ·rw [if_pos hk];refine keep (glKeepN ho hc hd (topAt_none ht) _ fun y hy=>?_);unfold keepP at hk;simp only [ht,hh y hy] at hk;simpa using hk
   ·rw [if_neg hk];exact move (glMoveN ho hc hd (topAt_none ht) _)
  |some q =>
   obtain ⟨p',rfl,hq⟩:=topAt_some ht;obtain ⟨t,j⟩:=q;have hlt:=gelt hd.zip.tail.2;obtain ⟨u,v,rfl,_⟩:=even_pair (hd.zip.tail.1.gd hc.gd).1 hq ho;simp only [kids,List.length_cons,List.length_nil] at hlt;by_cases hk:keepP false (m+1) ((Tr.pair u v,j)::p') x (headT M e)=true
   ·rw [if_pos hk];simp [keepP,ht,hvT] at hk;exact keep (glKeepT ho hc hd hq (by omega) _)
   ·rw [if_neg hk];simp [keepP,ht,hvT] at hk;obtain rfl:j=0:=by omega
    exact move (glMoveT ho hc hd hq _)
theorem gPairR_ok (ho:m%2=1) (hnt:isTie (m+1)=false) (hc:Canon b) (hd:EndR b m e R) (hl:∀ z,(expI M).getLast?=some z->lastT M d=some z):∃ Q,ROk b m R M (gPairR (m+1) d e M).1 (gPairR (m+1) d e M).2 Q:=by
 obtain ⟨p,o⟩:=e;cases o with
 |none =>
  obtain ⟨rfl,rfl⟩:=hd;exact ⟨[],ROk.none b m M⟩
 |some x =>
  have hd:EdR b m p x R:=hd;have hD:EndR b m (p,some x) R:=hd;unfold gPairR;simp only [Nat.add_sub_cancel];have keep:(∃ P Q,b.lay (m+1)=P++Q∧R=Q.flatMap (Tr.lay m))->(∀ z,(expI M).getLast?=some z->fits (m+1) z x=false)->∃ Q,ROk b m R M (p,some x) M Q:=by
   rintro ⟨P,Q,h1,h2⟩ hf;refine ⟨Q,⟨P,h1⟩,by rw [← h2];exact hD,upR hc h1 (by rw [← h2];exact hD),⟨[],by simpa using h2,by simp⟩,?_⟩;rw [step_even ho,step_even ho];refine gr_cut ho hc h1 _ fun z y hz hy=>?_
   rw [← h2,hd.eq] at hy;simp at hy;subst hy;exact hf z hz
  have move:(∃ P Q,b.lay (m+1)=P++Q∧tl m p=Q.flatMap (Tr.lay m)∧∀ y,(tl m p).head?=some y->fits (m+1) x y=false)->∃ Q,ROk b m R M (dropT true m 1 p) (M++[⟨x,none,1⟩]) Q:=by
   rintro ⟨P,Q,h1,h2,h4⟩;have hdr:=dropR (m:=m) hc.gd p x hd.zip hd.above;have h3:=hd.eq;rw [h2] at hdr h3 h4;have e1:expI (M++[⟨x,none,1⟩])=expI M++[x]:=(by simp [expI_append,expI_cons,expI_nil,It.exp]);refine ⟨Q,⟨P,h1⟩,hdr,upR hc h1 hdr,⟨[x],by simpa using h3,e1⟩,?_⟩;rw [step_even ho,step_even ho];refine gr_cut ho hc h1 _ fun z y hz hy=>?_
   rw [e1] at hz;simp at hz;subst hz;exact h4 y hy
  cases ht:topAt (m+1) p with
  |none =>
   by_cases hk:keepP true (m+1) p x (lastT M d)=true
   ·rw [if_pos hk];refine keep (grKeepN hc hd (topAt_none ht)) fun z hz=>?_
    unfold keepP at hk;simp only [ht,hl z hz] at hk;simpa using hk
   ·rw [if_neg hk];exact move (grMoveN ho hc hd (topAt_none ht))
  |some q =>
   obtain ⟨p',rfl,hq⟩:=topAt_some ht;obtain ⟨t,j⟩:=q;have hx:=hd.zip.tail.2;have hlt:=gelt hx;obtain ⟨u,v,rfl,hf⟩:=even_pair (hd.zip.tail.1.gd hc.gd).1 hq ho;simp only [kids,List.length_cons,List.length_nil] at hlt;by_cases hk:keepP true (m+1) ((Tr.pair u v,j)::p') x (lastT M d)=true
   ·rw [if_pos hk];simp [keepP,ht,hvT,kids] at hk;obtain rfl:j=0:=by omega
    refine keep (grKeepT hc hd hq) fun z hz=>?_
    obtain rfl:u=x:=by simpa [kids] using hx
    exact (fits_nontie hnt hf z).2
   ·rw [if_neg hk];simp [keepP,ht,hvT,kids] at hk;obtain ⟨P,Q,h1,h2,u',e1,hf'⟩:=grMoveT ho hc hd hq (by omega);exact move ⟨P,Q,h1,h2,fun y _=>(fits_nontie hnt hf' y).1⟩
end
end
end Go.Proofs.YtgnppnokkdghcaaGreatDoor
