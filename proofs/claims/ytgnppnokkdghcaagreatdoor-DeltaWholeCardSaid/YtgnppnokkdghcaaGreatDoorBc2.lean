/-
  Part 2 of the texts behind the statements of this seat: walks and laws If, Ig, Il, Im, Aa, Ab, Ac, Ad, Bd, Tz, Ba, Bb, Bc, Be, Bf, Bg, Bh, Bi, Ae, Af, Bj, Bk, Bl. Conditions: as each states.
-/
import Derived.Test.YtgnppnokkdghcaaGreatDoorBc1
import Derived.Deep.LoopGhost
import Derived.Ground.Names7Prog
import Derived.Laws.BitsAllLaws
import Derived.Laws.Small
import Derived.Lib.AppendZeros
import Derived.OwnWalk
import Derived.Shelf.Spec.TrailingZeros
set_option linter.unusedSimpArgs false
set_option linter.unusedVariables false
set_option maxRecDepth 100000
set_option maxHeartbeats 80000000
namespace Go.Proofs.YtgnppnokkdghcaaGreatDoor
section
open Go.RowKit Go.Maps
attribute [local go_sem] InGr
theorem find_hit {p m:Nat} {lv:Value} {S:Sto} {i:Nat} {x:En} (hx:S.list[i]?=some x) (ha:Apart S.list) (hf:x.r.Fits) (w:World) (hs:(stoA p lv m S).ho w) :
  Calls Tryz.prog 74 #[.pointer (some ⟨p,0,none⟩),ruleV x.r] w fun e w'=>e=.returned (.tuple #[.int .i64 ((i:Int)+1),.nilIface])∧St w [] [] w':=by
 have HK:=stoA_ks hs;have HE:=zh (za hx (za ha hf));have hi:=getElem_len hx;obtain ⟨a,c,rfl,hm⟩:=stoA_shape hs;unfold maxLen at hm;have H:=St.nil w [];clear hs hx ha hf;unfold ruleV;go_enter Tryz.func74,Tryz.ntmps74;go_wp2_with (first|refine sL ?_|(refine sS ?_;clear H;intros;rename_i H));refine wp_region_h H 11 [] [] (by kernel_rfl) (by kernel_rfl) ?_;apply Exists.intro;refine ⟨fun w1 hw1 HX=>?_,fun bs wr Hr=>?_⟩
 ·refine sG ?_;repeat (first|refine sQ ?_|((with_reducible refine isQLook ?_);refine QtLook.go (kt:=0) (et:=0) rfl rfl rfl _ (fun y=>look_hit ((HX y).known HK pk) HE.out.2.1 HE.out.1 HE.out.2.2) rfl ?_;simp only [Act.put,puA,puB,puC])|go_big_quiet_step (fail))
  exact wpQuiet_nil rfl
 clear H;have H:=Hr;clear Hr;replace H:=sH H;refine sT ?_;go_wp2_with (first|refine sL ?_|(refine sS ?_;clear H;intros;rename_i H));go_ret2;exact ⟨rfl,H.nix⟩
theorem find_miss {p m:Nat} {lv:Value} {S:Sto} (r:Rl) (hn:∀ x∈S.list,x.r≠r) (hf:r.Fits) (w:World) (hs:(stoA p lv m S).ho w) (hmost:S.most<9223372036854775808) :
  Calls Tryz.prog 74 #[.pointer (some ⟨p,0,none⟩),ruleV r] w fun e w'=>e=.returned (.tuple #[.int .i64 0,if S.most<=S.list.length then EV 3 else .nilIface])∧St w [] [] w':=by
 have HK:=stoA_ks hs;have HE:=zh (za hn hf);obtain ⟨a,c,rfl,hm⟩:=stoA_shape hs;unfold maxLen at hm;have H:=St.nil w [];clear hs hn hf;unfold ruleV;go_enter Tryz.func74,Tryz.ntmps74;go_wp2_with (first|refine sL ?_|(refine sS ?_;clear H;intros;rename_i H));refine wp_region_h H 11 [] [] (by kernel_rfl) (by kernel_rfl) ?_;apply Exists.intro;refine ⟨fun w1 hw1 HX=>?_,fun bs wr Hr=>?_⟩
 ·refine sG ?_;repeat (first|refine sQ ?_|((with_reducible refine isQLook ?_);refine QtLook.go (kt:=0) (et:=0) rfl rfl rfl _ (fun y=>look_miss ((HX y).known HK pk) HE.out.1 HE.out.2) rfl ?_;simp only [Act.put,puA,puB,puC])|go_big_quiet_step (fail))
  exact wpQuiet_nil rfl
 clear H;have H:=Hr;clear Hr;replace H:=sH H;refine sT ?_;by_cases h:S.most<=S.list.length
 ·go_wp2_with (first|refine sL ?_|(refine sS ?_;clear H;intros;rename_i H));refine wp_region_h H 10 [] [] (by kernel_rfl) (by kernel_rfl) ?_;apply Exists.intro;refine ⟨fun w1 hw1 HX=>?_,fun bs wr Hr=>?_⟩
  ·refine sG ?_;repeat (first|refine sQ ?_|fail|go_big_quiet_step (fail))
   exact wpQuiet_nil rfl
  clear H;have H:=Hr;clear Hr;replace H:=sH H;refine sT ?_;go_wp2_with (first|refine sL ?_|(refine sS ?_;clear H;intros;rename_i H));go_ret2;exact ⟨rfl,H.nix⟩
 ·go_wp2_with (first|refine sL ?_|(refine sS ?_;clear H;intros;rename_i H));refine wp_region_h H 10 [] [] (by kernel_rfl) (by kernel_rfl) ?_;apply Exists.intro;refine ⟨fun w1 hw1 HX=>?_,fun bs wr Hr=>?_⟩
  ·refine sG ?_;repeat (first|refine sQ ?_|fail|go_big_quiet_step (fail))
   exact wpQuiet_nil rfl
  clear H;have H:=Hr;clear Hr;replace H:=sH H;refine sT ?_;go_wp2_with (first|refine sL ?_|(refine sS ?_;clear H;intros;rename_i H));go_ret2;exact ⟨rfl,H.nix⟩
theorem stoA_open {p m:Nat} {lv:Value} {S:Sto} {w0 w:World} {M:List Nat} {R:List As} (h:St w0 M (stoA p lv m S::R) w) :
  St w0 M (blk p (.cells #[.int .i64 S.most,lv,.map (some m)] 143)::rowsA enL 146 13 lv S.list::mapA Tryz.prog 131 m (idsL S.list)::R) w:=by
 have h1:=St.sep (A:=blk p (.cells #[.int .i64 S.most,lv,.map (some m)] 143)) h;exact (St.sep (h1.perm (List.Perm.swap _ _ _))).perm ((List.Perm.cons _ (List.Perm.swap _ _ _)).trans (List.Perm.swap _ _ _))
theorem stoA_shut {p m n:Nat} {lv:Value} {l:List En} {es:List (Value×Value)} {w0 w:World} {M:List Nat} {R:List As} (h:St w0 M (blk p (.cells #[.int .i64 (n:Nat),lv,.map (some m)] 143)::rowsA enL 146 13 lv l::mapA Tryz.prog 131 m es::R) w) (he:es=idsL l) :
  St w0 M (stoA p lv m ⟨n,l⟩::R) w:=by
 subst he;have h1:=h.perm ((List.Perm.swap _ _ _).trans (List.Perm.cons _ (List.Perm.swap _ _ _)));have h2:=(St.join h1).perm (List.Perm.swap _ _ _);exact St.join h2
theorem enL_one (x:En):∀ u∈enL x,u.oneCell'=true:=by
 intro u hu;simp only [enL,List.mem_cons,List.not_mem_nil,or_false] at hu;rcases hu with rfl|rfl|rfl|rfl|rfl|rfl|rfl|rfl|rfl|rfl|rfl|rfl|rfl <;> rfl
def Added (p m:Nat) (M:List Nat) (S:Sto) (x:En) (w:World) (e:Ending) (w':World):Prop:=∃ lv,e=.returned (.int .i64 ((S.list.length:Int)+1))∧St w M [stoA p lv m ⟨S.most,S.list++[x]⟩] w'
attribute [local go_sem] StStep stAt stUpon in
theorem add_st {p m:Nat} {lv:Value} {S:Sto} (x:En) (hn:∀ y∈S.list,y.r≠x.r) (hf:x.r.Fits) (hl:S.list.length<1048576) (w:World) (hs:(stoA p lv m S).ho w) :
  Calls Tryz.prog 75 #[.pointer (some ⟨p,0,none⟩),.agg (enL x).toArray] w (Added p m (stoA p lv m S).fp S x w):=by
 have H:=stoA_open (St.one hs);generalize (stoA p lv m S).fp=M at H ⊢;obtain ⟨l,hk⟩:=rule_key x.r hf;have HN:=zh (za (show ∀ e∈idsL S.list,e.1≠ruleV x.r from fun e he=>by obtain ⟨i,y,hy,rfl⟩:=ids_all he;exact fun h=>hn y (List.mem_of_getElem? hy) (ruleV_inj h)) hk);obtain ⟨a,c,rfl,hm⟩:=stoA_shape hs;clear hs hn hf hk hm;go_enter Tryz.func75,Tryz.ntmps75;go_wp2_with (first|refine sL ?_|(refine sS ?_;clear H;intros;rename_i H));rename_i b3 _ _ _;replace H:=H.pick (A:=rowsA enL 146 13 (.slice a S.list.length c) S.list) pk;refine wp_region_rgx H [blk b3 (.cells (enL x).toArray 146),blk p (.cells #[.int .i64 S.most,.slice a S.list.length c,.map (some m)] 143),mapA Tryz.prog 131 m (idsL S.list)] 8 [⟨[],[],[],fun v _=>v=.pointer (some ⟨p,0,none⟩),fun _ _=>[]⟩,⟨[],[],[],fun v _=>v=.pointer (some ⟨p,0,none⟩),fun _ _=>[]⟩,⟨[],[],[1],fun v _=>v=.pointer (some ⟨p,0,none⟩),fun _ _=>[]⟩,⟨[],[],[2],fun v _=>v=.pointer (some ⟨p,1,none⟩),fun _ _=>[]⟩,⟨[],[],[3],fun v _=>v=.slice a S.list.length c,fun _ _=>[]⟩,⟨[],[],[],fun v _=>v=.agg (enL x).toArray,fun _ _=>[]⟩,⟨[],[],[5],fun v _=>True,fun v _=>[rowsA enL 146 13 v [x]]⟩,⟨[8],[6],[4],fun _ _=>True,fun v _=>[rowsA enL 146 13 v (S.list++[x])]⟩,⟨[],[],[],fun _ _=>True,fun _ _=>[rowsA enL 146 13 (.slice a S.list.length c) S.list]⟩] (by kernel_rfl)
  [[],[],[(1,7)],[(2,8)],[(3,9)],[],[(5,11)],[(4,10),(6,12)]] [(0,6),(1,7),(2,8),(3,9),(4,10),(5,11),(6,12),(7,13)] [0,1,2,3,4,5,6,7] (by kernel_rfl) (by kernel_rfl) (by kernel_rfl) ⟨?_,?_,?_,?_,?_,?_,?_,?_,trivial⟩ ?_
 ·intro vals wx X hd H;clear hd;replace H:=sP H;simp only [putS,List.foldl_nil];go_simp;first|exact H|exact ⟨rfl,H⟩
 ·intro vals wx X hd H;clear hd;replace H:=sP H;simp only [putS,List.foldl_nil];go_simp;first|exact H|exact ⟨rfl,H⟩
 ·intro vals wx X hd H;have h1:vals 1=.pointer (some ⟨p,0,none⟩):=hd.1;clear hd;replace H:=sP H;simp only [putS,List.foldl_nil,List.foldl_cons,Act.put,List.setIfInBounds_toArray,List.set_cons_zero,List.set_cons_succ,h1];clear h1;go_simp;first|exact H|exact ⟨rfl,H⟩
 ·intro vals wx X hd H;have h2:vals 2=.pointer (some ⟨p,0,none⟩):=hd.1;clear hd;replace H:=sP H;simp only [putS,List.foldl_nil,List.foldl_cons,Act.put,List.setIfInBounds_toArray,List.set_cons_zero,List.set_cons_succ,h2];clear h2;go_simp;first|exact H|exact ⟨rfl,H⟩
 ·intro vals wx X hd H;have h3:vals 3=.pointer (some ⟨p,1,none⟩):=hd.1;clear hd;replace H:=sP H;simp only [putS,List.foldl_nil,List.foldl_cons,Act.put,List.setIfInBounds_toArray,List.set_cons_zero,List.set_cons_succ,h3];first|refine StStep.cellT rfl rfl rfl gt rfl rfl ⟨rfl,H⟩|refine StStep.wholeT rfl rfl rfl gt rfl ⟨rfl,H⟩
 ·intro vals wx X hd H;clear hd;replace H:=sP H;simp only [putS,List.foldl_nil];first|refine StStep.cellT rfl rfl rfl gt rfl rfl ⟨rfl,H⟩|refine StStep.wholeT rfl rfl rfl gt rfl ⟨rfl,H⟩
 ·intro vals wx X hd H;have h5:vals 5=.agg (enL x).toArray:=hd.1;clear hd;replace H:=sP H;simp only [putS,List.foldl_nil,List.foldl_cons,Act.put,List.setIfInBounds_toArray,List.set_cons_zero,List.set_cons_succ,h5];exact StStep.slice1 (enc:=enL) H rfl rfl rfl rfl rfl rfl rfl rfl rfl x rfl enL_len fun b w' H=>⟨trivial,H⟩
 ·intro vals wx X hd H;have h4:vals 4=.slice a S.list.length c:=hd.1;clear hd;replace H:=sP H;simp only [putS,List.foldl_nil,List.foldl_cons,Act.put,List.setIfInBounds_toArray,List.set_cons_zero,List.set_cons_succ,h4];exact StStep.append (enc:=enL) rfl rfl rfl rfl rfl (by decide) (by decide) rfl rfl H (H.get (A:=rowsA enL 146 13 (vals 6) [x]) pk) enL_len enL_one (by simp;omega) fun v' w' H=>⟨trivial,H⟩
 intro vals wx hd H;have h0:vals 0=.pointer (some ⟨p,0,none⟩):=hd.1;have h1:vals 1=.pointer (some ⟨p,0,none⟩):=hd.2.1;have h2:vals 2=.pointer (some ⟨p,0,none⟩):=hd.2.2.1;have h3:vals 3=.pointer (some ⟨p,1,none⟩):=hd.2.2.2.1;have h4:vals 4=.slice a S.list.length c:=hd.2.2.2.2.1;have h5:vals 5=.agg (enL x).toArray:=hd.2.2.2.2.2.1;have h6:=hd.2.2.2.2.2.2.1;clear hd;replace H:=sP H;simp only [putS,List.foldl_nil,List.foldl_cons,Act.put,List.setIfInBounds_toArray,List.set_cons_zero,List.set_cons_succ,List.drop_succ_cons,List.drop_zero,h0,h1,h2,h3,h4,h5];clear h0 h1 h2 h3 h4 h5;obtain ⟨ad,cp,e7,_⟩:=rowsA_shape (H.get (A:=rowsA enL 146 13 (vals 7) (S.list++[x])) pk);rw [List.length_append,List.length_singleton] at e7;rw [e7] at H;simp only [e7];clear e7;generalize vals 6=v6 at H ⊢;go_wp2_with (first|refine sL ?_|(refine sS ?_;clear H;intros;rename_i H));refine wp_region_h H 7 [] [] (by kernel_rfl) (by kernel_rfl) ?_;apply Exists.intro;refine ⟨fun w1 hw1 HX=>?_,fun bs wr Hr=>?_⟩
 ·refine sG ?_;repeat (first|refine sQ ?_|fail|go_big_quiet_step (fail))
  exact wpQuiet_nil rfl
 clear H;have H:=Hr;clear Hr;replace H:=sH H;refine sT ?_;go_wp2_with (first|refine sL ?_|(refine sS ?_;clear H;intros;rename_i H)|((with_reducible refine isUpdate ?_);refine AtUpdate.new keyed_131 mt_141 H rfl rfl rfl pk (k:=ruleV x.r) rfl rfl HN.out.2 HN.out.1 ?_;clear H;intro _ H;simp only [Act.put,puA,puB,puC]));go_ret;exact ⟨.slice ad (S.list.length+1) cp,rfl,(stoA_shut (H.pick3 (A:=blk p (.cells #[.int .i64 S.most,.slice ad (S.list.length+1) cp,.map (some m)] 143)) pk (B:=rowsA enL 146 13 (.slice ad (S.list.length+1) cp) (S.list++[x])) pk
  (C:=mapA Tryz.prog 131 m (idsL S.list++[(ruleV x.r,.int .i64 ((S.list.length:Int)+1))])) pk) (ids_snoc _ _).symm).onlyHead⟩
end
section
def maxT:Nat:=1152921504606846976
theorem maxT_eq:maxT=1152921504606846976:=rfl
def letterE (b:Nat):En:=⟨⟨1,b,0,0,0⟩,Wt.letter b,0,true⟩
def pairE (x y:En) (l r:Nat):En:=⟨⟨2,0,l,r,0⟩,x.w.join y.w,1+max x.depth y.depth,x.even&&y.even&&(decide (x.depth<=y.depth+1)&&decide (y.depth<=x.depth+1))⟩
def powerE (x:En) (l k:Nat):En:=⟨⟨3,0,l,0,k⟩,x.w.rep k,1+x.depth,false⟩
inductive EnOk (L:List En) (i:Nat):En->Prop
 |letter (b:Nat) (h:b<256):EnOk L i (letterE b)
 |pair (l r:Nat) (x y:En) (hl:l<i) (hr:r<i) (hx:L[l]?=some x) (hy:L[r]?=some y) (h:x.w.len+y.w.len<=maxT):EnOk L i (pairE x y (l+1) (r+1))
 |power (l k:Nat) (x:En) (hl:l<i) (hx:L[l]?=some x) (hk:2<=k) (h:x.w.len*k<=maxT):EnOk L i (powerE x (l+1) k)
structure Sto.Ok (S:Sto):Prop where
 most:S.most<=1048576
 len:S.list.length<=S.most
 apart:Apart S.list
 ents:∀ (i:Nat) (x:En),S.list[i]?=some x->EnOk S.list i x
structure En.Good (x:En) (i:Nat):Prop where
 fits:x.r.Fits
 wok:x.w.Ok
 pos:0<x.w.len
 depth:x.depth<=i
theorem letter_len (b:Nat):(Wt.letter b).len=1:=by unfold Wt.letter;split <;> rfl
theorem EnOk.good {L:List En} {i:Nat} {x:En} (hi:i<1048576) (ih:∀ j y,j<i->L[j]?=some y->y.Good j) (h:EnOk L i x):x.Good i:=by
 cases h with
 |letter b hb=>exact ⟨⟨by simp [letterE],hb,by simp [letterE],by simp [letterE],by simp [letterE]⟩,Wt.letter_ok b hb,by simp [letterE,letter_len],by simp [letterE]⟩
 |pair l r x y hl hr hx hy h =>
  have g1:=ih l x hl hx;have g2:=ih r y hr hy;have h1:=g1.depth;have h2:=g2.depth;have p1:=g1.pos;rw [maxT_eq] at h;refine ⟨⟨by simp [pairE],by simp [pairE],by simp [pairE];omega,by simp [pairE];omega,by simp [pairE]⟩,Wt.join_ok g1.wok g2.wok h,by simp [pairE,Wt.join];omega,by simp [pairE];omega⟩
 |power l k x hl hx hk h =>
  have g1:=ih l x hl hx;have h1:=g1.depth;have p1:=g1.pos;rw [maxT_eq] at h;have hkm:k<=x.w.len*k:=Nat.le_mul_of_pos_left k p1;refine ⟨⟨by simp [powerE],by simp [powerE],by simp [powerE];omega,by simp [powerE],by simp [powerE];omega⟩,Wt.rep_ok g1.wok p1 hk h,by simp [powerE,Wt.rep];omega,by simp [powerE];omega⟩
theorem Sto.Ok.good {S:Sto} (h:S.Ok):∀ (i:Nat) (x:En),S.list[i]?=some x->x.Good i:=by
 intro i;induction i using Nat.strongRecOn with
 |_ i ih =>
  intro x hx;have hi:=getElem_len hx;have:=h.len;have:=h.most;exact (h.ents i x hx).good (by omega) fun j y hj hy=>ih j hj y hy
theorem EnOk.snoc {L:List En} {i:Nat} {x y:En} (hi:i<=L.length) (h:EnOk L i x):EnOk (L++[y]) i x:=by
 cases h with
 |letter b hb=>exact .letter b hb
 |pair l r x y' hl hr hx hy h=>exact .pair l r x y' hl hr (by rw [List.getElem?_append_left (by omega)];exact hx) (by rw [List.getElem?_append_left (by omega)];exact hy) h
 |power l k x hl hx hk h=>exact .power l k x hl (by rw [List.getElem?_append_left (by omega)];exact hx) hk h
def Sto.look (S:Sto) (r:Rl):Option Nat:=S.list.findIdx? fun x=>decide (x.r=r)
theorem look_some {S:Sto} {r:Rl} {i:Nat} (h:S.look r=some i):∃ x,S.list[i]?=some x∧x.r=r:=by
 unfold Sto.look at h;rw [List.findIdx?_eq_some_iff_getElem] at h;obtain ⟨h1,h2,_⟩:=h;exact ⟨S.list[i],by simp,by simpa using h2⟩
theorem look_none {S:Sto} {r:Rl} (h:S.look r=none):∀ x∈S.list,x.r≠r:=by
 unfold Sto.look at h;rw [List.findIdx?_eq_none_iff] at h;intro x hx;simpa using h x hx
def Sto.put (S:Sto) (x:En):(Nat×Option Nat)×Sto :=
 match S.look x.r with
 |some i=>((i+1,none),S)
 |none=>if S.most<=S.list.length then ((0,some 3),S) else ((S.list.length+1,none),⟨S.most,S.list++[x]⟩)
theorem Sto.put_ok {S:Sto} (h:S.Ok) {x:En} (hx:EnOk S.list S.list.length x):(S.put x).2.Ok:=by
 unfold Sto.put;split
 ·exact h
 ·rename_i hn;have hn:=look_none hn;split
  ·exact h
  ·rename_i hf;refine ⟨h.most,by simp;omega,fun i j y z hy hz he=>?_,fun i y hy=>?_⟩
   ·simp only at hy hz;rw [List.getElem?_append] at hy hz;split at hy <;> split at hz
    ·exact h.apart i j y z hy hz he
    ·have:z=x:=by
      rename_i h1 h2;have:j-S.list.length=0:=by
       have:=getElem_len hz;simp at this;omega
      rw [this] at hz;simpa using hz.symm
     subst this;exact absurd he (hn y (List.mem_of_getElem? hy))
    ·have:y=x:=by
      rename_i h1 h2;have:i-S.list.length=0:=by
       have:=getElem_len hy;simp at this;omega
      rw [this] at hy;simpa using hy.symm
     subst this;exact absurd he.symm (hn z (List.mem_of_getElem? hz))
    ·have:=getElem_len hy;have:=getElem_len hz;simp at *;omega
   ·simp only at hy ⊢;rw [List.getElem?_append] at hy;split at hy
    ·rename_i h1;exact (h.ents i y hy).snoc (by omega)
    ·have:=getElem_len hy;have e:i=S.list.length:=(by simp at this;omega);subst e;simp at hy;subst hy;exact hx.snoc (Nat.le_refl _)
theorem Sto.put_pre (S:Sto) (x:En):∃ l,(S.put x).2.list=S.list++l:=by
 unfold Sto.put;split
 ·exact ⟨[],by simp⟩
 ·split
  ·exact ⟨[],by simp⟩
  ·exact ⟨[x],rfl⟩
def Sto.letter (S:Sto) (b:Nat):(Nat×Option Nat)×Sto:=S.put (letterE b)
def Sto.pair (S:Sto) (l r:Nat):(Nat×Option Nat)×Sto :=
 match enAt S l,enAt S r with
 |some x,some y=>if l=0 then ((r,none),S) else if r=0 then ((l,none),S) else if maxT<x.w.len+y.w.len then ((0,some 2),S) else S.put (pairE x y l r)
 |_,_=>((0,some 1),S)
def Sto.power (S:Sto) (x k:Nat):(Nat×Option Nat)×Sto :=
 match enAt S x with
 |some e=>if k=0∨x=0 then ((0,none),S) else if k=1 then ((x,none),S) else if maxT<e.w.len*k then ((0,some 2),S) else S.put (powerE e x k)
 |none=>((0,some 1),S)
theorem enAt_some {S:Sto} {i:Nat} (h:i<=S.list.length):∃ x,enAt S i=some x:=by
 cases i with
 |zero=>exact ⟨_,rfl⟩
 |succ i=>exact ⟨S.list[i],by simp [enAt]⟩
theorem Sto.letter_ok {S:Sto} (h:S.Ok) {b:Nat} (hb:b<256):(S.letter b).2.Ok:=Sto.put_ok h (.letter b hb)
end
section
open Go.RowKit Go.Maps
attribute [local go_sem] InGr
def errV:Option Nat->Value
 |none=>.nilIface
 |some c=>EV c
def StoPost (p m:Nat) (M:List Nat) (r:(Nat×Option Nat)×Sto) (w:World) (e:Ending) (w':World):Prop :=
 ∃ lv,e=.returned (.tuple #[.int .i64 r.1.1,errV r.1.2])∧St w M [stoA p lv m r.2] w'
theorem StoPost.mk {p m:Nat} {M:List Nat} {r:(Nat×Option Nat)×Sto} {w:World} {e:Ending} {w':World} (lv:Value) (he:e=.returned (.tuple #[.int .i64 r.1.1,errV r.1.2])) (h:St w M [stoA p lv m r.2] w'):StoPost p m M r w e w':=⟨lv,he,h⟩
theorem find_hit_r {p m:Nat} {lv:Value} {S:Sto} {i:Nat} (r:Rl) (h:S.Ok) (hl:S.look r=some i) (w:World) (hs:(stoA p lv m S).ho w) :
  Calls Tryz.prog 74 #[.pointer (some ⟨p,0,none⟩),ruleV r] w fun e w'=>e=.returned (.tuple #[.int .i64 ((i:Int)+1),.nilIface])∧St w [] [] w':=by
 obtain ⟨x,hx,rfl⟩:=look_some hl;exact find_hit hx h.apart (h.good i x hx).fits w hs
theorem find_full_r {p m:Nat} {lv:Value} {S:Sto} (r:Rl) (hf:r.Fits) (h:S.Ok) (hl:S.look r=none) (hm:S.most<=S.list.length) (w:World) (hs:(stoA p lv m S).ho w) :
  Calls Tryz.prog 74 #[.pointer (some ⟨p,0,none⟩),ruleV r] w fun e w'=>e=.returned (.tuple #[.int .i64 0,.iface 73 (.int .i64 3)])∧St w [] [] w':=by
 have:=find_miss r (look_none hl) hf w hs (by have:=h.most;omega);rwa [if_pos hm] at this
theorem find_new_r {p m:Nat} {lv:Value} {S:Sto} (r:Rl) (hf:r.Fits) (h:S.Ok) (hl:S.look r=none) (hm:¬ S.most<=S.list.length) (w:World) (hs:(stoA p lv m S).ho w) :
  Calls Tryz.prog 74 #[.pointer (some ⟨p,0,none⟩),ruleV r] w fun e w'=>e=.returned (.tuple #[.int .i64 0,.nilIface])∧St w [] [] w':=by
 have:=find_miss r (look_none hl) hf w hs (by have:=h.most;omega);rwa [if_neg hm] at this
theorem wletter_l (b:Nat) (hb:b<256) (w:World) :
  Calls Tryz.prog 76 #[.int .u8 b] w fun e w'=>e=.returned (.agg #[.int .i64 (Wt.letter b).len,.int .i64 (Wt.letter b).lines,.int .i64 (Wt.letter b).head,.int .i64 (Wt.letter b).tail,.int .u64 (Wt.letter b).val,.int .u64 (Wt.letter b).scale])∧St w [] [] w':=wletter_c b hb w
theorem letter_c {p m:Nat} {lv:Value} {S:Sto} (h:S.Ok) (b:Nat) (hb:b<256) (w:World) (hs:(stoA p lv m S).ho w) :
  Calls Tryz.prog 42 #[.pointer (some ⟨p,0,none⟩),.int .u8 b] w (StoPost p m (stoA p lv m S).fp (S.letter b) w):=by
 have H:=St.one hs;generalize (stoA p lv m S).fp=M at H ⊢;have HF:Hid (Rl.Fits ⟨1,b,0,0,0⟩):=zh ⟨by simp,hb,by simp,by simp,by simp⟩;have HB:=zh hb;clear hs hb;have hlen:=h.len;have hmost:=h.most;have HO:=zh h;cases hl:S.look ⟨1,b,0,0,0⟩ with
 |some i =>
  have HR:Hid (S.letter b=((i+1,none),S)):=zh (by simp [Sto.letter,Sto.put,letterE,hl]);have HL:=zh hl;clear hl h;go_enter Tryz.func42,Tryz.ntmps42;go_wp2_with (first|refine sL ?_|(refine sS ?_;clear H;intros;rename_i H)|(go_at_call 74;refine (find_hit_r ⟨1,b,0,0,0⟩ HO.out HL.out _ (H.get pk)).mono ?_;rintro e wc ⟨rfl,hb⟩;replace H:=H.grew hb.below;clear hb));go_ret2;exact StoPost.mk lv (by rw [HR.out];rfl) (by rw [HR.out];exact H.only pk)
 |none =>
  have HL:=zh hl;by_cases hm:S.most<=S.list.length
  ·have HR:Hid (S.letter b=((0,some 3),S)):=zh (by simp [Sto.letter,Sto.put,letterE,hl,hm]);have HM:=zh hm;clear hl h hm;go_enter Tryz.func42,Tryz.ntmps42;go_wp2_with (first|refine sL ?_|(refine sS ?_;clear H;intros;rename_i H)|(go_at_call 74;refine (find_full_r ⟨1,b,0,0,0⟩ HF.out HO.out HL.out HM.out _ (H.get pk)).mono ?_;rintro e wc ⟨rfl,hb⟩;replace H:=H.grew hb.below;clear hb));go_ret2;exact StoPost.mk lv (by rw [HR.out];rfl) (by rw [HR.out];exact H.only pk)
  ·have HR:Hid (S.letter b=((S.list.length+1,none),⟨S.most,S.list++[letterE b]⟩)):=zh (by simp [Sto.letter,Sto.put,letterE,hl,hm]);have HM:=zh hm;have hlt:S.list.length<1048576:=(by omega);clear hl h hm;go_enter Tryz.func42,Tryz.ntmps42;go_wp2_with (first|refine sL ?_|(refine sS ?_;clear H;intros;rename_i H)|(go_at_call 74;refine (find_new_r ⟨1,b,0,0,0⟩ HF.out HO.out HL.out HM.out _ (H.get pk)).mono ?_;rintro e wc ⟨rfl,hb⟩;replace H:=H.grew hb.below;clear hb));refine wp_region_h H 5 [] [] (by kernel_rfl) (by kernel_rfl) ?_;apply Exists.intro;refine ⟨fun w1 hw1 HX=>?_,fun bs wr Hr=>?_⟩
   ·refine sG ?_;repeat (first|refine sQ ?_|go_big_quiet_step ((go_at_call 76;exact quiet_st (wletter_l b HB.out _)))|go_big_quiet_step (fail))
    exact wpQuiet_nil rfl
   clear H;have H:=Hr;clear Hr;replace H:=sH H;refine sT ?_;go_wp2_with (first|refine sL ?_|(refine sS ?_;clear H;intros;rename_i H));refine (add_st (letterE b) (look_none HL.out) HF.out hlt _ (H.get pk)).mono ?_;rintro e wc ⟨lv2,rfl,hb⟩;replace H:=(H.pick pk).call hb;clear hb;go_wp2_with (first|refine sL ?_|(refine sS ?_;clear H;intros;rename_i H));go_ret2;exact StoPost.mk lv2 (by rw [HR.out];rfl) (by rw [HR.out];exact H.onlyHead)
theorem add_ok_e (a b:Nat) (w:World) (h:a+b<=maxT) :
  Calls Tryz.prog 61 #[.int .i64 a,.int .i64 b] w fun e w'=>e=.returned (.tuple #[.int .i64 (a+b:Nat),.nilIface])∧w'=w:=add_ok a b w h
theorem add_long_e (a b:Nat) (w:World) (ha:a<=maxT) (hb:b<=maxT) (h:maxT<a+b) :
  Calls Tryz.prog 61 #[.int .i64 a,.int .i64 b] w fun e w'=>e=.returned (.tuple #[.int .i64 0,.iface 73 (.int .i64 2)])∧w'=w:=add_long a b w ha hb h
theorem mul_ok_e (a k:Nat) (w:World) (ha:0<a) (ha':a<=maxT) (h:a*k<=maxT) :
  Calls Tryz.prog 101 #[.int .i64 a,.int .i64 k] w fun e w'=>e=.returned (.tuple #[.int .i64 (a*k:Nat),.nilIface])∧w'=w:=mul_ok a k _ rfl w ha ha' h
theorem mul_long_e (a k:Nat) (w:World) (ha:0<a) (ha':a<=maxT) (h:maxT<a*k) :
  Calls Tryz.prog 101 #[.int .i64 a,.int .i64 k] w fun e w'=>e=.returned (.tuple #[.int .i64 0,.iface 73 (.int .i64 2)])∧w'=w:=mul_long a k _ rfl w ha ha' h
theorem wjoin_l (a b:Wt) (ha:a.Ok) (hb:b.Ok) (hl:a.len+b.len<=maxT) (w:World) :
  Calls Tryz.prog 77 #[.agg #[.int .i64 a.len,.int .i64 a.lines,.int .i64 a.head,.int .i64 a.tail,.int .u64 a.val,.int .u64 a.scale],.agg #[.int .i64 b.len,.int .i64 b.lines,.int .i64 b.head,.int .i64 b.tail,.int .u64 b.val,.int .u64 b.scale]] w
   fun e w'=>e=.returned (.tuple #[.agg #[.int .i64 (a.join b).len,.int .i64 (a.join b).lines,.int .i64 (a.join b).head,.int .i64 (a.join b).tail,.int .u64 (a.join b).val,.int .u64 (a.join b).scale],.nilIface])∧St w [] [] w':=wjoin_c a b ha hb hl w
theorem wrepeat_l (x:Wt) (hx:x.Ok) (hp:0<x.len) (k:Nat) (hk:0<k) (hl:x.len*k<=maxT) (w:World) :
  Calls Tryz.prog 102 #[.agg #[.int .i64 x.len,.int .i64 x.lines,.int .i64 x.head,.int .i64 x.tail,.int .u64 x.val,.int .u64 x.scale],.int .i64 k] w
   fun e w'=>e=.returned (.tuple #[.agg #[.int .i64 (x.rep k).len,.int .i64 (x.rep k).lines,.int .i64 (x.rep k).head,.int .i64 (x.rep k).tail,.int .u64 (x.rep k).val,.int .u64 (x.rep k).scale],.nilIface])∧St w [] [] w':=wrepeat_c x hx hp k hk hl _ rfl w
theorem at_in {p m:Nat} {lv:Value} {S:Sto} {i:Nat} {x:En} (hx:S.list[i]?=some x) (w:World) (hs:(stoA p lv m S).ho w) :
  Calls Tryz.prog 73 #[.pointer (some ⟨p,0,none⟩),.int .i64 ((i:Int)+1)] w fun e w'=>e=.returned (.agg #[.int .i64 x.r.kind,.int .u8 x.r.letter,.int .i64 x.r.left,.int .i64 x.r.right,.int .i64 x.r.times,.int .i64 x.w.len,.int .i64 x.w.lines,.int .i64 x.w.head,.int .i64 x.w.tail,.int .u64 x.w.val,.int .u64 x.w.scale,.int .i64 x.depth,.bool x.even])∧St w [] [] w':=at_c hx _ rfl w hs
theorem calls_arg {P:Program} {f:FuncId} {xs ys:Array Value} {w:World} {Q:Ending->World->Prop} (e:xs=ys) (h:Calls P f ys w Q):Calls P f xs w Q:=e ▸ h
theorem pair_in {p m:Nat} {lv:Value} {S:Sto} (h:S.Ok) (l r:Nat) (x y:En) (hx:S.list[l]?=some x) (hy:S.list[r]?=some y) (hs2:x.w.len+y.w.len<=maxT) (w:World) (hs:(stoA p lv m S).ho w) :
  Calls Tryz.prog 43 #[.pointer (some ⟨p,0,none⟩),.int .i64 ((l:Int)+1),.int .i64 ((r:Int)+1)] w (StoPost p m (stoA p lv m S).fp (S.put (pairE x y (l+1) (r+1))) w):=by
 have H:=St.one hs;generalize (stoA p lv m S).fp=M at H ⊢;have hlen:=h.len;have hmost:=h.most;have hli:=getElem_len hx;have hri:=getElem_len hy;have gx:=h.good l x hx;have gy:=h.good r y hy;have hdx:=gx.depth;have hdy:=gy.depth;have HG:=zh (za gx (za gy hs2));have HX0:=zh (za hx hy);have HO:=zh h;obtain ⟨rl,hrl⟩:∃ rl,rl=(⟨2,0,l+1,r+1,0⟩:Rl):=⟨_,rfl⟩
 have HF:Hid (Rl.Fits ⟨2,0,l+1,r+1,0⟩):=zh ⟨by simp,by simp,by simp;omega,by simp;omega,by simp⟩;clear hs hx hy gx gy hs2 hrl rl;cases hl:S.look ⟨2,0,l+1,r+1,0⟩ with
 |some i =>
  have HR:Hid (S.put (pairE x y (l+1) (r+1))=((i+1,none),S)):=zh (by simp [Sto.put,pairE,hl]);have HL:=zh hl;clear hl h;go_enter Tryz.func43,Tryz.ntmps43;go_wp2_with (first|refine sL ?_|(refine sS ?_;clear H;intros;rename_i H)|(go_at_call 72;refine same (known_yes _ _ (H.get pk) (by omega) (by omega)) ?_));refine (at_in HX0.out.1 _ (H.get pk)).mono ?_;rintro e wc ⟨rfl,hb⟩;replace H:=H.grew hb.below;clear hb;go_wp2_with (first|refine sL ?_|(refine sS ?_;clear H;intros;rename_i H));refine (at_in HX0.out.2 _ (H.get pk)).mono ?_;rintro e wc ⟨rfl,hb⟩;replace H:=H.grew hb.below;clear hb;go_wp2_with (first|refine sL ?_|(refine sS ?_;clear H;intros;rename_i H)|(go_at_call 61;refine same (add_ok_e x.w.len y.w.len _ HG.out.2.2) ?_)|(go_at_call 74;refine (find_hit_r ⟨2,0,l+1,r+1,0⟩ HO.out HL.out _ (H.get pk)).mono ?_;rintro e wc ⟨rfl,hb⟩;replace H:=H.grew hb.below;clear hb));go_ret2;exact StoPost.mk lv (by rw [HR.out];rfl) (by rw [HR.out];exact H.only pk)
 |none =>
  have HL:=zh hl;by_cases hm:S.most<=S.list.length
  ·have HR:Hid (S.put (pairE x y (l+1) (r+1))=((0,some 3),S)):=zh (by simp [Sto.put,pairE,hl,hm]);have HM:=zh hm;clear hl h hm;go_enter Tryz.func43,Tryz.ntmps43;go_wp2_with (first|refine sL ?_|(refine sS ?_;clear H;intros;rename_i H)|(go_at_call 72;refine same (known_yes _ _ (H.get pk) (by omega) (by omega)) ?_));refine (at_in HX0.out.1 _ (H.get pk)).mono ?_;rintro e wc ⟨rfl,hb⟩;replace H:=H.grew hb.below;clear hb;go_wp2_with (first|refine sL ?_|(refine sS ?_;clear H;intros;rename_i H));refine (at_in HX0.out.2 _ (H.get pk)).mono ?_;rintro e wc ⟨rfl,hb⟩;replace H:=H.grew hb.below;clear hb;go_wp2_with (first|refine sL ?_|(refine sS ?_;clear H;intros;rename_i H)|(go_at_call 61;refine same (add_ok_e x.w.len y.w.len _ HG.out.2.2) ?_)|(go_at_call 74;refine (find_full_r ⟨2,0,l+1,r+1,0⟩ HF.out HO.out HL.out HM.out _ (H.get pk)).mono ?_;rintro e wc ⟨rfl,hb⟩;replace H:=H.grew hb.below;clear hb));go_ret2;exact StoPost.mk lv (by rw [HR.out];rfl) (by rw [HR.out];exact H.only pk)
  ·have HR:Hid (S.put (pairE x y (l+1) (r+1))=((S.list.length+1,none),⟨S.most,S.list++[pairE x y (l+1) (r+1)]⟩)):=zh (by simp [Sto.put,pairE,hl,hm]);have HM:=zh hm;have hlt:S.list.length<1048576:=(by omega);clear hl h hm;go_enter Tryz.func43,Tryz.ntmps43;go_wp2_with (first|refine sL ?_|(refine sS ?_;clear H;intros;rename_i H)|(go_at_call 72;refine same (known_yes _ _ (H.get pk) (by omega) (by omega)) ?_));refine (at_in HX0.out.1 _ (H.get pk)).mono ?_;rintro e wc ⟨rfl,hb⟩;replace H:=H.grew hb.below;clear hb;go_wp2_with (first|refine sL ?_|(refine sS ?_;clear H;intros;rename_i H));refine (at_in HX0.out.2 _ (H.get pk)).mono ?_;rintro e wc ⟨rfl,hb⟩;replace H:=H.grew hb.below;clear hb;go_wp2_with (first|refine sL ?_|(refine sS ?_;clear H;intros;rename_i H)|(go_at_call 61;refine same (add_ok_e x.w.len y.w.len _ HG.out.2.2) ?_)|(go_at_call 74;refine (find_new_r ⟨2,0,l+1,r+1,0⟩ HF.out HO.out HL.out HM.out _ (H.get pk)).mono ?_;rintro e wc ⟨rfl,hb⟩;replace H:=H.grew hb.below;clear hb));refine (wjoin_l x.w y.w HG.out.1.wok HG.out.2.1.wok HG.out.2.2 _).mono ?_;rintro e wc ⟨rfl,hb⟩;replace H:=H.grew hb.below;clear hb;obtain ⟨ex,hex⟩:∃ ex,ex=x.even:=⟨_,rfl⟩
   obtain ⟨ey,hey⟩:∃ ey,ey=y.even:=⟨_,rfl⟩
   rw [← hex,← hey] at H;have HEX:=zh hex;have HEY:=zh hey;clear hex hey;cases ex <;> cases ey <;> by_cases h1:x.depth<=y.depth+1 <;> by_cases h2:y.depth<=x.depth+1
   all_goals first
    |(exfalso;omega)
    |skip
   all_goals
    go_wp2_with (first|refine sL ?_|(refine sS ?_;clear H;intros;rename_i H));all_goals
     refine calls_arg (ys:=#[.pointer (some ⟨p,0,none⟩),.agg (enL (pairE x y (l+1) (r+1))).toArray]) ?_ ((add_st (pairE x y (l+1) (r+1)) (look_none HL.out) HF.out hlt _ (H.get pk)).mono ?_)
     ·simp [enL,pairE,← HEX.out,← HEY.out,h1,h2];try omega
     rintro e wc ⟨lv2,rfl,hb⟩;replace H:=(H.pick pk).call hb;clear hb;go_wp2_with (first|refine sL ?_|(refine sS ?_;clear H;intros;rename_i H));go_ret2;exact StoPost.mk lv2 (by rw [HR.out];rfl) (by rw [HR.out];exact H.onlyHead)
end
section
open Go.RowKit Go.Maps
attribute [local go_sem] InGr
theorem pair_long {p m:Nat} {lv:Value} {S:Sto} (h:S.Ok) (l r:Nat) (x y:En) (hx:S.list[l]?=some x) (hy:S.list[r]?=some y) (hs2:maxT<x.w.len+y.w.len) (w:World) (hs:(stoA p lv m S).ho w) :
  Calls Tryz.prog 43 #[.pointer (some ⟨p,0,none⟩),.int .i64 ((l:Int)+1),.int .i64 ((r:Int)+1)] w (StoPost p m (stoA p lv m S).fp ((0,some 2),S) w):=by
 have H:=St.one hs;generalize (stoA p lv m S).fp=M at H ⊢;have hlen:=h.len;have hmost:=h.most;have hli:=getElem_len hx;have hri:=getElem_len hy;have gx:=h.good l x hx;have gy:=h.good r y hy;have HG:=zh (za gx.wok.len (za gy.wok.len hs2));have HX0:=zh (za hx hy);clear hs hx hy gx gy hs2 h;go_enter Tryz.func43,Tryz.ntmps43;go_wp2_with (first|refine sL ?_|(refine sS ?_;clear H;intros;rename_i H)|(go_at_call 72;refine same (known_yes _ _ (H.get pk) (by omega) (by omega)) ?_));refine (at_in HX0.out.1 _ (H.get pk)).mono ?_;rintro e wc ⟨rfl,hb⟩;replace H:=H.grew hb.below;clear hb;go_wp2_with (first|refine sL ?_|(refine sS ?_;clear H;intros;rename_i H));refine (at_in HX0.out.2 _ (H.get pk)).mono ?_;rintro e wc ⟨rfl,hb⟩;replace H:=H.grew hb.below;clear hb;go_wp2_with (first|refine sL ?_|(refine sS ?_;clear H;intros;rename_i H)|(go_at_call 61;refine same (add_long_e x.w.len y.w.len _ HG.out.1 HG.out.2.1 HG.out.2.2) ?_));go_ret2;exact StoPost.mk lv rfl (H.only pk)
theorem pair_left {p m:Nat} {lv:Value} {S:Sto} (h:S.Ok) (r:Nat) (hr:r<=S.list.length) (w:World) (hs:(stoA p lv m S).ho w) :
  Calls Tryz.prog 43 #[.pointer (some ⟨p,0,none⟩),.int .i64 0,.int .i64 (r:Int)] w (StoPost p m (stoA p lv m S).fp ((r,none),S) w):=by
 have H:=St.one hs;generalize (stoA p lv m S).fp=M at H ⊢;have hlen:=h.len;have hmost:=h.most;clear hs h;go_enter Tryz.func43,Tryz.ntmps43;go_wp2_with (first|refine sL ?_|(refine sS ?_;clear H;intros;rename_i H)|(go_at_call 72;refine same (known_yes _ _ (H.get pk) (by omega) (by omega)) ?_));go_ret2;exact StoPost.mk lv rfl (H.only pk)
theorem pair_right {p m:Nat} {lv:Value} {S:Sto} (h:S.Ok) (l:Nat) (hr:l<S.list.length) (w:World) (hs:(stoA p lv m S).ho w) :
  Calls Tryz.prog 43 #[.pointer (some ⟨p,0,none⟩),.int .i64 ((l:Int)+1),.int .i64 0] w (StoPost p m (stoA p lv m S).fp ((l+1,none),S) w):=by
 have H:=St.one hs;generalize (stoA p lv m S).fp=M at H ⊢;have hlen:=h.len;have hmost:=h.most;clear hs h;go_enter Tryz.func43,Tryz.ntmps43;go_wp2_with (first|refine sL ?_|(refine sS ?_;clear H;intros;rename_i H)|(go_at_call 72;refine same (known_yes _ _ (H.get pk) (by omega) (by omega)) ?_));go_ret2;exact StoPost.mk lv rfl (H.only pk)
theorem pair_c {p m:Nat} {lv:Value} {S:Sto} (h:S.Ok) (l r:Nat) (hl:l<=S.list.length) (hr:r<=S.list.length) (w:World) (hs:(stoA p lv m S).ho w) :
  Calls Tryz.prog 43 #[.pointer (some ⟨p,0,none⟩),.int .i64 (l:Int),.int .i64 (r:Int)] w (StoPost p m (stoA p lv m S).fp (S.pair l r) w):=by
 obtain ⟨x,hx⟩:=enAt_some hl;obtain ⟨y,hy⟩:=enAt_some hr;unfold Sto.pair;simp only [hx,hy];cases l with
 |zero=>exact pair_left h r hr w hs
 |succ l =>
  rw [if_neg (by omega)];cases r with
  |zero=>exact pair_right h l hl w hs
  |succ r =>
   rw [if_neg (by omega)];split
   ·rename_i hlong;exact pair_long h l r x y hx hy hlong w hs
   ·rename_i hlong;exact pair_in h l r x y hx hy (by omega) w hs
theorem power_none {p m:Nat} {lv:Value} {S:Sto} (h:S.Ok) (x k:Nat) (hx:x<=S.list.length) (hk:k<9223372036854775808) (h0:k=0∨x=0) (w:World) (hs:(stoA p lv m S).ho w) :
  Calls Tryz.prog 70 #[.pointer (some ⟨p,0,none⟩),.int .i64 (x:Int),.int .i64 (k:Int)] w (StoPost p m (stoA p lv m S).fp ((0,none),S) w):=by
 have H:=St.one hs;generalize (stoA p lv m S).fp=M at H ⊢;have hlen:=h.len;have hmost:=h.most;clear hs h;by_cases hk0:k=0
 ·subst hk0;clear h0;go_enter Tryz.func70,Tryz.ntmps70;go_wp2_with (first|refine sL ?_|(refine sS ?_;clear H;intros;rename_i H)|(go_at_call 72;refine same (known_yes _ _ (H.get pk) (by omega) (by omega)) ?_));go_ret2;exact StoPost.mk lv rfl (H.only pk)
 ·obtain rfl:x=0:=by omega
  clear h0;have hk1:((k:Int)==0)=false:=(by rw [beq_eq_false_iff_ne];omega);go_enter Tryz.func70,Tryz.ntmps70;go_wp2_with (first|refine sL ?_|(refine sS ?_;clear H;intros;rename_i H)|(go_at_call 72;refine same (known_yes _ _ (H.get pk) (by omega) (by omega)) ?_));go_ret2;exact StoPost.mk lv rfl (H.only pk)
theorem power_one {p m:Nat} {lv:Value} {S:Sto} (h:S.Ok) (x:Nat) (hx:x<S.list.length) (w:World) (hs:(stoA p lv m S).ho w) :
  Calls Tryz.prog 70 #[.pointer (some ⟨p,0,none⟩),.int .i64 ((x:Int)+1),.int .i64 1] w (StoPost p m (stoA p lv m S).fp ((x+1,none),S) w):=by
 have H:=St.one hs;generalize (stoA p lv m S).fp=M at H ⊢;have hlen:=h.len;have hmost:=h.most;clear hs h;go_enter Tryz.func70,Tryz.ntmps70;go_wp2_with (first|refine sL ?_|(refine sS ?_;clear H;intros;rename_i H)|(go_at_call 72;refine same (known_yes _ _ (H.get pk) (by omega) (by omega)) ?_));go_ret2;exact StoPost.mk lv rfl (H.only pk)
theorem power_long {p m:Nat} {lv:Value} {S:Sto} (h:S.Ok) (l k:Nat) (x:En) (hx:S.list[l]?=some x) (hk2:2<=k) (hk:k<9223372036854775808) (hs2:maxT<x.w.len*k) (w:World) (hs:(stoA p lv m S).ho w) :
  Calls Tryz.prog 70 #[.pointer (some ⟨p,0,none⟩),.int .i64 ((l:Int)+1),.int .i64 (k:Int)] w (StoPost p m (stoA p lv m S).fp ((0,some 2),S) w):=by
 have H:=St.one hs;generalize (stoA p lv m S).fp=M at H ⊢;have hlen:=h.len;have hmost:=h.most;have hli:=getElem_len hx;have gx:=h.good l x hx;have HG:=zh (za gx.pos (za gx.wok.len hs2));have HX0:=zh hx;have hk0:((k:Int)==0)=false:=(by rw [beq_eq_false_iff_ne];omega);have hk1:((k:Int)==1)=false:=(by rw [beq_eq_false_iff_ne];omega);clear hs hx gx hs2 h;go_enter Tryz.func70,Tryz.ntmps70;go_wp2_with (first|refine sL ?_|(refine sS ?_;clear H;intros;rename_i H)|(go_at_call 72;refine same (known_yes _ _ (H.get pk) (by omega) (by omega)) ?_));refine (at_in HX0.out _ (H.get pk)).mono ?_;rintro e wc ⟨rfl,hb⟩;replace H:=H.grew hb.below;clear hb;go_wp2_with (first|refine sL ?_|(refine sS ?_;clear H;intros;rename_i H)|(go_at_call 101;refine same (mul_long_e x.w.len k _ HG.out.1 HG.out.2.1 HG.out.2.2) ?_));go_ret2;exact StoPost.mk lv rfl (H.only pk)
theorem power_in {p m:Nat} {lv:Value} {S:Sto} (h:S.Ok) (l k:Nat) (x:En) (hx:S.list[l]?=some x) (hk2:2<=k) (hs2:x.w.len*k<=maxT) (w:World) (hs:(stoA p lv m S).ho w) :
  Calls Tryz.prog 70 #[.pointer (some ⟨p,0,none⟩),.int .i64 ((l:Int)+1),.int .i64 (k:Int)] w (StoPost p m (stoA p lv m S).fp (S.put (powerE x (l+1) k)) w):=by
 have H:=St.one hs;generalize (stoA p lv m S).fp=M at H ⊢;have hlen:=h.len;have hmost:=h.most;have hli:=getElem_len hx;have gx:=h.good l x hx;have hdx:=gx.depth;have hkm:k<=1152921504606846976:=Nat.le_trans (Nat.le_mul_of_pos_left k gx.pos) hs2;have HG:=zh (za gx hs2);have HX0:=zh hx;have HO:=zh h;have HF:Hid (Rl.Fits ⟨3,0,l+1,0,k⟩):=zh ⟨by simp,by simp,by simp;omega,by simp,by simp;omega⟩;have hk0:((k:Int)==0)=false:=(by rw [beq_eq_false_iff_ne];omega);have hk1:((k:Int)==1)=false:=(by rw [beq_eq_false_iff_ne];omega);clear hs hx gx hs2;cases hl:S.look ⟨3,0,l+1,0,k⟩ with
 |some i =>
  have HR:Hid (S.put (powerE x (l+1) k)=((i+1,none),S)):=zh (by simp [Sto.put,powerE,hl]);have HL:=zh hl;clear hl h;go_enter Tryz.func70,Tryz.ntmps70;go_wp2_with (first|refine sL ?_|(refine sS ?_;clear H;intros;rename_i H)|(go_at_call 72;refine same (known_yes _ _ (H.get pk) (by omega) (by omega)) ?_));refine (at_in HX0.out _ (H.get pk)).mono ?_;rintro e wc ⟨rfl,hb⟩;replace H:=H.grew hb.below;clear hb;go_wp2_with (first|refine sL ?_|(refine sS ?_;clear H;intros;rename_i H)|(go_at_call 101;refine same (mul_ok_e x.w.len k _ HG.out.1.pos HG.out.1.wok.len HG.out.2) ?_)|(go_at_call 74;refine (find_hit_r ⟨3,0,l+1,0,k⟩ HO.out HL.out _ (H.get pk)).mono ?_;rintro e wc ⟨rfl,hb⟩;replace H:=H.grew hb.below;clear hb));go_ret2;exact StoPost.mk lv (by rw [HR.out];rfl) (by rw [HR.out];exact H.only pk)
 |none =>
  have HL:=zh hl;by_cases hm:S.most<=S.list.length
  ·have HR:Hid (S.put (powerE x (l+1) k)=((0,some 3),S)):=zh (by simp [Sto.put,powerE,hl,hm]);have HM:=zh hm;clear hl h hm;go_enter Tryz.func70,Tryz.ntmps70;go_wp2_with (first|refine sL ?_|(refine sS ?_;clear H;intros;rename_i H)|(go_at_call 72;refine same (known_yes _ _ (H.get pk) (by omega) (by omega)) ?_));refine (at_in HX0.out _ (H.get pk)).mono ?_;rintro e wc ⟨rfl,hb⟩;replace H:=H.grew hb.below;clear hb;go_wp2_with (first|refine sL ?_|(refine sS ?_;clear H;intros;rename_i H)|(go_at_call 101;refine same (mul_ok_e x.w.len k _ HG.out.1.pos HG.out.1.wok.len HG.out.2) ?_)|(go_at_call 74;refine (find_full_r ⟨3,0,l+1,0,k⟩ HF.out HO.out HL.out HM.out _ (H.get pk)).mono ?_;rintro e wc ⟨rfl,hb⟩;replace H:=H.grew hb.below;clear hb));go_ret2;exact StoPost.mk lv (by rw [HR.out];rfl) (by rw [HR.out];exact H.only pk)
  ·have HR:Hid (S.put (powerE x (l+1) k)=((S.list.length+1,none),⟨S.most,S.list++[powerE x (l+1) k]⟩)):=zh (by simp [Sto.put,powerE,hl,hm]);have HM:=zh hm;have hlt:S.list.length<1048576:=(by omega);clear hl h hm;go_enter Tryz.func70,Tryz.ntmps70;go_wp2_with (first|refine sL ?_|(refine sS ?_;clear H;intros;rename_i H)|(go_at_call 72;refine same (known_yes _ _ (H.get pk) (by omega) (by omega)) ?_));refine (at_in HX0.out _ (H.get pk)).mono ?_;rintro e wc ⟨rfl,hb⟩;replace H:=H.grew hb.below;clear hb;go_wp2_with (first|refine sL ?_|(refine sS ?_;clear H;intros;rename_i H)|(go_at_call 101;refine same (mul_ok_e x.w.len k _ HG.out.1.pos HG.out.1.wok.len HG.out.2) ?_)|(go_at_call 74;refine (find_new_r ⟨3,0,l+1,0,k⟩ HF.out HO.out HL.out HM.out _ (H.get pk)).mono ?_;rintro e wc ⟨rfl,hb⟩;replace H:=H.grew hb.below;clear hb));refine (wrepeat_l x.w HG.out.1.wok HG.out.1.pos k (by omega) HG.out.2 _).mono ?_;rintro e wc ⟨rfl,hb⟩;replace H:=H.grew hb.below;clear hb;go_wp2_with (first|refine sL ?_|(refine sS ?_;clear H;intros;rename_i H));refine calls_arg (ys:=#[.pointer (some ⟨p,0,none⟩),.agg (enL (powerE x (l+1) k)).toArray]) ?_ ((add_st (powerE x (l+1) k) (look_none HL.out) HF.out hlt _ (H.get pk)).mono ?_)
   ·simp [enL,powerE]
   rintro e wc ⟨lv2,rfl,hb⟩;replace H:=(H.pick pk).call hb;clear hb;go_wp2_with (first|refine sL ?_|(refine sS ?_;clear H;intros;rename_i H));go_ret2;exact StoPost.mk lv2 (by rw [HR.out];rfl) (by rw [HR.out];exact H.onlyHead)
theorem power_c {p m:Nat} {lv:Value} {S:Sto} (h:S.Ok) (x k:Nat) (hx:x<=S.list.length) (hk:k<9223372036854775808) (w:World) (hs:(stoA p lv m S).ho w) :
  Calls Tryz.prog 70 #[.pointer (some ⟨p,0,none⟩),.int .i64 (x:Int),.int .i64 (k:Int)] w (StoPost p m (stoA p lv m S).fp (S.power x k) w):=by
 obtain ⟨e,he⟩:=enAt_some hx;unfold Sto.power;simp only [he];by_cases h0:k=0∨x=0
 ·rw [if_pos h0];exact power_none h x k hx hk h0 w hs
 ·rw [if_neg h0];simp at h0;obtain ⟨l,rfl⟩:=Nat.exists_eq_succ_of_ne_zero h0.2;by_cases h1:k=1
  ·rw [if_pos h1];subst h1;exact power_one h l hx w hs
  ·rw [if_neg h1];split
   ·rename_i h2;exact power_long h l k e he (by omega) hk h2 w hs
   ·rename_i h2;exact power_in h l k e he (by omega) (by omega) w hs
end
section
inductive Tr where
 |leaf (b:Nat)
 |pair (l r:Tr)
 |pow (s:Tr) (k:Nat)
 deriving DecidableEq,Inhabited
def mixN (k x y:Nat):Nat:=((k+(1234567890123456789*x+987654321987654321*y)) ^ 17)%PP
theorem mixN_lt (k x y:Nat):mixN k x y<2305843009213693951:=by
 unfold mixN;rw [PP_eq];exact Nat.mod_lt _ (by decide)
def Tr.key:Tr->Nat
 |.leaf b=>mixN 1 b 0
 |.pair l r=>mixN 2 l.key r.key
 |.pow s k=>mixN 3 s.key k
theorem Tr.key_lt (t:Tr):t.key<2305843009213693951:=by cases t <;> exact mixN_lt _ _ _
def fitsN (x y L:Nat):Bool :=
 if L<2∨L%2=1 then false
 else if (L/2-1)%123=122 then decide (x=y)
 else decide (x/2 ^ ((L/2-1)%123/2)%2=(L/2-1)%123%2)&&decide (y/2 ^ ((L/2-1)%123/2)%2=1-(L/2-1)%123%2)
theorem fits_num {x y:Nat} (hx:x<2305843009213693951) (hy:y<2305843009213693951):∃ c,c<123∧∀ L,2<=L->L%2=0->(L/2-1)%123=c->fitsN x y L=true:=by
 by_cases h:x=y
 ·refine ⟨122,by omega,fun L h2 h0 hc=>?_⟩;unfold fitsN;rw [if_neg (by omega),if_pos hc];simpa using h
 ·have hb:∃ i,i<61∧x/2 ^ i%2≠y/2 ^ i%2:=by
   refine Classical.byContradiction fun hn=>h (Nat.eq_of_testBit_eq fun i=>?_)
   rw [Nat.testBit_eq_decide_div_mod_eq,Nat.testBit_eq_decide_div_mod_eq];by_cases hi:i<61
   ·have:x/2 ^ i%2=y/2 ^ i%2:=Classical.byContradiction fun hne=>hn ⟨i,hi,hne⟩
    rw [this]
   ·have hp:2305843009213693952<=2 ^ i:=by
     have:=Nat.pow_le_pow_right (n:=2) (by omega) (show 61<=i by omega);simpa using this
    rw [Nat.div_eq_of_lt (by omega),Nat.div_eq_of_lt (by omega)]
  obtain ⟨i,hi,hne⟩:=hb;refine ⟨2*i+x/2 ^ i%2,by omega,fun L h2 h0 hc=>?_⟩;unfold fitsN;rw [if_neg (by omega),if_neg (by omega),hc,show (2*i+x/2 ^ i%2)/2=i by omega];simp;omega
theorem fits_exists {x y:Nat} (hx:x<2305843009213693951) (hy:y<2305843009213693951) (low:Nat):∃ m,m<123∧fitsN x y (2*(low/2+1)+2*m)=true:=by
 obtain ⟨c,hc,h⟩:=fits_num hx hy;refine ⟨(c+123-(low/2)%123)%123,Nat.mod_lt _ (by omega),h _ (by omega) (by omega) ?_⟩;omega
def afterN (low x y:Nat):Nat:=2*(low/2+1)+2*(((List.range 123).find? fun m=>fitsN x y (2*(low/2+1)+2*m)).getD 0)
theorem afterN_of {low x y L:Nat} (h:low<L) (h2:L%2=0) (hL:L<=low+246) (hf:fitsN x y L=true) (hn:∀ L',low<L'->L'%2=0->L'<L->fitsN x y L'=false):afterN low x y=L:=by
 have hm:(List.range 123).find? (fun m=>fitsN x y (2*(low/2+1)+2*m))=some (L/2-(low/2+1)):=by
  rw [List.find?_range_eq_some];refine ⟨?_,?_,fun j hj=>?_⟩
  ·rw [show 2*(low/2+1)+2*(L/2-(low/2+1))=L by omega];exact hf
  ·rw [List.mem_range];omega
  ·rw [hn _ (by omega) (by omega) (by omega)];rfl
 unfold afterN;rw [hm];simp only [Option.getD_some];omega
theorem afterN_spec {x y:Nat} (hx:x<2305843009213693951) (hy:y<2305843009213693951) (low:Nat):low<afterN low x y∧afterN low x y<=low+246∧afterN low x y%2=0∧fitsN x y (afterN low x y)=true∧∀ L',low<L'->L'%2=0->L'<afterN low x y->fitsN x y L'=false:=by
 obtain ⟨m,hm,h⟩:=fits_exists hx hy low;cases hf:(List.range 123).find? (fun m=>fitsN x y (2*(low/2+1)+2*m)) with
 |none =>
  rw [List.find?_eq_none] at hf;exact absurd h (by simpa using hf m (by simpa using hm))
 |some q =>
  have e:afterN low x y=2*(low/2+1)+2*q:=by
   unfold afterN;rw [hf];rfl
  rw [List.find?_range_eq_some] at hf;obtain ⟨h1,h2,h3⟩:=hf;rw [List.mem_range] at h2;rw [e];refine ⟨by omega,by omega,by omega,h1,fun L' a b c=>?_⟩;have:=h3 (L'/2-(low/2+1)) (by omega);rw [show 2*(low/2+1)+2*(L'/2-(low/2+1))=L' by omega] at this;simpa using this
def Tr.lev:Tr->Option Nat
 |.leaf _=>some 0
 |.pair l r=>if l=r then none else match l.lev,r.lev with|some a,some b=>some (afterN (max a b) l.key r.key)|_,_=>none
 |.pow s _=>match s.lev with|some a=>if a%2=0 then some (a+1) else none|none=>none
def fits (L:Nat) (x y:Tr):Bool:=fitsN x.key y.key L
def pairsF (f:Tr->Tr->Bool):List Tr->List Tr
 |[]=>[]
 |[x]=>[x]
 |x::y::r=>if f x y then .pair x y::pairsF f r else x::pairsF f (y::r)
def groups:List Tr->List (Tr×Nat)
 |[]=>[]
 |x::r=>match groups r with|[]=>[(x,1)]|(y,k)::g=>if x=y then (y,k+1)::g else (x,1)::(y,k)::g
def powT (p:Tr×Nat):Tr:=if p.2=1 then p.1 else .pow p.1 p.2
def runs (l:List Tr):List Tr:=(groups l).map powT
def stepP (L:Nat) (l:List Tr):List Tr:=if L%2=1 then runs l else pairsF (fits L) l
def seqP (s:List Tr):Nat->List Tr
 |0=>s
 |m+1=>stepP (m+1) (seqP s m)
def Ch (R:Tr->Tr->Prop):List Tr->Prop
 |[]=>True
 |[_]=>True
 |x::y::r=>R x y∧Ch R (y::r)
theorem Ch.tail {R:Tr->Tr->Prop} {x:Tr} {l:List Tr} (h:Ch R (x::l)):Ch R l:=by
 cases l with
 |nil=>trivial
 |cons y r=>exact h.2
theorem Ch.cons {R:Tr->Tr->Prop} {x:Tr} {l:List Tr} (h:∀ y,l.head?=some y->R x y) (hl:Ch R l):Ch R (x::l):=by
 cases l with
 |nil=>trivial
 |cons y r=>exact ⟨h y rfl,hl⟩
theorem Ch.mono {R R':Tr->Tr->Prop}:∀ {l:List Tr},(∀ x∈l,∀ y∈l,R x y->R' x y)->Ch R l->Ch R' l
 |[],_,_=>trivial
 |[_],_,_=>trivial
 |x::y::r,h,⟨h1,h2⟩=>⟨h x (by simp) y (by simp) h1,Ch.mono (fun a ha b hb=>h a (by simp at ha ⊢;exact .inr ha) b (by simp at hb ⊢;exact .inr hb)) h2⟩
def Tr.Upto (m:Nat) (t:Tr):Prop:=∃ a,t.lev=some a∧a<=m
structure Nb (m:Nat) (x y:Tr):Prop where
 eq:x=y->m%2=0∧x.lev=some m
 fit:∀ L a b,x.lev=some a->y.lev=some b->a<L->b<L->L<=m->fits L x y=false
theorem groups_head (x:Tr) (l:List Tr):∃ k g,groups (x::l)=(x,k)::g:=by
 unfold groups;split
 ·exact ⟨_,_,rfl⟩
 ·split
  ·rename_i h;subst h;exact ⟨_,_,rfl⟩
  ·exact ⟨_,_,rfl⟩
theorem groups_ne:∀ (l:List Tr),∀ p∈groups l,1<=p.2∧p.1∈l
 |[],p,h=>by simp [groups] at h
 |x::r,p,h=>by
  have ih:=groups_ne r;unfold groups at h;split at h
  ·simp at h;subst h;simp
  ·rename_i y k g hg;rw [hg] at ih;split at h
   ·rename_i e;rcases List.mem_cons.1 h with rfl|h
    ·exact ⟨by simp,by simp [e]⟩
    ·exact ⟨(ih p (by simp [h])).1,by simp [(ih p (by simp [h])).2]⟩
   ·rcases List.mem_cons.1 h with rfl|h
    ·simp
    ·exact ⟨(ih p h).1,by simp [(ih p h).2]⟩
theorem groups_flat:∀ (l:List Tr),(groups l).flatMap (fun p=>List.replicate p.2 p.1)=l
 |[]=>rfl
 |x::r=>by
  have ih:=groups_flat r;unfold groups;split
  ·rename_i h;rw [h] at ih;simp at ih ⊢;exact ih
  ·rename_i y k g h;rw [h] at ih;split
   ·rename_i e;subst e;simp only [List.flatMap_cons,List.replicate_succ,List.cons_append] at ih ⊢;rw [ih]
   ·simp only [List.flatMap_cons,List.replicate_succ,List.replicate_zero,List.cons_append,List.nil_append] at ih ⊢;rw [ih]
def ChG (R:Tr×Nat->Tr×Nat->Prop):List (Tr×Nat)->Prop
 |[]=>True
 |[_]=>True
 |x::y::r=>R x y∧ChG R (y::r)
theorem groups_ch {R:Tr->Tr->Prop}:∀ {l:List Tr},Ch R l->ChG (fun p q=>p.1≠q.1∧R p.1 q.1) (groups l)
 |[],_=>trivial
 |[x],_=>trivial
 |x::y::r,⟨h1,h2⟩=>by
  have ih:=groups_ch h2;obtain ⟨k,g,hg⟩:=groups_head y r;rw [groups,hg];rw [hg] at ih;simp only;split
  ·rename_i e;subst e;cases g with
   |nil=>trivial
   |cons q g=>exact ⟨ih.1,ih.2⟩
  ·rename_i e;exact ⟨⟨e,h1⟩,ih⟩
theorem groups_two {R:Tr->Tr->Prop}:∀ {l:List Tr},Ch R l->∀ p∈groups l,2<=p.2->R p.1 p.1
 |[],_,p,h,_=>by simp [groups] at h
 |[x],_,p,h,h2=>by simp [groups] at h;subst h;simp at h2
 |x::y::r,⟨h1,hc⟩,p,h,h2=>by
  have ih:=groups_two hc;obtain ⟨k,g,hg⟩:=groups_head y r;rw [groups,hg] at h;rw [hg] at ih;simp only at h;split at h
  ·rename_i e;subst e;rcases List.mem_cons.1 h with rfl|h
   ·exact h1
   ·exact ih p (by simp [h]) h2
  ·rcases List.mem_cons.1 h with rfl|h
   ·simp at h2
   ·exact ih p h h2
theorem chG_map {R:Tr×Nat->Tr×Nat->Prop} {R':Tr->Tr->Prop}:∀ {l:List (Tr×Nat)},(∀ p∈l,∀ q∈l,R p q->R' (powT p) (powT q))->ChG R l->Ch R' (l.map powT)
 |[],_,_=>trivial
 |[_],_,_=>trivial
 |x::y::r,h,⟨h1,h2⟩=>⟨h x (by simp) y (by simp) h1,chG_map (l:=y::r) (fun a ha b hb=>h a (by simp at ha ⊢;exact .inr ha) b (by simp at hb ⊢;exact .inr hb)) h2⟩
structure Lvl (m:Nat) (l:List Tr):Prop where
 upto:∀ t∈l,t.Upto m
 nb:Ch (Nb m) l
theorem lev_pow {x:Tr} {m k:Nat} (h:x.lev=some m) (he:m%2=0):(Tr.pow x k).lev=some (m+1):=by simp [Tr.lev,h,he]
theorem Lvl.runs {m:Nat} (he:m%2=0) {l:List Tr} (h:Lvl m l):Lvl (m+1) (runs l):=by
 have hp:∀ p∈groups l,(p.2=1∧powT p=p.1∧p.1.Upto m)∨(p.2≠1∧powT p=.pow p.1 p.2∧p.1.lev=some m∧(powT p).lev=some (m+1)):=fun p hp=>by
  obtain ⟨h1,h2⟩:=groups_ne l p hp;by_cases h3:p.2=1
  ·exact .inl ⟨h3,by simp [powT,h3],h.upto _ h2⟩
  ·have:=(groups_two h.nb p hp (by omega)).eq rfl;exact .inr ⟨h3,by simp [powT,h3],this.2,by simp only [powT,if_neg h3];exact lev_pow this.2 he⟩
 refine ⟨fun t ht=>?_,?_⟩
 ·obtain ⟨p,hpm,rfl⟩:=List.mem_map.1 ht;rcases hp p hpm with ⟨_,h2,a,h3,h4⟩|⟨_,_,_,h3⟩
  ·rw [h2];exact ⟨a,h3,by omega⟩
  ·exact ⟨_,h3,Nat.le_refl _⟩
 ·refine chG_map (fun p hpm q hqm hr=>?_) (groups_ch h.nb);obtain ⟨hne,hnb⟩:=hr;refine ⟨fun e=>?_,fun L a b ha hb h1 h2 h3=>?_⟩
  ·exfalso;rcases hp p hpm with ⟨_,e1,a,h3,h4⟩|⟨_,e1,_,h3⟩ <;> rcases hp q hqm with ⟨_,e2,b,h5,h6⟩|⟨_,e2,_,h5⟩
   ·rw [e1,e2] at e;exact hne e
   ·rw [e] at e1;rw [← e1,h5] at h3;simp at h3;omega
   ·rw [← e] at e2;rw [← e2,h3] at h5;simp at h5;omega
   ·rw [e1,e2] at e;injection e with e;exact hne e
  ·rcases hp p hpm with ⟨_,e1,a',h4,h5⟩|⟨_,e1,_,h4⟩
   ·rcases hp q hqm with ⟨_,e2,b',h6,h7⟩|⟨_,e2,_,h6⟩
    ·rw [e1] at ha;rw [e2] at hb;rw [e1,e2];by_cases h8:L<=m
     ·exact hnb.fit L a b ha hb h1 h2 h8
     ·unfold fits fitsN;rw [if_pos (by omega)]
    ·rw [h6] at hb;simp at hb;omega
   ·rw [h4] at ha;simp at ha;omega
theorem pairsF_head (f:Tr->Tr->Bool) (x:Tr) (l:List Tr):∃ z r,pairsF f (x::l)=z::r∧(z=x∨∃ y l',l=y::l'∧f x y=true∧z=.pair x y):=by
 cases l with
 |nil=>exact ⟨x,[],rfl,.inl rfl⟩
 |cons y l =>
  by_cases h:f x y=true
  ·exact ⟨.pair x y,pairsF f l,by simp [pairsF,h],.inr ⟨y,l,rfl,h,rfl⟩⟩
  ·exact ⟨x,pairsF f (y::l),by simp [pairsF,h],.inl rfl⟩
theorem lev_pair {x y:Tr} {m a b:Nat} (hx:x.lev=some a) (hy:y.lev=some b) (ha:a<=m) (hb:b<=m) (hm:m%2=1) (hn:Nb m x y) (hf:fits (m+1) x y=true):(Tr.pair x y).lev=some (m+1):=by
 have hne:x≠y:=fun e=>by have:=(hn.eq e).1;omega
 simp only [Tr.lev,if_neg hne,hx,hy,Option.some.injEq];obtain ⟨s1,s2,s3,s4,s5⟩:=afterN_spec (Tr.key_lt x) (Tr.key_lt y) (max a b);have h1:afterN (max a b) x.key y.key<=m+1:=Nat.le_of_not_lt fun h=>by
  have:=s5 (m+1) (by omega) (by omega) h;unfold fits at hf;rw [hf] at this;cases this
 by_cases h2:afterN (max a b) x.key y.key<=m
 ·have:=hn.fit _ a b hx hy (by omega) (by omega) h2;unfold fits at this;rw [s4] at this;cases this
 ·omega
theorem Lvl.pairs {m:Nat} (ho:m%2=1):∀ {l:List Tr},Lvl m l->Lvl (m+1) (pairsF (fits (m+1)) l)
 |[],h=>⟨fun t ht=>by simp [pairsF] at ht,trivial⟩
 |[x],h=>⟨fun t ht=>by simp [pairsF] at ht;subst ht;obtain ⟨a,h1,h2⟩:=h.upto t (by simp);exact ⟨a,h1,by omega⟩,trivial⟩
 |x::y::r,h=>by
  obtain ⟨a,hx,ha⟩:=h.upto x (by simp);obtain ⟨b,hy,hb⟩:=h.upto y (by simp);unfold pairsF;split
  ·rename_i hf;have hl:=lev_pair hx hy ha hb ho h.nb.1 hf;have ih:=Lvl.pairs ho (l:=r) ⟨fun t ht=>h.upto t (by simp [ht]),h.nb.2.tail⟩;refine ⟨fun t ht=>?_,Ch.cons (fun z hz=>?_) ih.nb⟩
   ·rcases List.mem_cons.1 ht with rfl|ht
    ·exact ⟨_,hl,Nat.le_refl _⟩
    ·exact ih.upto t ht
   ·refine ⟨fun e=>⟨by omega,hl⟩,fun L a' b' ha' hb' h1 h2 h3=>?_⟩;rw [hl] at ha';simp at ha';omega
  ·rename_i hf;have ih:=Lvl.pairs ho (l:=y::r) ⟨fun t ht=>h.upto t (by simp at ht ⊢;exact .inr ht),h.nb.2⟩;refine ⟨fun t ht=>?_,Ch.cons (fun z hz=>?_) ih.nb⟩
   ·rcases List.mem_cons.1 ht with rfl|ht
    ·exact ⟨a,hx,by omega⟩
    ·exact ih.upto t ht
   ·obtain ⟨z',r',e,hz'⟩:=pairsF_head (fits (m+1)) y r;rw [e] at hz;obtain rfl:z'=z:=by simpa using hz
    rcases hz' with rfl|⟨u,l',rfl,hfu,rfl⟩
    ·refine ⟨fun e=>?_,fun L a' b' ha' hb' h1 h2 h3=>?_⟩
     ·have:=(h.nb.1.eq e).1;omega
     ·by_cases h4:L<=m
      ·exact h.nb.1.fit L a' b' ha' hb' h1 h2 h4
      ·rw [show L=m+1 by omega];simpa using hf
    ·obtain ⟨c,hu,hc⟩:=h.upto u (by simp);have hl:=lev_pair hy hu hb hc ho h.nb.2.1 hfu;refine ⟨fun e=>?_,fun L a' b' ha' hb' h1 h2 h3=>?_⟩
     ·rw [e,hl] at hx;simp at hx;omega
     ·rw [hl] at hb';simp at hb';omega
theorem Lvl.step {m:Nat} {l:List Tr} (h:Lvl m l):Lvl (m+1) (stepP (m+1) l):=by
 unfold stepP;split
 ·exact h.runs (by omega)
 ·exact h.pairs (by omega)
def Leaves (s:List Tr):Prop:=∀ t∈s,∃ b,t=.leaf b
theorem Lvl.zero {s:List Tr} (h:Leaves s):Lvl 0 s:=by
 refine ⟨fun t ht=>?_,?_⟩
 ·obtain ⟨b,rfl⟩:=h t ht;exact ⟨0,rfl,by omega⟩
 ·induction s with
  |nil=>trivial
  |cons x s ih =>
   refine Ch.cons (fun y hy=>⟨fun e=>⟨rfl,?_⟩,fun L a b ha hb h1 h2 h3=>by omega⟩) (ih fun t ht=>h t (by simp [ht]));obtain ⟨b,rfl⟩:=h x (by simp);rfl
theorem Lvl.seq {s:List Tr} (h:Leaves s):∀ m,Lvl m (seqP s m)
 |0=>Lvl.zero h
 |m+1=>(Lvl.seq h m).step
end
section
theorem gelt {α:Type} {l:List α} {i:Nat} {x:α} (h:l[i]?=some x):i<l.length:=(List.getElem?_eq_some_iff.1 h).1
def Tr.lv (t:Tr):Nat:=t.lev.getD 0
def Tr.lay (m:Nat):Tr->List Tr
 |.leaf b=>[.leaf b]
 |.pair l r=>if (Tr.pair l r).lv<=m then [.pair l r] else l.lay m++r.lay m
 |.pow s k=>if (Tr.pow s k).lv<=m then [.pow s k] else (List.replicate k (s.lay m)).flatten
def kids:Tr->List Tr
 |.leaf _=>[]
 |.pair l r=>[l,r]
 |.pow s k=>List.replicate k s
theorem lay_low {m:Nat} {t:Tr} (h:t.lv<=m):t.lay m=[t]:=by
 cases t <;> simp [Tr.lay,h]
theorem lay_high {m:Nat} {t:Tr} (h:m<t.lv):t.lay m=(kids t).flatMap (Tr.lay m):=by
 cases t with
 |leaf b=>simp [Tr.lv,Tr.lev] at h
 |pair l r=>simp [Tr.lay,kids,Nat.not_le.2 h]
 |pow s k=>simp [Tr.lay,kids,Nat.not_le.2 h,List.flatMap_replicate]
theorem flatMap_assoc' (l:List Tr) (f g:Tr->List Tr):(l.flatMap f).flatMap g=l.flatMap fun x=>(f x).flatMap g:=by
 induction l with
 |nil=>rfl
 |cons x l ih=>simp [ih]
theorem lay_lay {a m:Nat} (h:a<=m):∀ t:Tr,(t.lay m).flatMap (Tr.lay a)=t.lay a
 |.leaf b=>by simp [Tr.lay]
 |.pair l r=>by
  by_cases h1:(Tr.pair l r).lv<=m
  ·rw [lay_low h1];simp
  ·have e:(Tr.pair l r).lay m=l.lay m++r.lay m:=(by simp [Tr.lay,h1]);rw [e,List.flatMap_append,lay_lay h l,lay_lay h r,lay_high (t:=.pair l r) (show a<_ by omega)];simp [kids]
 |.pow s k=>by
  by_cases h1:(Tr.pow s k).lv<=m
  ·rw [lay_low h1];simp
  ·have e:(Tr.pow s k).lay m=(List.replicate k (s.lay m)).flatten:=(by simp [Tr.lay,h1]);have e2:(Tr.pow s k).lay a=(List.replicate k (s.lay a)).flatten:=(by simp [Tr.lay,show ¬ (Tr.pow s k).lv<=a by omega]);rw [e,e2,← lay_lay h s];clear e e2 h1;induction k with
   |zero=>rfl
   |succ k ih=>simp only [List.replicate_succ,List.flatten_cons,List.flatMap_append];rw [ih]
theorem flat_lay {a m:Nat} (h:a<=m) (l:List Tr):(l.flatMap (Tr.lay m)).flatMap (Tr.lay a)=l.flatMap (Tr.lay a):=by
 rw [flatMap_assoc'];congr 1
 funext t
 exact lay_lay h t
theorem flat_same {m:Nat}:∀ {l:List Tr},(∀ t∈l,t.lv<=m)->l.flatMap (Tr.lay m)=l
 |[],_=>rfl
 |x::l,h=>by rw [List.flatMap_cons,lay_low (h x (by simp)),flat_same fun t ht=>h t (by simp [ht])];rfl
theorem Tr.Upto.lv {m:Nat} {t:Tr} (h:t.Upto m):t.lv<=m:=by
 obtain ⟨a,h1,h2⟩:=h;simp [Tr.lv,h1,h2]
theorem lv_of {t:Tr} {a:Nat} (h:t.lev=some a):t.lv=a:=by simp [Tr.lv,h]
theorem runs_flat {m:Nat} (he:m%2=0) {l:List Tr} (h:Lvl m l):∀ p∈groups l,(powT p).lay m=List.replicate p.2 p.1:=by
 intro p hp;obtain ⟨h1,h2⟩:=groups_ne l p hp;by_cases h3:p.2=1
 ·simp only [powT,if_pos h3,h3];exact lay_low (h.upto _ h2).lv
 ·have:=(groups_two h.nb p hp (by omega)).eq rfl;simp only [powT,if_neg h3];rw [lay_high (by rw [lv_of (lev_pow this.2 he)];omega)];simp only [kids];rw [flat_same];intro t ht;rw [List.eq_of_mem_replicate ht];exact (h.upto _ h2).lv
theorem flatMap_map' (l:List (Tr×Nat)) (g:Tr->List Tr) (k:Tr×Nat->List Tr):(∀ p∈l,g (powT p)=k p)->(l.map powT).flatMap g=l.flatMap k:=by
 intro h;induction l with
 |nil=>rfl
 |cons x l ih=>simp only [List.map_cons,List.flatMap_cons];rw [h x (by simp),ih fun p hp=>h p (by simp [hp])]
theorem pairs_flat {m:Nat} (ho:m%2=1):∀ {l:List Tr},Lvl m l->(pairsF (fits (m+1)) l).flatMap (Tr.lay m)=l
 |[],_=>rfl
 |[x],h=>by simp [pairsF,lay_low (h.upto x (by simp)).lv]
 |x::y::r,h=>by
  obtain ⟨a,hx,ha⟩:=h.upto x (by simp);obtain ⟨b,hy,hb⟩:=h.upto y (by simp);unfold pairsF;split
  ·rename_i hf;have hl:=lev_pair hx hy ha hb ho h.nb.1 hf;rw [List.flatMap_cons,lay_high (by rw [lv_of hl];omega),pairs_flat ho ⟨fun t ht=>h.upto t (by simp [ht]),h.nb.2.tail⟩];simp [kids,lay_low (h.upto x (by simp)).lv,lay_low (h.upto y (by simp)).lv]
  ·rw [List.flatMap_cons,lay_low (h.upto x (by simp)).lv,pairs_flat ho ⟨fun t ht=>h.upto t (by simp at ht ⊢;exact .inr ht),h.nb.2⟩];rfl
theorem step_flat {m:Nat} {l:List Tr} (h:Lvl m l):(stepP (m+1) l).flatMap (Tr.lay m)=l:=by
 unfold stepP;split
 ·unfold runs;rw [flatMap_map' _ _ _ (runs_flat (by omega) h),groups_flat]
 ·exact pairs_flat (by omega) h
theorem seq_flat {s:List Tr} (h:Leaves s) (a:Nat):∀ d,(seqP s (a+d)).flatMap (Tr.lay a)=seqP s a
 |0=>flat_same fun t ht=>((Lvl.seq h a).upto t ht).lv
 |d+1=>by
  rw [← seq_flat h a d,← Nat.add_assoc,show seqP s (a+d+1)=stepP (a+d+1) (seqP s (a+d)) from rfl];rw [← flat_lay (a:=a) (m:=a+d) (by omega),step_flat (Lvl.seq h (a+d))]
structure Canon (t:Tr):Prop where
 leaves:Leaves (t.lay 0)
 seq:∀ m,seqP (t.lay 0) m=t.lay m
theorem Canon.step {t:Tr} (h:Canon t) (m:Nat):stepP (m+1) (t.lay m)=t.lay (m+1):=by
 rw [← h.seq m,← h.seq (m+1)];rfl
theorem Canon.lvl {t:Tr} (h:Canon t) (m:Nat):Lvl m (t.lay m):=by
 rw [← h.seq m];exact Lvl.seq h.leaves m
theorem step_one {m:Nat} (t:Tr):stepP m [t]=[t]:=by
 unfold stepP;split
 ·rfl
 ·rfl
theorem canon_of {s:List Tr} (h:Leaves s) {m:Nat} {t:Tr} (ht:seqP s m=[t]):Canon t∧t.lay 0=s∧t.Upto m:=by
 have hu:=(Lvl.seq h m).upto t (by rw [ht];simp);have hl:∀ a d,a+d=m->t.lay a=seqP s a:=fun a d e=>by
  have:=seq_flat h a d;rw [e,ht] at this;simpa using this
 have h0:t.lay 0=s:=hl 0 m (by omega);refine ⟨⟨by rw [h0];exact h,fun a=>?_⟩,h0,hu⟩;rw [h0];by_cases ha:a<=m
 ·exact (hl a (m-a) (by omega)).symm
 ·have:∀ d,seqP s (m+d)=[t]:=fun d=>by
   induction d with
   |zero=>exact ht
   |succ d ih=>rw [← Nat.add_assoc,show seqP s (m+d+1)=stepP (m+d+1) (seqP s (m+d)) from rfl,ih,step_one]
  have e:=this (a-m);rw [show m+(a-m)=a by omega] at e;rw [e,lay_low (by have:=hu.lv;omega)]
theorem Canon.lev {t:Tr} (h:Canon t):∃ a,t.lev=some a:=by
 have:=(h.lvl t.lv).upto t (by rw [lay_low (Nat.le_refl _)];simp);obtain ⟨a,h1,_⟩:=this;exact ⟨a,h1⟩
theorem Canon.inj {t u:Tr} (h:Canon t) (k:Canon u) (e:t.lay 0=u.lay 0):t=u:=by
 have h1:=h.seq (max t.lv u.lv);have h2:=k.seq (max t.lv u.lv);rw [lay_low (t:=t) (Nat.le_max_left _ _)] at h1;rw [lay_low (t:=u) (Nat.le_max_right _ _)] at h2;rw [e,h2] at h1;simpa using h1.symm
theorem nb_short {s:List Tr} (h:Leaves s) {a m:Nat} (ha:a%2=1) (hm:a+246<=m):Ch (fun x y=>¬ (x.lv<=a∧y.lv<=a)) (seqP s m):=by
 have hl:=Lvl.seq h m;refine Ch.mono (fun x hx y hy hn=>?_) hl.nb;rintro ⟨h1,h2⟩;obtain ⟨c,hc,_⟩:=hl.upto x hx;obtain ⟨d,hd,_⟩:=hl.upto y hy;rw [lv_of hc] at h1;rw [lv_of hd] at h2;obtain ⟨q,hq,hf⟩:=fits_exists (Tr.key_lt x) (Tr.key_lt y) a;have:=hn.fit (2*(a/2+1)+2*q) c d hc hd (by omega) (by omega) (by omega);unfold fits at this;rw [hf] at this;cases this
theorem Tr.Upto.two {m:Nat} {t:Tr}:(t.lay m).length=0->t.lv<=m->False:=fun h h1=>by rw [lay_low h1] at h;simp at h
def Tr.Pow2:Tr->Prop
 |.leaf _=>True
 |.pair l r=>l.Pow2∧r.Pow2
 |.pow s k=>s.Pow2∧2<=k
theorem lay_pos {m:Nat}:∀ {t:Tr},t.Pow2->1<=(t.lay m).length
 |.leaf b,_=>by simp [Tr.lay]
 |.pair l r,h=>by
  have:=lay_pos (m:=m) h.1;unfold Tr.lay;split
  ·simp
  ·simp;omega
 |.pow s k,h=>by
  have h1:=lay_pos (m:=m) h.1;unfold Tr.lay;split
  ·simp
  ·rw [List.length_flatten,List.map_replicate,List.sum_replicate_nat];have h2:=h.2;have:=Nat.mul_le_mul h2 h1;omega
theorem lay_two {m:Nat} {t:Tr} (h:t.Pow2) (hl:m<t.lv):2<=(t.lay m).length:=by
 cases t with
 |leaf b=>simp [Tr.lv,Tr.lev] at hl
 |pair l r =>
  rw [lay_high hl];have h1:=lay_pos (m:=m) h.1;have h2:=lay_pos (m:=m) h.2;simp [kids];omega
 |pow s k =>
  rw [show (Tr.pow s k).lay m=(List.replicate k (s.lay m)).flatten by simp [Tr.lay,Nat.not_le.2 hl]];rw [List.length_flatten,List.map_replicate,List.sum_replicate_nat];have h1:=lay_pos (m:=m) h.1;have:=Nat.mul_le_mul h.2 h1;omega
theorem runs_pow2 {l:List Tr} (h:∀ t∈l,t.Pow2):∀ t∈runs l,t.Pow2:=by
 intro t ht;obtain ⟨p,hp,rfl⟩:=List.mem_map.1 ht;obtain ⟨h1,h2⟩:=groups_ne l p hp;unfold powT;split
 ·exact h _ h2
 ·exact ⟨h _ h2,by omega⟩
theorem pairs_pow2 (f:Tr->Tr->Bool):∀ {l:List Tr},(∀ t∈l,t.Pow2)->∀ t∈pairsF f l,t.Pow2
 |[],_,t,ht=>by simp [pairsF] at ht
 |[x],h,t,ht=>by simp [pairsF] at ht;subst ht;exact h _ (by simp)
 |x::y::r,h,t,ht=>by
  unfold pairsF at ht;split at ht
  ·rcases List.mem_cons.1 ht with rfl|ht
   ·exact ⟨h _ (by simp),h _ (by simp)⟩
   ·exact pairs_pow2 f (fun u hu=>h u (by simp [hu])) t ht
  ·rcases List.mem_cons.1 ht with rfl|ht
   ·exact h _ (by simp)
   ·exact pairs_pow2 f (fun u hu=>h u (by simp at hu ⊢;exact .inr hu)) t ht
theorem seq_pow2 {s:List Tr} (h:Leaves s):∀ m,∀ t∈seqP s m,t.Pow2
 |0,t,ht=>by obtain ⟨b,rfl⟩:=h t ht;trivial
 |m+1,t,ht=>by
  have ht':t∈stepP (m+1) (seqP s m):=ht;unfold stepP at ht';split at ht'
  ·exact runs_pow2 (seq_pow2 h m) t ht'
  ·exact pairs_pow2 _ (seq_pow2 h m) t ht'
theorem count_two (f:Tr->Nat):∀ {l:List Tr},(∀ t∈l,1<=f t)->Ch (fun x y=>¬ (f x<=1∧f y<=1)) l->3*l.length<=2*(l.map f).sum+1
 |[],_,_=>by simp
 |[x],h,_=>by have:=h x (by simp);simp;omega
 |x::y::r,h,⟨h1,hc⟩=>by
  have hx:=h x (by simp);have hy:=h y (by simp);by_cases hx1:f x<=1
  ·have:=count_two f (l:=r) (fun t ht=>h t (by simp [ht])) hc.tail;simp only [List.length_cons,List.map_cons,List.sum_cons];omega
  ·have:=count_two f (l:=y::r) (fun t ht=>h t (by simp at ht ⊢;exact .inr ht)) hc;simp only [List.length_cons,List.map_cons,List.sum_cons] at this ⊢;omega
theorem len_flat (f:Tr->List Tr) (l:List Tr):(l.flatMap f).length=(l.map fun t=>(f t).length).sum:=by
 induction l with
 |nil=>rfl
 |cons x l ih=>simp [ih]
theorem seq_third {s:List Tr} (h:Leaves s) {a:Nat} (ha:a%2=1):3*(seqP s (a+246)).length<=2*(seqP s a).length+1:=by
 have e:=seq_flat h a 246;have hc:=nb_short h ha (Nat.le_refl (a+246));rw [← e,len_flat];refine count_two _ (fun t ht=>lay_pos (seq_pow2 h _ t ht)) (Ch.mono (fun x hx y hy hn=>?_) hc);rintro ⟨h1,h2⟩;refine hn ⟨Nat.le_of_not_lt fun hlt=>?_,Nat.le_of_not_lt fun hlt=>?_⟩
 ·have:=lay_two (seq_pow2 h _ x hx) hlt;omega
 ·have:=lay_two (seq_pow2 h _ y hy) hlt;omega
theorem runs_len (l:List Tr):(runs l).length<=l.length:=by
 have h:∀ l:List Tr,(groups l).length<=l.length:=fun l=>by
  induction l with
  |nil=>simp [groups]
  |cons x r ih =>
   unfold groups;split
   ·simp
   ·rename_i y k g hg;rw [hg] at ih;split
    ·simp at ih ⊢;omega
    ·simp at ih ⊢;omega
 unfold runs;rw [List.length_map];exact h l
theorem pairs_len (f:Tr->Tr->Bool):∀ l:List Tr,(pairsF f l).length<=l.length
 |[]=>by simp [pairsF]
 |[x]=>by simp [pairsF]
 |x::y::r=>by
  unfold pairsF;split
  ·have:=pairs_len f r;simp;omega
  ·have:=pairs_len f (y::r);simp at this ⊢;omega
theorem step_len (m:Nat) (l:List Tr):(stepP m l).length<=l.length:=by
 unfold stepP;split
 ·exact runs_len l
 ·exact pairs_len _ l
theorem runs_ne {l:List Tr} (h:l≠[]):runs l≠[]:=by
 cases l with
 |nil=>exact absurd rfl h
 |cons x l =>
  obtain ⟨k,g,e⟩:=groups_head x l;simp [runs,e]
theorem step_ne (m:Nat) {l:List Tr} (h:l≠[]):stepP m l≠[]:=by
 unfold stepP;split
 ·exact runs_ne h
 ·cases l with
  |nil=>exact absurd rfl h
  |cons x l =>
   obtain ⟨z,r,e,_⟩:=pairsF_head (fits m) x l;rw [e];simp
theorem seq_ne {s:List Tr} (h:s≠[]):∀ m,seqP s m≠[]
 |0=>h
 |m+1=>step_ne _ (seq_ne h m)
def third:Nat->Nat->Nat
 |0,h=>h
 |n+1,h=>2*third n h/3
theorem third_mono:∀ n {a b:Nat},a<=b->third n a<=third n b
 |0,_,_,h=>h
 |n+1,_,_,h=>by have:=third_mono n h;simp only [third];omega
theorem seq_len_third {s:List Tr} (h:Leaves s):∀ n,(seqP s (1+246*n)).length-1<=third n (s.length-1)
 |0=>by have:=step_len 1 s;simp only [third,Nat.mul_zero,Nat.add_zero];exact Nat.sub_le_sub_right this 1
 |n+1=>by
  have h1:=seq_len_third h n;have h2:=seq_third h (a:=1+246*n) (by omega);rw [show 1+246*(n+1)=1+246*n+246 by omega];simp only [third];omega
theorem seq_one {s:List Tr} (h:Leaves s) (hne:s≠[]) (hl:s.length<=1152921504606846976):∃ t,seqP s 25339=[t]:=by
 have h1:=seq_len_third h 103;have h2:third 103 (s.length-1)<=third 103 1152921504606846976:=third_mono _ (by omega);have h3:third 103 1152921504606846976=0:=(by decide +kernel);have h4:=seq_ne hne 25339;have e:(1+246*103)=25339:=rfl;rw [e] at h1;cases hs:seqP s 25339 with
 |nil=>exact absurd hs h4
 |cons t l =>
  rw [hs] at h1;simp at h1;exact ⟨t,by rw [List.eq_nil_of_length_eq_zero (show l.length=0 by omega)]⟩
theorem canon_exists {s:List Tr} (h:Leaves s) (hne:s≠[]) (hl:s.length<=1152921504606846976):∃ t,Canon t∧t.lay 0=s∧t.Upto 25339:=by
 obtain ⟨t,ht⟩:=seq_one h hne hl;exact ⟨t,canon_of h ht⟩
end
section
theorem groups_of:∀ {g:List (Tr×Nat)},(∀ p∈g,1<=p.2)->ChG (fun p q=>p.1≠q.1) g->groups (g.flatMap fun p=>List.replicate p.2 p.1)=g
 |[],_,_=>rfl
 |(x,k)::g,h,hc=>by
  have hk:=h (x,k) (by simp);have htail:ChG (fun p q=>p.1≠q.1) g:=(by cases g with|nil=>trivial|cons q g=>exact hc.2);have ih:=groups_of (g:=g) (fun p hp=>h p (by simp [hp])) htail;simp only [List.flatMap_cons];obtain ⟨k,rfl⟩:=Nat.exists_eq_succ_of_ne_zero (show k≠0 by simp at hk;omega);clear hk;induction k with
  |zero =>
   simp only [List.replicate_succ,List.replicate_zero,List.cons_append,List.nil_append];rw [groups,ih];cases g with
   |nil=>rfl
   |cons q g =>
    obtain ⟨y,j⟩:=q;have:x≠y:=hc.1;simp [this]
  |succ k ih2 =>
   have hc':ChG (fun p q=>p.1≠q.1) ((x,k+1)::g):=(by cases g with|nil=>trivial|cons q g=>exact hc);have:=ih2 (fun p hp=>by
    rcases List.mem_cons.1 hp with rfl|hp
    ·simp
    ·exact h p (by simp [hp])) hc'
   rw [List.replicate_succ,List.cons_append,groups,this];simp
theorem chG_mono {R R':Tr×Nat->Tr×Nat->Prop}:∀ {l:List (Tr×Nat)},(∀ p q,R p q->R' p q)->ChG R l->ChG R' l
 |[],_,_=>trivial
 |[_],_,_=>trivial
 |x::y::r,h,⟨h1,h2⟩=>⟨h x y h1,chG_mono h h2⟩
theorem ch_true:∀ l:List Tr,Ch (fun _ _=>True) l
 |[]=>trivial
 |[_]=>trivial
 |_::y::r=>⟨trivial,ch_true (y::r)⟩
theorem groups_apart (l:List Tr):ChG (fun p q=>p.1≠q.1) (groups l):=chG_mono (fun _ _ h=>h.1) (groups_ch (ch_true l))
theorem groups_append:∀ {a b:List Tr},(∀ x y,a.getLast?=some x->b.head?=some y->x≠y)->groups (a++b)=groups a++groups b
 |[],b,_=>rfl
 |[x],b,h=>by
  cases b with
  |nil=>rfl
  |cons y b =>
   obtain ⟨k,g,e⟩:=groups_head y b;simp only [List.cons_append,List.nil_append];rw [groups,e];have:x≠y:=h x y rfl rfl;simp [this,groups]
 |x::z::a,b,h=>by
  have ih:=groups_append (a:=z::a) (b:=b) (fun u v hu hv=>h u v (by simpa using hu) hv);obtain ⟨k,g,e⟩:=groups_head z a;simp only [List.cons_append] at ih ⊢;rw [groups,ih,e,groups,e];simp only [List.cons_append];split <;> rfl
theorem runs_append {a b:List Tr} (h:∀ x y,a.getLast?=some x->b.head?=some y->x≠y):runs (a++b)=runs a++runs b:=by
 unfold runs;rw [groups_append h,List.map_append]
theorem chG_append:∀ {R:Tr×Nat->Tr×Nat->Prop} {a b:List (Tr×Nat)},ChG R (a++b)->ChG R a∧ChG R b
 |R,[],b,h=>⟨trivial,h⟩
 |R,[x],b,h=>⟨trivial,by cases b with|nil=>trivial|cons y b=>exact h.2⟩
 |R,x::y::a,b,h=>by
  have ih:=chG_append (a:=y::a) (b:=b) h.2;exact ⟨⟨h.1,ih.1⟩,ih.2⟩
theorem chG_mid:∀ {R:Tr×Nat->Tr×Nat->Prop} {a b:List (Tr×Nat)} {p q:Tr×Nat},ChG R (a++p::q::b)->R p q
 |R,[],b,p,q,h=>h.1
 |R,[x],b,p,q,h=>(show ChG R (p::q::b) from h.2).1
 |R,x::y::a,b,p,q,h=>chG_mid (a:=y::a) h.2
theorem pairs_append (f:Tr->Tr->Bool):∀ {a b:List Tr},(∀ x y,a.getLast?=some x->b.head?=some y->f x y=false)->pairsF f (a++b)=pairsF f a++pairsF f b
 |[],b,_=>rfl
 |[x],b,h=>by
  cases b with
  |nil=>rfl
  |cons y b =>
   have:=h x y rfl rfl;simp [pairsF,this]
 |x::z::a,b,h=>by
  have e:∀ r,pairsF f (x::z::r)=if f x z=true then .pair x z::pairsF f r else x::pairsF f (z::r):=fun r=>by rw [pairsF]
  simp only [List.cons_append];rw [e,e];by_cases hf:f x z=true
  ·rw [if_pos hf,if_pos hf];cases a with
   |nil=>simp [pairsF]
   |cons w a =>
    rw [pairs_append f (a:=w::a) (b:=b) fun u v hu hv=>h u v (by simpa using hu) hv];rfl
  ·rw [if_neg hf,if_neg hf];have:=pairs_append f (a:=z::a) (b:=b) fun u v hu hv=>h u v (by simpa using hu) hv
   simp only [List.cons_append] at this;rw [this];rfl
theorem pair_ne_left (x y:Tr):Tr.pair x y≠x:=by
 intro h;have:SizeOf.sizeOf (Tr.pair x y)=SizeOf.sizeOf x:=by rw [h]
 simp at this;omega
def Blk2 (lay:Tr->List Tr) (b:Tr):Prop:=lay b=[b]∨∃ x y,b=.pair x y∧lay b=[x,y]
theorem blocks_pairs (f:Tr->Tr->Bool) (lay:Tr->List Tr):∀ (P Q:List Tr),(∀ b∈P++Q,Blk2 lay b)->pairsF f ((P++Q).flatMap lay)=P++Q ->
  pairsF f (Q.flatMap lay)=Q∧(∀ x y,P.getLast?=some x->lay x=[x]->(Q.flatMap lay).head?=some y->f x y=false) ∧
  (∀ X,(∀ x y,P.getLast?=some x->lay x=[x]->X.head?=some y->f x y=false)->pairsF f (P.flatMap lay++X)=P++pairsF f X)
 |[],Q,_,h=>⟨by simpa using h,by simp,fun X _=>by simp⟩
 |b::P,Q,hb,h=>by
  have hb':∀ c∈P++Q,Blk2 lay c:=fun c hc=>hb c (by simp at hc ⊢;exact .inr hc)
  rcases hb b (by simp) with h1|⟨x,y,rfl,h1⟩
  ·-- a single symbol
   simp only [List.cons_append,List.flatMap_cons,h1,List.nil_append] at h;have hd:∀ y,((P++Q).flatMap lay).head?=some y->f b y=false:=fun y hy=>by
    cases hf:f b y with
    |false=>rfl
    |true =>
     exfalso;cases hl:(P++Q).flatMap lay with
     |nil=>rw [hl] at hy;simp at hy
     |cons z l =>
      rw [hl] at hy h;obtain rfl:z=y:=by simpa using hy
      simp only [pairsF,hf,if_true,List.cons.injEq] at h;exact pair_ne_left _ _ h.1
   have h':pairsF f ((P++Q).flatMap lay)=P++Q:=by
    have e:=pairs_append f (a:=[b]) (b:=(P++Q).flatMap lay) fun x y hx hy=>by
     obtain rfl:b=x:=by simpa using hx
     exact hd y hy
    simp only [List.cons_append,List.nil_append] at e;rw [e] at h;simpa [pairsF] using h
   obtain ⟨i1,i2,i3⟩:=blocks_pairs f lay P Q hb' h';refine ⟨i1,fun x y hx hl hy=>?_,fun X hX=>?_⟩
   ·cases P with
    |nil =>
     obtain rfl:b=x:=by simpa using hx
     exact hd y (by simpa using hy)
    |cons c P=>exact i2 x y (by simpa using hx) hl hy
   ·simp only [List.flatMap_cons,h1,List.cons_append,List.nil_append];have e:=pairs_append f (a:=[b]) (b:=P.flatMap lay++X) fun x y hx hy=>by
     obtain rfl:b=x:=by simpa using hx
     cases P with
     |nil=>exact hX b y rfl h1 (by simpa using hy)
     |cons c P =>
      refine hd y ?_;have hc:Blk2 lay c:=hb c (by simp);rcases hc with hc|⟨u,v,rfl,hc⟩ <;> simpa [hc] using hy
    simp only [List.cons_append,List.nil_append] at e;rw [e,i3 X fun x y hx hl hy=>hX x y (by
     cases P with
     |nil=>simp at hx
     |cons c P=>simpa using hx) hl hy]
    rfl
  ·simp only [List.cons_append,List.flatMap_cons,h1,List.nil_append] at h;have hf:f x y=true:=by
    cases hf:f x y with
    |true=>rfl
    |false =>
     exfalso;simp only [pairsF,hf] at h;injection h with h _
     exact pair_ne_left x y h.symm
   have h':pairsF f ((P++Q).flatMap lay)=P++Q:=by
    simp only [pairsF,hf,if_true] at h;injection h
   obtain ⟨i1,i2,i3⟩:=blocks_pairs f lay P Q hb' h';refine ⟨i1,fun u v hu hl hv=>?_,fun X hX=>?_⟩
   ·cases P with
    |nil =>
     obtain rfl:Tr.pair x y=u:=by simpa using hu
     rw [h1] at hl;simp at hl
    |cons c P=>exact i2 u v (by simpa using hu) hl hv
   ·simp only [List.flatMap_cons,h1,List.cons_append,List.nil_append,pairsF,hf,if_true];rw [i3 X fun u v hu hl hv=>hX u v (by
     cases P with
     |nil=>simp at hu
     |cons c P=>simpa using hu) hl hv]
theorem lvl_blocks {m:Nat} (ho:m%2=1) {l:List Tr} (h:Lvl (m+1) l):∀ b∈l,Blk2 (Tr.lay m) b:=by
 intro b hb;obtain ⟨a,h1,h2⟩:=h.upto b hb;by_cases h3:a<=m
 ·exact .inl (lay_low (by rw [lv_of h1];exact h3))
 ·have hlv:b.lv=m+1:=(by rw [lv_of h1];omega);cases b with
  |leaf c=>simp [Tr.lev] at h1;omega
  |pow s k =>
   simp only [Tr.lev] at h1;split at h1
   ·split at h1
    ·simp at h1;omega
    ·cases h1
   ·cases h1
  |pair x y =>
   refine .inr ⟨x,y,rfl,?_⟩;rw [lay_high (by omega)];simp only [Tr.lev] at h1;split at h1
   ·cases h1
   ·split at h1
    ·rename_i c d hc hd;have:=(afterN_spec (Tr.key_lt x) (Tr.key_lt y) (max c d)).1;simp only [Option.some.injEq] at h1;simp [kids,lay_low (show x.lv<=m by rw [lv_of hc];omega),lay_low (show y.lv<=m by rw [lv_of hd];omega)]
    ·cases h1
theorem cut_pairs {m:Nat} (ho:m%2=1) {a:Tr} (h:Canon a) {P Q:List Tr} (e:a.lay (m+1)=P++Q) :
  pairsF (fits (m+1)) (Q.flatMap (Tr.lay m))=Q∧(∀ x y,P.getLast?=some x->x.lv<=m->(Q.flatMap (Tr.lay m)).head?=some y->fits (m+1) x y=false) ∧
  (∀ X,(∀ x y,P.getLast?=some x->x.lv<=m->X.head?=some y->fits (m+1) x y=false)->pairsF (fits (m+1)) (P.flatMap (Tr.lay m)++X)=P++pairsF (fits (m+1)) X):=by
 have hb:=lvl_blocks ho (h.lvl (m+1));rw [e] at hb;have hs:=h.step m;rw [← lay_lay (Nat.le_succ m) a,e] at hs;unfold stepP at hs;rw [if_neg (by omega)] at hs;obtain ⟨h1,h2,h3⟩:=blocks_pairs (fits (m+1)) (Tr.lay m) P Q hb hs;have hp:∀ t∈a.lay (m+1),t.Pow2:=(by rw [← h.seq];exact seq_pow2 h.leaves _);rw [e] at hp;have hlow:∀ x:Tr,x∈P->(x.lay m=[x]↔x.lv<=m):=fun x hx=>⟨fun hl=>Nat.le_of_not_lt fun hlt=>by
  have:=lay_two (hp x (by simp [hx])) hlt;rw [hl] at this;simp at this,fun hl=>lay_low hl⟩
 refine ⟨h1,fun x y hx hl hy=>h2 x y hx ((hlow x (List.mem_of_getLast? hx)).2 hl) hy,fun X hX=>h3 X fun x y hx hl hy=>hX x y hx ((hlow x (List.mem_of_getLast? hx)).1 hl) hy⟩
theorem cut_runs {m:Nat} (he:m%2=0) {a:Tr} (h:Canon a) {P Q:List Tr} (e:a.lay (m+1)=P++Q) :
  runs (Q.flatMap (Tr.lay m))=Q∧(∀ x y,(P.flatMap (Tr.lay m)).getLast?=some x->(Q.flatMap (Tr.lay m)).head?=some y->x≠y) ∧
  (∀ X,(∀ x y,(P.flatMap (Tr.lay m)).getLast?=some x->X.head?=some y->x≠y)->runs (P.flatMap (Tr.lay m)++X)=P++runs X):=by
 have hs:=h.step m;unfold stepP at hs;rw [if_pos (by omega)] at hs;have hf:=runs_flat he (h.lvl m);have hpos:=groups_ne (a.lay m);have hap:=groups_apart (a.lay m);unfold runs at hs;generalize groups (a.lay m)=G at hs hf hpos hap;rw [e] at hs;obtain ⟨G1,G2,rfl,h1,h2⟩:=List.map_eq_append_iff.1 hs;obtain ⟨c1,c2⟩:=chG_append hap;have f1:P.flatMap (Tr.lay m)=G1.flatMap fun p=>List.replicate p.2 p.1:=by
  rw [← h1];exact flatMap_map' _ _ _ fun p hp=>hf p (by simp [hp])
 have f2:Q.flatMap (Tr.lay m)=G2.flatMap fun p=>List.replicate p.2 p.1:=by
  rw [← h2];exact flatMap_map' _ _ _ fun p hp=>hf p (by simp [hp])
 have r1:runs (P.flatMap (Tr.lay m))=P:=by
  unfold runs;rw [f1,groups_of (fun p hp=>(hpos p (by simp [hp])).1) c1,h1]
 refine ⟨by unfold runs;rw [f2,groups_of (fun p hp=>(hpos p (by simp [hp])).1) c2,h2],fun x y hx hy=>?_,fun X hX=>by rw [runs_append hX,r1]⟩;rw [f1] at hx;rw [f2] at hy;cases hG2:G2 with
 |nil=>rw [hG2] at hy;simp at hy
 |cons q G2 =>
  rcases List.eq_nil_or_concat G1 with h3|⟨G1',p,h3⟩
  ·rw [h3] at hx;simp at hx
  ·rw [h3,hG2] at hap;rw [h3] at hx;rw [hG2] at hy;rw [List.concat_eq_append] at hap;have hne:=chG_mid (a:=G1') (p:=p) (q:=q) (b:=G2) (by simpa using hap);have p1:=(hpos p (by rw [h3];simp)).1;have q1:=(hpos q (by rw [hG2];simp)).1;rw [List.concat_eq_append,List.flatMap_append,List.getLast?_append] at hx;obtain ⟨k,hk⟩:=Nat.exists_eq_succ_of_ne_zero (show p.2≠0 by omega);obtain ⟨j,hj⟩:=Nat.exists_eq_succ_of_ne_zero (show q.2≠0 by omega);simp only [List.flatMap_cons,List.flatMap_nil,List.append_nil,hk,List.replicate_succ'] at hx;simp only [List.flatMap_cons,hj,List.replicate_succ] at hy;simp at hx hy;rw [← hx,← hy];exact hne
end
section
def Tr.Gd (t:Tr):Prop:=(∃ a,t.lev=some a)∧t.Pow2
theorem Canon.gd {t:Tr} (h:Canon t):t.Gd:=by
 refine ⟨h.lev,seq_pow2 h.leaves t.lv t ?_⟩;rw [h.seq,lay_low (Nat.le_refl _)];simp
theorem lev_pair_inv {l r:Tr} {a:Nat} (h:(Tr.pair l r).lev=some a):l≠r∧∃ b c,l.lev=some b∧r.lev=some c∧a=afterN (max b c) l.key r.key∧max b c<a∧a<=max b c+246∧a%2=0:=by
 simp only [Tr.lev] at h;split at h
 ·cases h
 ·rename_i hne;split at h
  ·rename_i b c hb hc;injection h with h
   have s:=afterN_spec (Tr.key_lt l) (Tr.key_lt r) (max b c);exact ⟨hne,b,c,hb,hc,h.symm,by omega,by omega,by omega⟩
  ·cases h
theorem lev_pow_inv {s:Tr} {k a:Nat} (h:(Tr.pow s k).lev=some a):∃ b,s.lev=some b∧b%2=0∧a=b+1:=by
 simp only [Tr.lev] at h;split at h
 ·rename_i b hb;split at h
  ·injection h with h
   exact ⟨b,hb,by assumption,h.symm⟩
  ·cases h
 ·cases h
theorem Tr.Gd.kid {t c:Tr} (h:t.Gd) (hc:c∈kids t):c.Gd∧c.lv<t.lv:=by
 obtain ⟨⟨a,ha⟩,hp⟩:=h;cases t with
 |leaf b=>simp [kids] at hc
 |pair l r =>
  obtain ⟨_,b,d,hb,hd,_,h1,_⟩:=lev_pair_inv ha;rw [lv_of ha];simp [kids] at hc;rcases hc with rfl|rfl
  ·exact ⟨⟨⟨b,hb⟩,hp.1⟩,by rw [lv_of hb];omega⟩
  ·exact ⟨⟨⟨d,hd⟩,hp.2⟩,by rw [lv_of hd];omega⟩
 |pow s k =>
  obtain ⟨b,hb,_,rfl⟩:=lev_pow_inv ha;rw [lv_of ha];obtain rfl:=List.eq_of_mem_replicate hc;exact ⟨⟨⟨b,hb⟩,hp.1⟩,by rw [lv_of hb];omega⟩
theorem Tr.Gd.leaf {t:Tr} (h:t.Gd) (h0:t.lv=0):∃ b,t=.leaf b:=by
 obtain ⟨⟨a,ha⟩,hp⟩:=h;rw [lv_of ha] at h0;cases t with
 |leaf b=>exact ⟨b,rfl⟩
 |pair l r=>obtain ⟨_,b,c,_,_,_,h1,_⟩:=lev_pair_inv ha;omega
 |pow s k=>obtain ⟨b,_,_,h1⟩:=lev_pow_inv ha;omega
theorem kids_two {t:Tr} (h:t.Gd) (hl:0<t.lv):2<=(kids t).length:=by
 obtain ⟨⟨a,ha⟩,hp⟩:=h;cases t with
 |leaf b=>simp [Tr.lv,Tr.lev] at hl
 |pair l r=>simp [kids]
 |pow s k=>simpa [kids] using hp.2
inductive Zip (a:Tr):List (Tr×Nat)->Tr->Prop
 |root:Zip a [] a
 |down {p:List (Tr×Nat)} {t:Tr} {j:Nat} {c:Tr}:Zip a p t->(kids t)[j]?=some c->Zip a ((t,j)::p) c
def before (m:Nat):List (Tr×Nat)->List Tr
 |[]=>[]
 |(t,j)::p=>before m p++((kids t).take j).flatMap (Tr.lay m)
def tl (m:Nat):List (Tr×Nat)->List Tr
 |[]=>[]
 |(t,j)::p=>((kids t).drop (j+1)).flatMap (Tr.lay m)++tl m p
def Above (m:Nat) (p:List (Tr×Nat)):Prop:=∀ f∈p,m<f.1.lv
theorem take_drop_get {α:Type} {l:List α} {j:Nat} {c:α} (h:l[j]?=some c):l=l.take j++c::l.drop (j+1):=by
 have hj:=gelt h;rw [zg hj] at h;injection h with h
 rw [← h,← List.drop_eq_getElem_cons hj,List.take_append_drop]
theorem Zip.lay {a x:Tr} {p:List (Tr×Nat)} {m:Nat} (h:Zip a p x) (ha:Above m p):a.lay m=before m p++x.lay m++tl m p:=by
 induction h with
 |root=>simp [before,tl]
 |@down p t j c _ hc ih =>
  have ih:=ih fun f hf=>ha f (by simp [hf])
  rw [ih,lay_high (ha (t,j) (by simp))];have e:=take_drop_get hc;have e2:(kids t).flatMap (Tr.lay m)=((kids t).take j).flatMap (Tr.lay m)++(c.lay m++((kids t).drop (j+1)).flatMap (Tr.lay m)):=by
   conv=>lhs;rw [e]
   rw [List.flatMap_append,List.flatMap_cons]
  rw [e2];simp only [before,tl,List.append_assoc]
theorem Zip.gd {a x:Tr} {p:List (Tr×Nat)} (h:Zip a p x) (ha:a.Gd):x.Gd∧∀ f∈p,x.lv<f.1.lv∧f.1.Gd∧f.1.lv<=a.lv:=by
 suffices hs:x.Gd∧x.lv<=a.lv∧∀ f∈p,x.lv<f.1.lv∧f.1.Gd∧f.1.lv<=a.lv from ⟨hs.1,hs.2.2⟩
 induction h with
 |root=>exact ⟨ha,Nat.le_refl _,by simp⟩
 |@down p t j c _ hc ih =>
  obtain ⟨h1,h2,h3⟩:=ih;obtain ⟨g1,g2⟩:=h1.kid (List.mem_of_getElem? hc);refine ⟨g1,by omega,fun f hf=>?_⟩;rcases List.mem_cons.1 hf with rfl|hf
  ·exact ⟨g2,h1,h2⟩
  ·have:=h3 f hf;exact ⟨by omega,this.2.1,this.2.2⟩
theorem Zip.tail {a x:Tr} {p:List (Tr×Nat)} {t:Tr} {j:Nat} (h:Zip a ((t,j)::p) x):Zip a p t∧(kids t)[j]?=some x:=by
 cases h with
 |down h1 h2=>exact ⟨h1,h2⟩
theorem before_up {m:Nat} (p:List (Tr×Nat)):(before (m+1) p).flatMap (Tr.lay m)=before m p:=by
 induction p with
 |nil=>rfl
 |cons f p ih =>
  obtain ⟨t,j⟩:=f;simp only [before,List.flatMap_append,ih];rw [flat_lay (Nat.le_succ m)]
theorem tl_up {m:Nat} (p:List (Tr×Nat)):(tl (m+1) p).flatMap (Tr.lay m)=tl m p:=by
 induction p with
 |nil=>rfl
 |cons f p ih =>
  obtain ⟨t,j⟩:=f;simp only [tl,List.flatMap_append,ih];rw [flat_lay (Nat.le_succ m)]
def downT (beh:Bool) (m:Nat) (p:List (Tr×Nat)):Tr->List (Tr×Nat)×Tr
 |.leaf b=>(p,.leaf b)
 |.pair l r=>if (Tr.pair l r).lv<=m then (p,.pair l r) else if beh then downT beh m ((.pair l r,0)::p) l else downT beh m ((.pair l r,1)::p) r
 |.pow s k=>if (Tr.pow s k).lv<=m then (p,.pow s k) else downT beh m ((.pow s k,if beh then 0 else k-1)::p) s
structure EdL (a:Tr) (m:Nat) (p:List (Tr×Nat)) (x:Tr) (L:List Tr):Prop where
 zip:Zip a p x
 low:x.lv<=m
 above:Above m p
 eq:L=before m p++[x]
structure EdR (a:Tr) (m:Nat) (p:List (Tr×Nat)) (x:Tr) (R:List Tr):Prop where
 zip:Zip a p x
 low:x.lv<=m
 above:Above m p
 eq:R=x::tl m p
theorem above_cons {m:Nat} {p:List (Tr×Nat)} {t:Tr} {j:Nat} (h:Above m p) (ht:m<t.lv):Above m ((t,j)::p):=by
 intro f hf;rcases List.mem_cons.1 hf with rfl|hf
 ·exact ht
 ·exact h f hf
theorem downL {a:Tr} {m:Nat}:∀ (c:Tr) (p:List (Tr×Nat)),Zip a p c->c.Gd->Above m p->EdL a m (downT false m p c).1 (downT false m p c).2 (before m p++c.lay m)
 |.leaf b,p,hz,hg,ha=>⟨hz,by simp [downT,Tr.lv,Tr.lev],ha,by simp [downT,Tr.lay]⟩
 |.pair l r,p,hz,hg,ha=>by
  unfold downT;by_cases h:(Tr.pair l r).lv<=m
  ·rw [if_pos h];exact ⟨hz,h,ha,by rw [lay_low h]⟩
  ·rw [if_neg h];have ih:=downL (m:=m) r ((.pair l r,1)::p) (.down hz (by simp [kids])) (hg.kid (by simp [kids])).1 (above_cons ha (by omega));have e:before m ((.pair l r,1)::p)++r.lay m=before m p++(Tr.pair l r).lay m:=by
    rw [lay_high (t:=.pair l r) (by omega)];simp [before,kids]
   rw [e] at ih;simpa using ih
 |.pow s k,p,hz,hg,ha=>by
  unfold downT;by_cases h:(Tr.pow s k).lv<=m
  ·rw [if_pos h];exact ⟨hz,h,ha,by rw [lay_low h]⟩
  ·rw [if_neg h];have hk:2<=k:=hg.2.2;have ih:=downL (m:=m) s ((.pow s k,k-1)::p) (.down hz (by simp only [kids];rw [List.getElem?_replicate,if_pos (by omega)])) (hg.kid (c:=s) (List.mem_replicate.2 ⟨Nat.ne_of_gt (Nat.lt_of_lt_of_le Nat.zero_lt_two hk),rfl⟩)).1 (above_cons ha (by omega));have e:before m ((.pow s k,k-1)::p)++s.lay m=before m p++(Tr.pow s k).lay m:=by
    rw [lay_high (t:=.pow s k) (by omega)];simp only [before,kids,List.take_replicate,Nat.min_eq_left (Nat.sub_le k 1),List.append_assoc];congr 1
    obtain ⟨k,rfl⟩:=Nat.exists_eq_succ_of_ne_zero (show k≠0 by omega);simp [List.replicate_succ',List.flatMap_append]
   rw [e] at ih;simpa using ih
theorem downR {a:Tr} {m:Nat}:∀ (c:Tr) (p:List (Tr×Nat)),Zip a p c->c.Gd->Above m p->EdR a m (downT true m p c).1 (downT true m p c).2 (c.lay m++tl m p)
 |.leaf b,p,hz,hg,ha=>⟨hz,by simp [downT,Tr.lv,Tr.lev],ha,by simp [downT,Tr.lay]⟩
 |.pair l r,p,hz,hg,ha=>by
  unfold downT;by_cases h:(Tr.pair l r).lv<=m
  ·rw [if_pos h];exact ⟨hz,h,ha,by rw [lay_low h];rfl⟩
  ·rw [if_neg h];have ih:=downR (m:=m) l ((.pair l r,0)::p) (.down hz (by simp [kids])) (hg.kid (by simp [kids])).1 (above_cons ha (by omega));have e:l.lay m++tl m ((.pair l r,0)::p)=(Tr.pair l r).lay m++tl m p:=by
    rw [lay_high (t:=.pair l r) (by omega)];simp [tl,kids]
   rw [e] at ih;simpa using ih
 |.pow s k,p,hz,hg,ha=>by
  unfold downT;by_cases h:(Tr.pow s k).lv<=m
  ·rw [if_pos h];exact ⟨hz,h,ha,by rw [lay_low h];rfl⟩
  ·rw [if_neg h];have hk:2<=k:=hg.2.2;have ih:=downR (m:=m) s ((.pow s k,0)::p) (.down hz (by simp only [kids];rw [List.getElem?_replicate,if_pos (by omega)])) (hg.kid (c:=s) (List.mem_replicate.2 ⟨Nat.ne_of_gt (Nat.lt_of_lt_of_le Nat.zero_lt_two hk),rfl⟩)).1 (above_cons ha (by omega));have e:s.lay m++tl m ((.pow s k,0)::p)=(Tr.pow s k).lay m++tl m p:=by
    rw [lay_high (t:=.pow s k) (by omega)];simp only [tl,kids,List.drop_replicate];obtain ⟨k,rfl⟩:=Nat.exists_eq_succ_of_ne_zero (show k≠0 by omega);simp [List.replicate_succ]
   rw [e] at ih;simpa using ih
def dropT (beh:Bool) (m:Nat) (times:Nat):List (Tr×Nat)->List (Tr×Nat)×Option Tr
 |[]=>([],none)
 |(t,j)::p =>
  if beh then (if j+times<(kids t).length then let d:=downT beh m ((t,j+times)::p) ((kids t).getD (j+times) t);(d.1,some d.2) else dropT beh m 1 p)
  else (if times<=j then let d:=downT beh m ((t,j-times)::p) ((kids t).getD (j-times) t);(d.1,some d.2) else dropT beh m 1 p)
def EndL (a:Tr) (m:Nat) (d:List (Tr×Nat)×Option Tr) (L:List Tr):Prop:=match d with|(p,some x)=>EdL a m p x L|(p,none)=>p=[]∧L=[]
def EndR (a:Tr) (m:Nat) (d:List (Tr×Nat)×Option Tr) (L:List Tr):Prop:=match d with|(p,some x)=>EdR a m p x L|(p,none)=>p=[]∧L=[]
theorem dropL {a:Tr} {m:Nat} (ga:a.Gd):∀ (p:List (Tr×Nat)) (x:Tr),Zip a p x->Above m p->EndL a m (dropT false m 1 p) (before m p)
 |[],x,hz,ha=>⟨rfl,rfl⟩
 |(t,j)::p,x,hz,ha=>by
  obtain ⟨hz',hx⟩:=hz.tail;have hlt:=gelt hx;simp only [dropT,Bool.false_eq_true,if_false];by_cases hj:1<=j
  ·rw [if_pos hj];have hc:(kids t)[j-1]?=some ((kids t).getD (j-1) t):=by
    rw [List.getD_eq_getElem?_getD,zg (by omega)];rfl
   have hg:=(Zip.gd (Zip.down hz' hc) ga).1;have hd:=downL (m:=m) _ _ (Zip.down hz' hc) hg (above_cons (fun f hf=>ha f (by simp [hf])) (ha (t,j) (by simp)));have e:before m ((t,j-1)::p)++((kids t).getD (j-1) t).lay m=before m ((t,j)::p):=by
    simp only [before,List.append_assoc];congr 1
    have:(kids t).take j=(kids t).take (j-1)++[(kids t).getD (j-1) t]:=by
     obtain ⟨j,rfl⟩:=Nat.exists_eq_succ_of_ne_zero (show j≠0 by omega);simp only [Nat.succ_eq_add_one,Nat.add_sub_cancel] at hc ⊢;rw [List.take_add_one,hc];rfl
    rw [this];simp
   rw [e] at hd;exact hd
  ·rw [if_neg hj];obtain rfl:j=0:=by omega
   have:=dropL (m:=m) ga p t hz' fun f hf=>ha f (by simp [hf])
   simpa [before] using this
theorem dropR {a:Tr} {m:Nat} (ga:a.Gd):∀ (p:List (Tr×Nat)) (x:Tr),Zip a p x->Above m p->EndR a m (dropT true m 1 p) (tl m p)
 |[],x,hz,ha=>⟨rfl,rfl⟩
 |(t,j)::p,x,hz,ha=>by
  obtain ⟨hz',hx⟩:=hz.tail;have hlt:=gelt hx;simp only [dropT,if_true];by_cases hj:j+1<(kids t).length
  ·rw [if_pos hj];have hc:(kids t)[j+1]?=some ((kids t).getD (j+1) t):=by
    rw [List.getD_eq_getElem?_getD,zg (by omega)];rfl
   have hg:=(Zip.gd (Zip.down hz' hc) ga).1;have hd:=downR (m:=m) _ _ (Zip.down hz' hc) hg (above_cons (fun f hf=>ha f (by simp [hf])) (ha (t,j) (by simp)));have e:((kids t).getD (j+1) t).lay m++tl m ((t,j+1)::p)=tl m ((t,j)::p):=by
    simp only [tl];have:(kids t).drop (j+1)=(kids t).getD (j+1) t::(kids t).drop (j+1+1):=by
     rw [List.drop_eq_getElem_cons hj,List.getD_eq_getElem?_getD,zg hj];rfl
    rw [this];simp
   rw [e] at hd;exact hd
  ·rw [if_neg hj];have:=dropR (m:=m) ga p t hz' fun f hf=>ha f (by simp [hf])
   have e:(kids t).drop (j+1)=[]:=List.drop_of_length_le (by omega);simpa [tl,e] using this
end
section
def trF (L:List En):Nat->Nat->Tr
 |0,_=>.leaf 0
 |f+1,i=>match L[i]? with
  |none=>.leaf 0
  |some x=>if x.r.kind=1 then .leaf x.r.letter else if x.r.kind=2 then .pair (trF L f (x.r.left-1)) (trF L f (x.r.right-1)) else .pow (trF L f (x.r.left-1)) x.r.times
def Sto.tr (S:Sto) (id:Nat):Tr:=trF S.list id (id-1)
def Den (S:Sto) (id:Nat) (t:Tr):Prop:=1<=id∧id<=S.list.length∧S.tr id=t
theorem trF_fuel {S:Sto} (h:S.Ok):∀ (i f:Nat),i<f->i<S.list.length->trF S.list f i=trF S.list (i+1) i:=by
 intro i;induction i using Nat.strongRecOn with
 |_ i ih =>
  intro f hf hi;obtain ⟨f,rfl⟩:=Nat.exists_eq_succ_of_ne_zero (show f≠0 by omega);have hx:S.list[i]?=some S.list[i]:=(by simp);have he:=h.ents i _ hx;generalize S.list[i]=x at *;unfold trF;simp only [hx];cases he with
  |letter b hb=>rfl
  |pair l r y z hl hr hy hz hlen =>
   simp only [pairE,show ¬ (2=1) by omega,if_false,if_true,Nat.add_sub_cancel];rw [ih l hl f (by omega) (by omega),ih r hr f (by omega) (by omega),ih l hl i (by omega) (by omega),ih r hr i (by omega) (by omega)]
  |power l k y hl hy hk hlen =>
   simp only [powerE,show ¬ (3=1) by omega,show ¬ (3=2) by omega,if_false,Nat.add_sub_cancel];rw [ih l hl f (by omega) (by omega),ih l hl i (by omega) (by omega)]
inductive RuleOf (S:Sto) (i:Nat) (x:En):Prop
 |letter (b:Nat) (hb:b<256) (hr:x.r=⟨1,b,0,0,0⟩) (hw:x.w.len=1) (ht:S.tr (i+1)=.leaf b):RuleOf S i x
 |pair (l r:Nat) (y z:En) (hl:l<i) (hr:r<i) (hy:S.list[l]?=some y) (hz:S.list[r]?=some z) (he:x.r=⟨2,0,l+1,r+1,0⟩) (hw:x.w.len=y.w.len+z.w.len) (hs:y.w.len+z.w.len<=maxT) (ht:S.tr (i+1)=.pair (S.tr (l+1)) (S.tr (r+1))):RuleOf S i x
 |pow (l k:Nat) (y:En) (hl:l<i) (hy:S.list[l]?=some y) (hk:2<=k) (he:x.r=⟨3,0,l+1,0,k⟩) (hw:x.w.len=y.w.len*k) (hs:y.w.len*k<=maxT) (ht:S.tr (i+1)=.pow (S.tr (l+1)) k):RuleOf S i x
theorem rule_of {S:Sto} (h:S.Ok) {i:Nat} {x:En} (hx:S.list[i]?=some x):RuleOf S i x:=by
 have he:=h.ents i x hx;have hi:=gelt hx;cases he with
 |letter b hb=>exact .letter b hb rfl (letter_len b) (by simp [Sto.tr,trF,hx,letterE])
 |pair l r y z hl hr hy hz hlen =>
  refine .pair l r y z hl hr hy hz rfl rfl hlen ?_;have e:S.tr (i+1)=.pair (trF S.list i l) (trF S.list i r):=(by simp [Sto.tr,trF,hx,pairE]);rw [e,trF_fuel h l i hl (by omega),trF_fuel h r i hr (by omega)];rfl
 |power l k y hl hy hk hlen =>
  refine .pow l k y hl hy hk rfl rfl hlen ?_;have e:S.tr (i+1)=.pow (trF S.list i l) k:=(by simp [Sto.tr,trF,hx,powerE]);rw [e,trF_fuel h l i hl (by omega)];rfl
def Tr.len:Tr->Nat
 |.leaf _=>1
 |.pair l r=>l.len+r.len
 |.pow s k=>s.len*k
theorem tr_len {S:Sto} (h:S.Ok):∀ (i:Nat) (x:En),S.list[i]?=some x->(S.tr (i+1)).len=x.w.len∧(S.tr (i+1)).Pow2:=by
 intro i;induction i using Nat.strongRecOn with
 |_ i ih =>
  intro x hx;cases rule_of h hx with
  |letter b hb hr hw ht=>rw [ht,hw];exact ⟨rfl,trivial⟩
  |pair l r y z hl hr hy hz he hw hs ht =>
   rw [ht,hw];simp only [Tr.len,Tr.Pow2];have h1:=ih l hl y hy;have h2:=ih r hr z hz;exact ⟨by omega,h1.2,h2.2⟩
  |pow l k y hl hy hk he hw hs ht =>
   rw [ht,hw];simp only [Tr.len,Tr.Pow2];have h1:=ih l hl y hy;exact ⟨by rw [h1.1],h1.2,hk⟩
theorem tr_lev {S:Sto} (h:S.Ok):∀ (i:Nat) (x:En),S.list[i]?=some x->∀ a,(S.tr (i+1)).lev=some a->a<=246*i:=by
 intro i;induction i using Nat.strongRecOn with
 |_ i ih =>
  intro x hx a ha;cases rule_of h hx with
  |letter b hb hr hw ht=>rw [ht] at ha;simp [Tr.lev] at ha;omega
  |pair l r y z hl hr hy hz he hw hs ht =>
   rw [ht] at ha;obtain ⟨_,b,c,hb,hc,_,h1,h2,_⟩:=lev_pair_inv ha;have:=ih l hl y hy b hb;have:=ih r hr z hz c hc;omega
  |pow l k y hl hy hk he hw hs ht =>
   rw [ht] at ha;obtain ⟨b,hb,_,rfl⟩:=lev_pow_inv ha;have:=ih l hl y hy b hb;omega
theorem tr_inj {S:Sto} (h:S.Ok):∀ (i j:Nat) (x y:En),S.list[i]?=some x->S.list[j]?=some y->S.tr (i+1)=S.tr (j+1)->i=j:=by
 intro i;induction i using Nat.strongRecOn with
 |_ i ih =>
  intro j x y hx hy e;refine h.apart i j x y hx hy ?_;cases rule_of h hx with
  |letter b hb hr hw ht =>
   cases rule_of h hy with
   |letter b' hb' hr' hw' ht'=>rw [ht,ht'] at e;injection e with e;rw [hr,hr',e]
   |pair l r y z hl hr' hy hz he hw hs ht'=>rw [ht,ht'] at e;cases e
   |pow l k y hl hy hk he hw hs ht'=>rw [ht,ht'] at e;cases e
  |pair l r u v hl hr hu hv he hw hs ht =>
   cases rule_of h hy with
   |letter b' hb' hr' hw' ht'=>rw [ht,ht'] at e;cases e
   |pair l' r' u' v' hl' hr' hu' hv' he' hw' hs' ht' =>
    rw [ht,ht'] at e;injection e with e1 e2
    have h1:=ih l hl l' u u' hu hu' e1;have h2:=ih r hr r' v v' hv hv' e2;rw [he,he',h1,h2]
   |pow l' k' u' hl' hu' hk' he' hw' hs' ht'=>rw [ht,ht'] at e;cases e
  |pow l k u hl hu hk he hw hs ht =>
   cases rule_of h hy with
   |letter b' hb' hr' hw' ht'=>rw [ht,ht'] at e;cases e
   |pair l' r' u' v' hl' hr' hu' hv' he' hw' hs' ht'=>rw [ht,ht'] at e;cases e
   |pow l' k' u' hl' hu' hk' he' hw' hs' ht' =>
    rw [ht,ht'] at e;injection e with e1 e2
    have h1:=ih l hl l' u u' hu hu' e1;rw [he,he',h1,e2]
theorem den_get {S:Sto} {id:Nat} {t:Tr} (h:Den S id t):∃ i x,id=i+1∧S.list[i]?=some x∧S.tr (i+1)=t:=by
 obtain ⟨h1,h2,h3⟩:=h;obtain ⟨i,rfl⟩:=Nat.exists_eq_succ_of_ne_zero (show id≠0 by omega);exact ⟨i,S.list[i],rfl,by simp,h3⟩
theorem Den.id_inj {S:Sto} (hS:S.Ok) {a b:Nat} {t:Tr} (h1:Den S a t) (h2:Den S b t):a=b:=by
 obtain ⟨i,x,rfl,hx,e1⟩:=den_get h1;obtain ⟨j,y,rfl,hy,e2⟩:=den_get h2;rw [tr_inj hS i j x y hx hy (e1.trans e2.symm)]
theorem Den.tr_inj {S:Sto} {a:Nat} {t u:Tr} (h1:Den S a t) (h2:Den S a u):t=u:=h1.2.2.symm.trans h2.2.2
theorem Den.eq_iff {S:Sto} (hS:S.Ok) {a b:Nat} {t u:Tr} (h1:Den S a t) (h2:Den S b u):(a=b)↔t=u :=
 ⟨fun e=>by subst e;exact h1.tr_inj h2,fun e=>by subst e;exact h1.id_inj hS h2⟩
theorem den_of {S:Sto} {i:Nat} {x:En} (hx:S.list[i]?=some x):Den S (i+1) (S.tr (i+1)):=⟨by omega,gelt hx,rfl⟩
structure Sto.Le (S S':Sto):Prop where
 most:S'.most=S.most
 pre:∃ l,S'.list=S.list++l
theorem Sto.Le.refl (S:Sto):S.Le S:=⟨rfl,[],by simp⟩
theorem Sto.Le.trans {A B C:Sto} (h:A.Le B) (k:B.Le C):A.Le C:=by
 obtain ⟨h1,l,h2⟩:=h;obtain ⟨k1,l',k2⟩:=k;exact ⟨k1.trans h1,l++l',by rw [k2,h2,List.append_assoc]⟩
theorem Sto.Le.len {S S':Sto} (h:S.Le S'):S.list.length<=S'.list.length:=by obtain ⟨_,l,e⟩:=h;rw [e];simp
theorem Sto.Le.get {S S':Sto} (h:S.Le S') {i:Nat} {x:En} (hx:S.list[i]?=some x):S'.list[i]?=some x:=by
 obtain ⟨_,l,e⟩:=h;rw [e,List.getElem?_append_left (gelt hx)];exact hx
theorem trF_le {L l:List En}:∀ (f i:Nat),(∀ j,j<=i->j<L.length)->(∀ (j:Nat) (x:En),L[j]?=some x->(x.r.kind≠1->x.r.left-1<j)∧(x.r.kind=2->x.r.right-1<j))->trF (L++l) f i=trF L f i
 |0,_,_,_=>rfl
 |f+1,i,hi,ho=>by
  have hlt:=hi i (Nat.le_refl _);unfold trF;rw [List.getElem?_append_left hlt];have hx:L[i]?=some L[i]:=(by simp);rw [hx];simp only;obtain ⟨o1,o2⟩:=ho i _ hx;split
  ·rfl
  ·rename_i h1;have:=o1 h1;split
   ·rename_i h2;have:=o2 h2;rw [trF_le f _ (fun j hj=>by omega) ho,trF_le f _ (fun j hj=>by omega) ho]
   ·rw [trF_le f _ (fun j hj=>by omega) ho]
theorem Sto.Le.tr {S S':Sto} (h:S.Le S') (hS:S.Ok) {id:Nat} (h1:1<=id) (h2:id<=S.list.length):S'.tr id=S.tr id:=by
 obtain ⟨_,l,e⟩:=h;unfold Sto.tr;rw [e];refine trF_le id (id-1) (fun j hj=>by omega) fun j x hx=>?_
 cases rule_of hS hx with
 |letter b hb hr hw ht=>rw [hr];simp
 |pair l r y z hl hr hy hz he hw hs ht=>rw [he];simp;omega
 |pow l k y hl hy hk he hw hs ht=>rw [he];simp;omega
theorem Den.le {S S':Sto} {id:Nat} {t:Tr} (h:Den S id t) (hS:S.Ok) (hl:S.Le S'):Den S' id t:=⟨h.1,Nat.le_trans h.2.1 hl.len,by rw [hl.tr hS h.1 h.2.1];exact h.2.2⟩
def Made (S:Sto) (t:Tr) (r:(Nat×Option Nat)×Sto):Prop :=
 S.Le r.2∧r.2.Ok∧r.2.list.length<=S.list.length+1∧((r.1.2=none∧Den r.2 r.1.1 t)∨(r.1=(0,some 3)∧r.2=S∧S.most<=S.list.length))
theorem put_cases (S:Sto) (x:En):(∃ i,S.look x.r=some i∧S.put x=((i+1,none),S))∨(S.look x.r=none∧S.most<=S.list.length∧S.put x=((0,some 3),S))∨(S.look x.r=none∧S.list.length<S.most∧S.put x=((S.list.length+1,none),⟨S.most,S.list++[x]⟩)):=by
 unfold Sto.put;cases h:S.look x.r with
 |some i=>exact .inl ⟨i,rfl,rfl⟩
 |none =>
  by_cases h2:S.most<=S.list.length
  ·exact .inr (.inl ⟨rfl,h2,by simp [h2]⟩)
  ·exact .inr (.inr ⟨rfl,by omega,by simp [h2]⟩)
def ruleT (S:Sto) (r:Rl):Tr:=if r.kind=1 then .leaf r.letter else if r.kind=2 then .pair (S.tr r.left) (S.tr r.right) else .pow (S.tr r.left) r.times
theorem tr_rule {S:Sto} (h:S.Ok) {i:Nat} {x:En} (hx:S.list[i]?=some x):S.tr (i+1)=ruleT S x.r:=by
 cases rule_of h hx with
 |letter b hb hr hw ht=>rw [ht,hr];rfl
 |pair l r y z hl hr hy hz he hw hs ht=>rw [ht,he];rfl
 |pow l k y hl hy hk he hw hs ht=>rw [ht,he];rfl
theorem made_put {S:Sto} (h:S.Ok) {x:En} (hx:EnOk S.list S.list.length x):Made S (ruleT S x.r) (S.put x):=by
 have hok:=Sto.put_ok h hx;have hpre:=Sto.put_pre S x;rcases put_cases S x with ⟨i,h1,h2⟩|⟨h1,h2,h3⟩|⟨h1,h2,h3⟩
 ·rw [h2];obtain ⟨y,hy,he⟩:=look_some h1;refine ⟨.refl S,h,by simp,.inl ⟨rfl,by simp,gelt hy,?_⟩⟩;rw [tr_rule h hy,he]
 ·rw [h3];exact ⟨.refl S,h,by simp,.inr ⟨rfl,rfl,h2⟩⟩
 ·rw [h3] at hok ⊢;have hle:S.Le ⟨S.most,S.list++[x]⟩:=⟨rfl,[x],rfl⟩
  refine ⟨hle,hok,by simp,.inl ⟨rfl,by simp,by simp,?_⟩⟩;have hg:(⟨S.most,S.list++[x]⟩:Sto).list[S.list.length]?=some x:=(by simp);rw [tr_rule hok hg];cases hx with
  |letter b hb=>rfl
  |pair l r y z hl hr hy hz hlen =>
   have e1:=hle.tr h (id:=l+1) (by omega) (by omega);have e2:=hle.tr h (id:=r+1) (by omega) (by omega);exact (congr (congrArg Tr.pair e1) e2:Tr.pair _ _=Tr.pair _ _)
  |power l k y hl hy hk hlen =>
   have e1:=hle.tr h (id:=l+1) (by omega) (by omega);exact (congrArg (fun t=>Tr.pow t k) e1:Tr.pow _ k=Tr.pow _ k)
theorem made_letter {S:Sto} (h:S.Ok) {b:Nat} (hb:b<256):Made S (.leaf b) (S.letter b):=made_put h (.letter b hb)
theorem made_pair {S:Sto} (h:S.Ok) {l r:Nat} {t u:Tr} (hl:Den S l t) (hr:Den S r u) (hlen:t.len+u.len<=maxT):Made S (.pair t u) (S.pair l r):=by
 obtain ⟨i,x,rfl,hx,rfl⟩:=den_get hl;obtain ⟨j,y,rfl,hy,rfl⟩:=den_get hr;rw [(tr_len h i x hx).1,(tr_len h j y hy).1] at hlen;have e:S.pair (i+1) (j+1)=S.put (pairE x y (i+1) (j+1)):=by
  unfold Sto.pair;simp only [enAt,hx,hy];rw [if_neg (by omega),if_neg (by omega),if_neg (by omega)]
 rw [e];exact made_put h (.pair i j x y (gelt hx) (gelt hy) hx hy hlen)
theorem made_pow {S:Sto} (h:S.Ok) {l k:Nat} {t:Tr} (hl:Den S l t) (hk:2<=k) (hlen:t.len*k<=maxT):Made S (.pow t k) (S.power l k):=by
 obtain ⟨i,x,rfl,hx,rfl⟩:=den_get hl;rw [(tr_len h i x hx).1] at hlen;have e:S.power (i+1) k=S.put (powerE x (i+1) k):=by
  unfold Sto.power;simp only [enAt,hx];rw [if_neg (by omega),if_neg (by omega),if_neg (by omega)]
 rw [e];exact made_put h (.power i k x (gelt hx) hx hk hlen)
end
end Go.Proofs.YtgnppnokkdghcaaGreatDoor
section
namespace Go.Proofs
open Go.Shelf
def Tryz.lays29_ren:Go.Shelf.Ren:=⟨fun|29=>189|n=>n,fun|22=>74|3=>3|4=>4|25=>195|54=>291|0=>0|5=>5|n=>n,fun|1=>0|n=>n⟩
theorem Tryz.lays29:Go.Proofs.Lays7.n29 Tryz.prog Tryz.lays29_ren:={
 mixed:=by kernel_rfl
 f29:=Tryz.func189.trans (congrArg some (by kernel_rfl))
 t0:=Tryz.underlying0
 a0:=Tryz.isAgg0
 z0:=Tryz.sizeOf0
 v0:=Tryz.zeroValue0
 i0:=by kernel_rfl
 t3:=Tryz.underlying3
 a3:=Tryz.isAgg3
 z3:=Tryz.sizeOf3
 v3:=Tryz.zeroValue3
 i3:=by kernel_rfl
 t4:=Tryz.underlying4
 a4:=Tryz.isAgg4
 z4:=Tryz.sizeOf4
 v4:=Tryz.zeroValue4
 i4:=by kernel_rfl
 t5:=Tryz.underlying5
 a5:=Tryz.isAgg5
 z5:=Tryz.sizeOf5
 v5:=Tryz.zeroValue5
 i5:=by kernel_rfl
 t22:=Tryz.underlying74
 a22:=Tryz.isAgg74
 z22:=Tryz.sizeOf74
 v22:=Tryz.zeroValue74
 i22:=by kernel_rfl
 t25:=Tryz.underlying195
 a25:=Tryz.isAgg195
 z25:=Tryz.sizeOf195
 v25:=Tryz.zeroValue195
 i25:=by kernel_rfl
 t54:=Tryz.underlying291
 a54:=Tryz.isAgg291
 z54:=Tryz.sizeOf291
 g1:=by kernel_rfl }
namespace YtgnppnokkdghcaaGreatDoor
open Go.RowKit
def deA:As:=⟨[0],fun w=>TabAt 0 Lib.deBruijn64tab w∧0<w.heap.size,fun w w' h hw=>by
  obtain ⟨h1,h2⟩:=hw;have h0:=h 0 (by simp);refine ⟨fun j hj=>?_,?_⟩
  ·rw [← h1 j hj];unfold World.cell?;simp only [h0]
  ·rw [Array.getElem?_eq_getElem h2] at h0;exact Array.getElem?_eq_some_iff.1 h0 |>.1,fun w hw b hb=>by simp at hb;subst hb;exact hw.2⟩
theorem deA_ho (w:World):deA.ho w=(TabAt 0 Lib.deBruijn64tab w∧0<w.heap.size):=rfl
attribute [irreducible] deA
theorem tz_c (x:Nat) (hx:x<18446744073709551616) (w:World) (hT:deA.ho w):Calls Tryz.prog 189 #[.int .u64 x] w fun e w'=>e=.returned (.int .i64 (Lib.ctz 64 x:Nat))∧w'=w:=by
 rw [deA_ho] at hT;have h:=Any7.bits_TrailingZeros64 Tryz.lays29 x hx w (fun _=>hT.1);exact Calls.mono h fun _ _ ⟨h1,h2⟩=>⟨h1,h2⟩
end YtgnppnokkdghcaaGreatDoor
end Go.Proofs
end
namespace Go.Proofs.YtgnppnokkdghcaaGreatDoor
section
open Go.RowKit
def fitsC (c x y:Nat):Bool:=if c=122 then decide (x=y) else decide (x/2 ^ (c/2)%2=c%2)&&decide (y/2 ^ (c/2)%2=1-c%2)
theorem fitsN_num {x y L:Nat} (h2:2<=L) (h0:L%2=0):fitsN x y L=fitsC ((L/2-1)%123) x y:=by
 unfold fitsN fitsC;rw [if_neg (by omega)]
def dif (c x y:Nat):Nat:=if c%2=1∧x/2 ^ (c/2)%2=0 then (x ^^^ y)/2 ^ (c/2)*2 ^ (c/2) &&& (18446744073709551615-2 ^ (c/2)) else (x ^^^ y)/2 ^ (c/2)*2 ^ (c/2)
def fitF (c x y:Nat):Option Nat:=if x=y then some 122 else if c=122 then none else if dif c x y=0 then none else some (2*Lib.ctz 64 (dif c x y)+x/2 ^ Lib.ctz 64 (dif c x y)%2)
theorem xor_lt61 {x y:Nat} (hx:x<2305843009213693952) (hy:y<2305843009213693952):x ^^^ y<2305843009213693952:=Nat.xor_lt_two_pow (n:=61) hx hy
theorem tb (x i:Nat):x.testBit i=decide (x/2 ^ i%2=1):=Nat.testBit_eq_decide_div_mod_eq
theorem dif_bit (c x y i:Nat) (hc:c<122) (hi:i<64):(dif c x y).testBit i=(decide (c/2<=i)&&(x.testBit i != y.testBit i) && !(decide (c%2=1∧x/2 ^ (c/2)%2=0∧i=c/2))):=by
 have hD:((x ^^^ y)/2 ^ (c/2)*2 ^ (c/2)).testBit i=(decide (c/2<=i)&&(x.testBit i != y.testBit i)):=by
  rw [Nat.testBit_mul_two_pow,Nat.testBit_div_two_pow];by_cases h:c/2<=i
  ·rw [Nat.sub_add_cancel h,Nat.testBit_xor]
  ·simp [h]
 unfold dif;split
 ·rename_i h;rw [Nat.testBit_and,hD];have hm:(18446744073709551615-2 ^ (c/2)).testBit i = !decide (i=c/2):=by
   have e:=Nat.testBit_two_pow_sub_succ (x:=2 ^ (c/2)) (n:=64) (Nat.pow_lt_pow_right (by omega) (by omega)) i;rw [show (2:Nat) ^ 64-(2 ^ (c/2)+1)=18446744073709551615-2 ^ (c/2) by omega] at e;rw [e,Nat.testBit_two_pow];simp [hi];by_cases hh:c/2=i
   ·simp [hh]
   ·simp [hh];omega
  rw [hm];simp [h.1,h.2]
 ·rename_i h;rw [hD];have:¬ (c%2=1∧x/2 ^ (c/2)%2=0∧i=c/2):=fun h'=>h ⟨h'.1,h'.2.1⟩
  simp [this]
theorem dif_lt {c x y:Nat} (hx:x<2305843009213693951) (hy:y<2305843009213693951):dif c x y<2305843009213693952:=by
 have h1:=xor_lt61 (x:=x) (y:=y) (by omega) (by omega);have h2:(x ^^^ y)/2 ^ (c/2)*2 ^ (c/2)<=x ^^^ y:=Nat.div_mul_le_self _ _;unfold dif;split
 ·exact Nat.lt_of_le_of_lt Nat.and_le_left (by omega)
 ·omega
theorem low_bit {d:Nat} (h0:d≠0) (h:d<18446744073709551616):Lib.ctz 64 d<64∧d.testBit (Lib.ctz 64 d)=true∧∀ j,j<Lib.ctz 64 d->d.testBit j=false:=by
 have hb:=(Lib.lowest_bit 64 d h0 h).2;have e:Lib.ctz 64 d=Lib.ctzFrom 64 d:=(by unfold Lib.ctz;rw [if_neg h0]);obtain ⟨m,hm,_⟩:=Lib.ctzFrom_spec 64 d (by omega) h;rw [← e] at hm;clear e;generalize Lib.ctz 64 d=q at *;refine ⟨hb,?_,fun j hj=>?_⟩
 ·rw [hm,Nat.mul_comm,Nat.testBit_mul_two_pow];simp
 ·rw [hm,Nat.mul_comm,Nat.testBit_mul_two_pow];have:¬ q<=j:=by omega
  simp [this]
theorem fitsC_bits {c x y:Nat} (hc:c<122):fitsC c x y=true↔x.testBit (c/2)≠y.testBit (c/2)∧x/2 ^ (c/2)%2=c%2:=by
 unfold fitsC;rw [if_neg (by omega),tb,tb];simp only [Bool.and_eq_true,decide_eq_true_eq];have h1:x/2 ^ (c/2)%2<2:=Nat.mod_lt _ (by omega);have h2:y/2 ^ (c/2)%2<2:=Nat.mod_lt _ (by omega);constructor
 ·rintro ⟨a,b⟩;refine ⟨fun e=>?_,a⟩;have:=decide_eq_decide.1 e;omega
 ·rintro ⟨a,b⟩;refine ⟨b,?_⟩;have:¬ (x/2 ^ (c/2)%2=1↔y/2 ^ (c/2)%2=1):=fun h=>a (decide_eq_decide.2 h)
  omega
theorem bit_iff {c x y m:Nat} (hc:c<122) (hcm:c<=m) (hm:m<122) (hf:fitsC m x y=true):(dif c x y).testBit (m/2)=true:=by
 obtain ⟨h1,h2⟩:=(fitsC_bits hm).1 hf;rw [dif_bit c x y (m/2) hc (by omega)];have h3:c/2<=m/2:=(by omega);have h4:¬ (c%2=1∧x/2 ^ (c/2)%2=0∧m/2=c/2):=by
  rintro ⟨a,b,e⟩;rw [e] at h2;omega
 have h5:(x.testBit (m/2) != y.testBit (m/2))=true:=(by simpa using h1);rw [h5];simp [h3,h4]
theorem bit_low {c x y b:Nat} (hc:c<122) (hb:b<61) (h:(dif c x y).testBit b=true):fitsC (2*b+x/2 ^ b%2) x y=true∧c<=2*b+x/2 ^ b%2:=by
 rw [dif_bit c x y b hc (by omega)] at h;simp only [Bool.and_eq_true,decide_eq_true_eq,Bool.not_eq_true',decide_eq_false_iff_not,bne_iff_ne] at h;obtain ⟨⟨h1,h2⟩,h3⟩:=h;have hx2:x/2 ^ b%2<2:=Nat.mod_lt _ (by omega);refine ⟨(fitsC_bits (by omega)).2 ?_,?_⟩
 ·rw [show (2*b+x/2 ^ b%2)/2=b by omega];exact ⟨h2,by omega⟩
 ·by_cases hb2:c/2=b
  ·rw [← hb2] at hx2 ⊢;by_cases h5:c%2=1
   ·have:¬ x/2 ^ (c/2)%2=0:=fun h6=>h3 ⟨h5,h6,hb2.symm⟩
    omega
   ·omega
  ·omega
theorem fitF_some {c x y m:Nat} (hc:c<=122) (hx:x<2305843009213693951) (hy:y<2305843009213693951) (h:fitF c x y=some m):c<=m∧m<=122∧fitsC m x y=true∧∀ k,c<=k->k<m->fitsC k x y=false:=by
 unfold fitF at h;split at h
 ·rename_i e;subst e;injection h with h
  subst h;refine ⟨hc,Nat.le_refl _,by simp [fitsC],fun k hk hkm=>?_⟩;cases hf:fitsC k x x with
  |false=>rfl
  |true=>exact absurd rfl ((fitsC_bits hkm).1 hf).1
 ·split at h
  ·cases h
  ·split at h
   ·cases h
   ·rename_i hne hct h0;injection h with h
    have hlt:=dif_lt (c:=c) hx hy;obtain ⟨b1,b2,b3⟩:=low_bit h0 (by omega);have hb61:Lib.ctz 64 (dif c x y)<61:=Nat.lt_of_not_le fun hle=>by
     have:=Nat.testBit_lt_two_pow (x:=dif c x y) (i:=Lib.ctz 64 (dif c x y)) (Nat.lt_of_lt_of_le hlt (by have:=Nat.pow_le_pow_right (n:=2) (by omega) hle;simpa using this));rw [this] at b2;cases b2
    generalize Lib.ctz 64 (dif c x y)=b at *;obtain ⟨c1,c2⟩:=bit_low (by omega) hb61 b2;have hx2:x/2 ^ b%2<2:=Nat.mod_lt _ (by omega);subst h;refine ⟨c2,by omega,c1,fun k hk hkm=>?_⟩;cases hf:fitsC k x y with
    |false=>rfl
    |true =>
     exfalso;have:=bit_iff (by omega) hk (by omega) hf;by_cases hkb:k/2<b
     ·rw [b3 _ hkb] at this;cases this
     ·have e:k/2=b:=(by omega);have:=((fitsC_bits (by omega)).1 hf).2;rw [e] at this;omega
theorem fitF_none {c x y:Nat} (hc:c<=122) (h:fitF c x y=none):∀ k,c<=k->k<=122->fitsC k x y=false:=by
 unfold fitF at h;split at h
 ·cases h
 ·rename_i hne;intro k hk hk2;cases hf:fitsC k x y with
  |false=>rfl
  |true =>
   exfalso;by_cases h3:k=122
   ·subst h3;simp [fitsC] at hf;exact hne hf
   ·split at h
    ·omega
    ·split at h
     ·rename_i h0;have:=bit_iff (by omega) hk (by omega) hf;rw [h0] at this;simp at this
     ·cases h
theorem fitF_zero {x y:Nat} (hx:x<2305843009213693951) (hy:y<2305843009213693951):∃ m,fitF 0 x y=some m:=by
 cases h:fitF 0 x y with
 |some m=>exact ⟨m,rfl⟩
 |none =>
  exfalso;obtain ⟨c,hc,hf⟩:=fits_num hx hy;have:=fitF_none (by omega) h c (by omega) (by omega);have h2:=hf (2*(c+1)) (by omega) (by omega) (by omega);rw [fitsN_num (by omega) (by omega),show (2*(c+1)/2-1)%123=c by omega,this] at h2;cases h2
theorem after_one {low x y m:Nat} (hx:x<2305843009213693951) (hy:y<2305843009213693951) (h:fitF ((low/2+1-1)%123) x y=some m):afterN low x y=2*(low/2+1+m-(low/2+1-1)%123):=by
 obtain ⟨h1,h2,h3,h4⟩:=fitF_some (by omega) hx hy h;refine afterN_of (by omega) (by omega) (by omega) ?_ fun L' a b c=>?_
 ·rw [fitsN_num (by omega) (by omega),show (2*(low/2+1+m-(low/2+1-1)%123)/2-1)%123=m by omega];exact h3
 ·rw [fitsN_num (by omega) (by omega)];exact h4 _ (by omega) (by omega)
theorem after_two {low x y m:Nat} (hx:x<2305843009213693951) (hy:y<2305843009213693951) (h:fitF ((low/2+1-1)%123) x y=none) (h':fitF 0 x y=some m):afterN low x y=2*(low/2+1+m-(low/2+1-1)%123+123)∧m<(low/2+1-1)%123:=by
 obtain ⟨h1,h2,h3,h4⟩:=fitF_some (by omega) hx hy h';have h5:=fitF_none (by omega) h;have hm:m<(low/2+1-1)%123:=Nat.lt_of_not_le fun hle=>by rw [h5 m hle h2] at h3;cases h3
 refine ⟨afterN_of (by omega) (by omega) (by omega) ?_ fun L' a b c=>?_,hm⟩
 ·rw [fitsN_num (by omega) (by omega),show (2*(low/2+1+m-(low/2+1-1)%123+123)/2-1)%123=m by omega];exact h3
 ·rw [fitsN_num (by omega) (by omega)];by_cases hq:(low/2)%123<=(L'/2-1)%123
  ·exact h5 _ (by omega) (by omega)
  ·exact h4 _ (by omega) (by omega)
def fitI:Option Nat->Int|some m=>m|none=>-1
theorem fitting_same (c x:Nat) (hx:x<2305843009213693951) (w:World) :
  Calls Tryz.prog 185 #[.int .i64 c,.int .u64 x,.int .u64 x] w fun e w'=>e=.returned (.int .i64 122)∧w'=w:=by
 go_enter Tryz.func185,Tryz.ntmps185
 go_wp2
 go_ret;exact ⟨rfl,rfl⟩
theorem fitting_tie (x y:Nat) (hne:((x:Int)==y)=false) (w:World) :
  Calls Tryz.prog 185 #[.int .i64 (122:Nat),.int .u64 x,.int .u64 y] w fun e w'=>e=.returned (.int .i64 (-1))∧w'=w:=by
 go_enter Tryz.func185,Tryz.ntmps185
 go_wp2
 go_ret;exact ⟨rfl,rfl⟩
theorem wrap64 (a:Nat) (h:a<18446744073709551616):IntKind.u64.wrap (a:Int)=(a:Int):=by rw [IntKind.wrap_u64];omega
theorem cast_dm (d k:Nat):((d:Int)/2 ^ k*2 ^ k)=((d/2 ^ k*2 ^ k:Nat):Int):=by simp
theorem and1_u64 (x k:Nat) (hx:x<18446744073709551616):bits .and .u64 ((x:Int)/2 ^ k) 1=((x/2 ^ k%2:Nat):Int):=by
 have h:=u64_and_nat (x/2 ^ k) 1 (Nat.lt_of_le_of_lt (Nat.div_le_self _ _) hx) (by omega);rw [nat_mask1] at h;rw [← h];simp
theorem fitting_t (c x y:Nat) (hc:c<122) (hne:x≠y) (hx:x<2305843009213693951) (hy:y<2305843009213693951) (w:World) (hde:deA.ho w) :
  Calls Tryz.prog 185 #[.int .i64 c,.int .u64 x,.int .u64 y] w fun e w'=>e=.returned (.int .i64 (fitI (fitF c x y)))∧w'=w:=by
 have hne':((x:Int)==y)=false:=(by simp;omega);have hc2:((c:Int)==122)=false:=(by simp;omega);have hX:=xor_lt61 (x:=x) (y:=y) (by omega) (by omega);have e1:bits .xor .u64 (x:Int) (y:Int)=((x ^^^ y:Nat):Int):=u64_xor_nat x y (by omega) (by omega);have e2:bits .and .u64 ((x ^^^ y:Nat):Int) 2305843009213693951=((x ^^^ y:Nat):Int):=by
  rw [and61 _ (by omega),Nat.mod_eq_of_lt hX]
 have hfit:fitF c x y=if dif c x y=0 then none else some (2*Lib.ctz 64 (dif c x y)+x/2 ^ Lib.ctz 64 (dif c x y)%2):=by
  unfold fitF;rw [if_neg hne,if_neg (by omega)]
 have hdl:=dif_lt (c:=c) hx hy;have hctz:Lib.ctz 64 (dif c x y)<=64:=by
  by_cases h0:dif c x y=0
  ·rw [h0];decide
  ·exact Nat.le_of_lt (low_bit h0 (by omega)).1
 have e3:=and1_u64 x (c/2) (by omega);have e6:=and1_u64 x (Lib.ctz 64 (dif c x y)) (by omega);have hxb:x/2 ^ Lib.ctz 64 (dif c x y)%2<2:=Nat.mod_lt _ (by omega);have hpl:(2:Nat) ^ (c/2)<18446744073709551616:=(by have:=Nat.pow_lt_pow_right (a:=2) (by omega) (show c/2<64 by omega);simpa using this);have e4:IntKind.u64.wrap (2 ^ (c/2))=(2 ^ (c/2):Int):=(by have:=wrap64 _ hpl;simpa using this);have hDl:(x ^^^ y)/2 ^ (c/2)*2 ^ (c/2)<18446744073709551616:=(by have:=Nat.div_mul_le_self (x ^^^ y) (2 ^ (c/2));omega);have e5:IntKind.u64.wrap (((x ^^^ y:Nat):Int)/2 ^ (c/2)*2 ^ (c/2))=(((x ^^^ y)/2 ^ (c/2)*2 ^ (c/2):Nat):Int):=(by rw [cast_dm];exact wrap64 _ hDl);have e7:bits .andNot .u64 (((x ^^^ y)/2 ^ (c/2)*2 ^ (c/2):Nat):Int) (2 ^ (c/2):Int)=(((x ^^^ y)/2 ^ (c/2)*2 ^ (c/2) &&& (18446744073709551615-2 ^ (c/2)):Nat):Int):=(by have:=u64_andNot_nat _ _ hDl hpl;simpa using this);rw [hfit];by_cases hcase:c%2=1∧x/2 ^ (c/2)%2=0
 ·have ed:dif c x y=(x ^^^ y)/2 ^ (c/2)*2 ^ (c/2) &&& (18446744073709551615-2 ^ (c/2)):=(by unfold dif;rw [if_pos hcase]);rw [← ed] at e7;rw [hcase.2] at e3;have hc3:((c:Int)%2==1)=true:=(by simp;omega);generalize dif c x y=D at *;clear ed hfit;generalize (x ^^^ y)/2 ^ (c/2)*2 ^ (c/2)=D0 at *;generalize x ^^^ y=X at *;by_cases h0:D=0
  ·subst h0;clear e6 hxb;rw [if_pos rfl];go_enter Tryz.func185,Tryz.ntmps185
   go_wp2
   go_ret;exact ⟨rfl,rfl⟩
  ·have h0':((D:Int)==0)=false:=(by simp;omega);rw [if_neg h0];have HT:Hid (∀ w,deA.ho w->Calls Tryz.prog 189 #[.int .u64 D] w fun e w'=>e=.returned (.int .i64 (Lib.ctz 64 D:Nat))∧w'=w):=zh fun w h=>tz_c D (by omega) w h
   generalize Lib.ctz 64 D=b at *;have HDE:=zh hde;clear h0 hde;go_enter Tryz.func185,Tryz.ntmps185;go_wp2_with (go_at_call 189;with_reducible refine same (HT.out _ HDE.out) ?_);go_ret;exact ⟨by simp [fitI],rfl⟩
 ·have ed:dif c x y=(x ^^^ y)/2 ^ (c/2)*2 ^ (c/2):=(by unfold dif;rw [if_neg hcase]);have hcc:((c:Int)%2==1)=false∨(((c:Int)%2==1)=true∧x/2 ^ (c/2)%2=1):=by
   have:x/2 ^ (c/2)%2<2:=Nat.mod_lt _ (by omega);by_cases h1:c%2=1
   ·right
    exact ⟨by simp;omega,by
     by_cases h2:x/2 ^ (c/2)%2=0
     ·exact absurd ⟨h1,h2⟩ hcase
     ·omega⟩
   ·left;simp;omega
  clear hcase;rw [← ed] at e5;clear e7;generalize dif c x y=D at *;clear ed hfit;generalize x ^^^ y=X at *;by_cases h0:D=0
  ·subst h0;clear e6 hxb;rw [if_pos rfl];rcases hcc with hc3|⟨hc3,hb⟩
   ·go_enter Tryz.func185,Tryz.ntmps185
    go_wp2
    go_ret;exact ⟨rfl,rfl⟩
   ·rw [hb] at e3;go_enter Tryz.func185,Tryz.ntmps185
    go_wp2
    go_ret;exact ⟨rfl,rfl⟩
  ·have h0':((D:Int)==0)=false:=(by simp;omega);rw [if_neg h0];have HT:Hid (∀ w,deA.ho w->Calls Tryz.prog 189 #[.int .u64 D] w fun e w'=>e=.returned (.int .i64 (Lib.ctz 64 D:Nat))∧w'=w):=zh fun w h=>tz_c D (by omega) w h
   generalize Lib.ctz 64 D=b at *;have HDE:=zh hde;clear h0 hde;rcases hcc with hc3|⟨hc3,hb⟩
   ·go_enter Tryz.func185,Tryz.ntmps185;go_wp2_with (go_at_call 189;with_reducible refine same (HT.out _ HDE.out) ?_);go_ret;exact ⟨by simp [fitI],rfl⟩
   ·rw [hb] at e3;go_enter Tryz.func185,Tryz.ntmps185;go_wp2_with (go_at_call 189;with_reducible refine same (HT.out _ HDE.out) ?_);go_ret;exact ⟨by simp [fitI],rfl⟩
theorem fitting_c (c x y:Nat) (hc:c<=122) (hx:x<2305843009213693951) (hy:y<2305843009213693951) (w:World) (hde:deA.ho w) :
  Calls Tryz.prog 185 #[.int .i64 c,.int .u64 x,.int .u64 y] w fun e w'=>e=.returned (.int .i64 (fitI (fitF c x y)))∧w'=w:=by
 by_cases h:x=y
 ·subst h;have:fitF c x x=some 122:=by simp [fitF]
  rw [this];exact fitting_same c x hx w
 ·by_cases hc2:c=122
  ·subst hc2;have:fitF 122 x y=none:=by simp [fitF,h]
   rw [this];exact fitting_tie x y (by simp;omega) w
  ·exact fitting_t c x y (by omega) h hx hy w hde
end
section
open Go.RowKit
theorem after_c (low x y:Nat) (hl:low<1152921504606846976) (hx:x<2305843009213693951) (hy:y<2305843009213693951) (w:World) (hde:deA.ho w) :
  Calls Tryz.prog 171 #[.int .i64 low,.int .u64 x,.int .u64 y] w fun e w'=>e=.returned (.int .i64 (afterN low x y:Nat))∧w'=w:=by
 have h2:(low/2+1-1)%123=low/2%123:=(by omega);have HF:Hid (∀ w,deA.ho w->Calls Tryz.prog 185 #[.int .i64 ((low:Int)/2%123),.int .u64 x,.int .u64 y] w fun e w'=>e=.returned (.int .i64 (fitI (fitF (low/2%123) x y)))∧w'=w):=zh fun w h=>by
  have:=fitting_c (low/2%123) x y (by omega) hx hy w h;simpa using this
 have HF0:Hid (∀ w,deA.ho w->Calls Tryz.prog 185 #[.int .i64 0,.int .u64 x,.int .u64 y] w fun e w'=>e=.returned (.int .i64 (fitI (fitF 0 x y)))∧w'=w):=zh fun w h=>by
  have:=fitting_c 0 x y (by omega) hx hy w h;simpa using this
 have HDE:=zh hde;cases h:fitF (low/2%123) x y with
 |some m =>
  have e:=after_one hx hy (by rw [h2];exact h);rw [h2] at e;obtain ⟨h3,h4,_⟩:=fitF_some (by omega) hx hy h;rw [h] at HF;simp only [fitI] at HF;have hm:(m:Int)-((low:Int)/2%123)=((m-low/2%123:Nat):Int):=(by omega);have HE:=zh (za e h3);clear hde e h h2 hm;go_enter Tryz.func171,Tryz.ntmps171;go_wp2_with (go_at_call 185;with_reducible refine same (HF.out _ HDE.out) ?_);go_ret;refine ⟨?_,rfl⟩;obtain ⟨e,h3⟩:=HE.out;rw [e];refine congrArg Ending.returned (congrArg (Value.int .i64) ?_);omega
 |none =>
  obtain ⟨m,hm⟩:=fitF_zero hx hy;obtain ⟨e,h3⟩:=after_two hx hy (by rw [h2];exact h) hm;rw [h2] at e h3;rw [h] at HF;rw [hm] at HF0;simp only [fitI] at HF HF0;have HE:=zh (za e h3);have hm122:=(fitF_some (by omega) hx hy hm).2.1;clear hde e h h2 hm h3;go_enter Tryz.func171,Tryz.ntmps171;go_wp2_with (go_at_call 185;first|(with_reducible refine same (HF.out _ HDE.out) ?_)|(with_reducible refine same (HF0.out _ HDE.out) ?_));go_ret;refine ⟨?_,rfl⟩;obtain ⟨e,h3⟩:=HE.out;rw [e];refine congrArg Ending.returned (congrArg (Value.int .i64) ?_);omega
theorem number_c (L:Nat) (hL:L<1152921504606846976) (w:World) :
  Calls Tryz.prog 151 #[.int .i64 L] w fun e w'=>e=.returned (if L<2∨L%2=1 then .tuple #[.int .i64 0,.bool false] else .tuple #[.int .i64 ((L/2-1)%123:Nat),.bool true])∧w'=w:=by
 by_cases h2:L<2
 ·rw [if_pos (.inl h2)];have:((L:Int)<2):=by omega
  go_enter Tryz.func151,Tryz.ntmps151
  go_wp2
  go_ret2;exact ⟨rfl,rfl⟩
 ·have h2':¬ ((L:Int)<2):=(by omega);by_cases h0:L%2=1
  ·rw [if_pos (.inr h0)];have:((L:Int)%2==0)=false:=by simp;omega
   go_enter Tryz.func151,Tryz.ntmps151
   go_wp2
   go_ret2;exact ⟨rfl,rfl⟩
  ·rw [if_neg (by omega)];have:((L:Int)%2==0)=true:=by simp;omega
   have hs:(L:Int)/2-1=((L/2-1:Nat):Int):=(by omega);go_enter Tryz.func151,Tryz.ntmps151
   go_wp2
   go_ret2;exact ⟨by congr 2,rfl⟩
theorem mix_eq (k x y:Nat):mixN k x y=((k+(1234567890123456789*x%PP+987654321987654321*y%PP)%PP)%PP) ^ 17%PP:=by
 unfold mixN;have h:(k+(1234567890123456789*x%PP+987654321987654321*y%PP)%PP)%PP=(k+(1234567890123456789*x+987654321987654321*y))%PP:=by
  rw [← Nat.add_mod,Nat.add_mod_mod]
 rw [h,← Nat.pow_mod]
theorem mix_c (k x y:Nat) (hk:k<4) (hx:x<18446744073709551616) (hy:y<18446744073709551616) (w:World) :
  Calls Tryz.prog 170 #[.int .u64 k,.int .u64 x,.int .u64 y] w fun e w'=>e=.returned (.int .u64 (mixN k x y:Nat))∧w'=w:=by
 rw [mix_eq];have p1:=PP_lt (1234567890123456789*x);have p2:=PP_lt (987654321987654321*y);have p3:=PP_lt (1234567890123456789*x%PP+987654321987654321*y%PP);have p4:=PP_lt (k+(1234567890123456789*x%PP+987654321987654321*y%PP)%PP);have H1:Hid (∀ w,Calls Tryz.prog 135 #[.int .u64 1234567890123456789,.int .u64 x] w fun e w'=>e=.returned (.int .u64 (1234567890123456789*x%PP:Nat))∧w'=w):=zh fun w=>mul_c 1234567890123456789 x (by omega) hx w
 have H2:Hid (∀ w,Calls Tryz.prog 135 #[.int .u64 987654321987654321,.int .u64 y] w fun e w'=>e=.returned (.int .u64 (987654321987654321*y%PP:Nat))∧w'=w):=zh fun w=>mul_c 987654321987654321 y (by omega) hy w
 generalize 1234567890123456789*x%PP=a at *;generalize 987654321987654321*y%PP=b at *;have H3:Hid (∀ w,Calls Tryz.prog 134 #[.int .u64 a,.int .u64 b] w fun e w'=>e=.returned (.int .u64 ((a+b)%PP:Nat))∧w'=w):=zh fun w=>add_c a b (by omega) (by omega) w
 generalize (a+b)%PP=c at *;have H4:Hid (∀ w,Calls Tryz.prog 134 #[.int .u64 k,.int .u64 c] w fun e w'=>e=.returned (.int .u64 ((k+c)%PP:Nat))∧w'=w):=zh fun w=>add_c k c (by omega) (by omega) w
 generalize (k+c)%PP=d at *;have H5:Hid (∀ w,Calls Tryz.prog 133 #[.int .u64 d,.int .u64 17] w fun e w'=>e=.returned (.int .u64 (d ^ 17%PP:Nat))∧w'=w):=zh fun w=>pow_c d 17 17 rfl (by omega) (by omega) w
 generalize d ^ 17%PP=r at *;go_enter Tryz.func170,Tryz.ntmps170;go_wp2_with (first|(go_at_call 135;first|(with_reducible refine same (H1.out _) ?_)|(with_reducible refine same (H2.out _) ?_))|(go_at_call 134;first|(with_reducible refine same (H3.out _) ?_)|(with_reducible refine same (H4.out _) ?_))|(go_at_call 133;with_reducible refine same (H5.out _) ?_));go_ret;exact ⟨rfl,rfl⟩
end
section
open Go.RowKit
def numV (L:Nat):Value :=
 if L<2∨L%2=1 then .tuple #[.int .i64 0,.int .u64 0,.bool false]
 else if (L/2-1)%123=122 then .tuple #[.int .i64 0,.int .u64 0,.bool true]
 else .tuple #[.int .i64 ((L/2-1)%123/2:Nat),.int .u64 ((L/2-1)%123%2:Nat),.bool false]
theorem Number_c (L:Nat) (hL:L<1152921504606846976) (w:World) :
  Calls Tryz.prog 125 #[.int .i64 L] w fun e w'=>e=.returned (numV L)∧w'=w:=by
 have HN:=zh (number_c L hL);unfold numV;by_cases h1:L<2∨L%2=1
 ·rw [if_pos h1];simp only [if_pos h1] at HN;clear h1;go_enter Tryz.func125,Tryz.ntmps125;go_wp2_with (go_at_call 151;with_reducible refine same (HN.out _) ?_)
  go_ret3
  exact ⟨rfl,rfl⟩
 ·rw [if_neg h1];simp only [if_neg h1] at HN;have hlt:(L/2-1)%123<123:=Nat.mod_lt _ (by omega);clear h1;generalize (L/2-1)%123=c at *;by_cases h2:c=122
  ·subst h2;rw [if_pos rfl];go_enter Tryz.func125,Tryz.ntmps125;go_wp2_with (go_at_call 151;with_reducible refine same (HN.out _) ?_)
   go_ret3
   exact ⟨rfl,rfl⟩
  ·rw [if_neg h2];have h3:((c:Int)==122)=false:=(by simp;omega);clear h2;go_enter Tryz.func125,Tryz.ntmps125;go_wp2_with (go_at_call 151;with_reducible refine same (HN.out _) ?_)
   go_ret3
   exact ⟨by simp,rfl⟩
theorem fits_c (x y L:Nat) (hL:L<1152921504606846976) (hx:x<2305843009213693951) (hy:y<2305843009213693951) (w:World) :
  Calls Tryz.prog 188 #[.int .u64 x,.int .u64 y,.int .i64 L] w fun e w'=>e=.returned (.bool (fitsN x y L))∧w'=w:=by
 have HN:=zh (number_c L hL);unfold fitsN;by_cases h1:L<2∨L%2=1
 ·rw [if_pos h1];simp only [if_pos h1] at HN;clear h1;go_enter Tryz.func188,Tryz.ntmps188;go_wp2_with (go_at_call 151;with_reducible refine same (HN.out _) ?_);go_ret;exact ⟨rfl,rfl⟩
 ·rw [if_neg h1];simp only [if_neg h1] at HN;have hlt:(L/2-1)%123<123:=Nat.mod_lt _ (by omega);clear h1;generalize (L/2-1)%123=c at *;by_cases h2:c=122
  ·subst h2;rw [if_pos rfl];have hd:((x:Int)==(y:Int))=decide (x=y):=(by rw [Bool.eq_iff_iff];simp;omega);go_enter Tryz.func188,Tryz.ntmps188;go_wp2_with (go_at_call 151;with_reducible refine same (HN.out _) ?_);go_ret;exact ⟨rfl,rfl⟩
  ·rw [if_neg h2];have h3:((c:Int)==122)=false:=(by simp;omega);have e1:=and1_u64 x (c/2) (by omega);have e2:=and1_u64 y (c/2) (by omega);have hxb:x/2 ^ (c/2)%2<2:=Nat.mod_lt _ (by omega);have hyb:y/2 ^ (c/2)%2<2:=Nat.mod_lt _ (by omega);have hcb:c%2<2:=Nat.mod_lt _ (by omega);generalize x/2 ^ (c/2)%2=xb at *;generalize y/2 ^ (c/2)%2=yb at *;have hs:(1:Int)-(c:Int)%2=((1-c%2:Nat):Int):=(by omega);clear h2;by_cases h4:xb=c%2
   ·have d1:((xb:Int)==(c:Int)%2)=true:=(by simp;omega);have hd:((yb:Int)==((1-c%2:Nat):Int))=decide (yb=1-c%2):=(by rw [Bool.eq_iff_iff];simp;omega);have H4:=zh h4;clear h4;go_enter Tryz.func188,Tryz.ntmps188;go_wp2_with (go_at_call 151;with_reducible refine same (HN.out _) ?_);go_ret;exact ⟨congrArg Ending.returned (congrArg Value.bool (by rw [decide_eq_true H4.out,Bool.true_and])),rfl⟩
   ·have d1:((xb:Int)==(c:Int)%2)=false:=(by simp;omega);have H4:=zh h4;clear h4;go_enter Tryz.func188,Tryz.ntmps188;go_wp2_with (go_at_call 151;with_reducible refine same (HN.out _) ?_);go_ret;exact ⟨congrArg Ending.returned (congrArg Value.bool (by rw [decide_eq_false H4.out,Bool.false_and])),rfl⟩
theorem snumber_c (L:Nat) (hL:L<1152921504606846976) (w:World) :
  Calls Tryz.prog 163 #[.int .i64 L] w fun e w'=>e=.returned (numV L)∧w'=w:=by
 have HN:=zh (Number_c L hL);have hs:∃ a b c,numV L=.tuple #[.int .i64 a,.int .u64 b,.bool c]:=(by unfold numV;split;exact ⟨_,_,_,rfl⟩;split;exact ⟨_,_,_,rfl⟩;exact ⟨_,_,_,rfl⟩);obtain ⟨a,b,c,hs⟩:=hs;rw [hs] at HN ⊢;clear hs;go_enter Tryz.func163,Tryz.ntmps163;go_wp2_with (go_at_call 125;with_reducible refine same (HN.out _) ?_)
 go_ret3
 exact ⟨rfl,rfl⟩
theorem sfits_c (x y L:Nat) (hL:L<1152921504606846976) (hx:x<2305843009213693951) (hy:y<2305843009213693951) (w:World) :
  Calls Tryz.prog 182 #[.int .u64 x,.int .u64 y,.int .i64 L] w fun e w'=>e=.returned (.bool (fitsN x y L))∧w'=w:=by
 have HN:=zh (fits_c x y L hL hx hy);generalize fitsN x y L=b at *;go_enter Tryz.func182,Tryz.ntmps182;go_wp2_with (go_at_call 188;with_reducible refine same (HN.out _) ?_);go_ret;exact ⟨rfl,rfl⟩
end
section
open Go.RowKit Go.Maps
attribute [local go_sem] InGr
theorem St.empty {w0 w:World} {M:List Nat} {L:List As} {A:As} (H:St w0 M L w) (h:A.ho w) (he:A.fp=[]):St w0 M (A::L) w :=
 ⟨H.os,H.tape,H.output,H.size,H.keep,fun B hB=>by
  rw [List.mem_cons] at hB;rcases hB with rfl|hB
  ·exact h
  ·exact H.ho B hB,fun B hB b hb=>by
  rw [List.mem_cons] at hB;rcases hB with rfl|hB
  ·rw [he] at hb;simp at hb
  ·exact H.own B hB b hb,List.pairwise_cons.2 ⟨fun B _ b hb=>by rw [he] at hb;simp at hb,H.dis⟩⟩
theorem quiet_st_x {f:FuncId} {args:Array Value} {v:Value} {w:World} {x:Gr w} (h:Calls Tryz.prog f args x.1 fun e w'=>e=.returned v∧St x.1 [] [] w'):Calls Tryz.prog f args x.1 fun e w''=>e=.returned v∧∃ y:Gr w,w''=y.1:=quiet_st h
theorem quiet_same_x {f:FuncId} {args:Array Value} {v:Value} {w:World} {x:Gr w} (h:Calls Tryz.prog f args x.1 fun e w'=>e=.returned v∧w'=x.1):Calls Tryz.prog f args x.1 fun e w''=>e=.returned v∧∃ y:Gr w,w''=y.1:=quiet_gr_same h
theorem stoA_new {p m:Nat} {n:Nat} {w0 w:World} {M:List Nat} {R:List As} (h:St w0 M (blk p (.cells #[.int .i64 (n:Nat),.slice none 0 0,.map (some m)] 143)::mapA Tryz.prog 131 m []::R) w):St w0 M (stoA p (.slice none 0 0) m ⟨n,[]⟩::R) w:=by
 have h1:=h.empty (A:=rowsA enL 146 13 (.slice none 0 0) []) (rowsA_nil w) (by rw [rowsA_fp'];rfl);exact stoA_shut (h1.pick (.there .here)) rfl
theorem new_c (n:Nat) (hn:n<=1048576) (z:Int) (hz:z=n) (w:World) :
  Calls Tryz.prog 55 #[.int .i64 z] w fun e w'=>∃ p m,e=.returned (.pointer (some ⟨p,0,none⟩))∧St w [] [stoA p (.slice none 0 0) m ⟨n,[]⟩] w':=by
 subst hz;have H:=St.nil w [];go_enter Tryz.func55,Tryz.ntmps55;go_wp2_with (first|refine sL ?_|(refine sS ?_;clear H;intros;rename_i H)|(go_at_call 87;refine same (clip_c n _ (by omega) (by omega)) ?_)|((with_reducible refine isMakeMap ?_);refine AtMakeMap.go 131 H rfl rfl ?_;clear H;intro m _ H;simp only [Act.put,puA,puB,puC]));go_ret;exact ⟨_,_,rfl,stoA_new H⟩
theorem flatG_set {α:Type} {enc:α->List Value} {k:Nat} (hk:∀ x,(enc x).length=k) {j:Nat} (hj:j<k) {u:Value} {z:α}:∀ {xs:List α} {i:Nat} {x0:α},xs[i]?=some x0->enc z=(enc x0).set j u->flatG enc (xs.set i z)=(flatG enc xs).set (i*k+j) u
 |[],i,x0,h,_=>by simp at h
 |x::r,0,x0,h,hz=>by
  have:x=x0:=by simpa using h
  subst this;simp only [List.set_cons_zero,Nat.zero_mul,Nat.zero_add];show enc z++flatG enc r=(enc x++flatG enc r).set j u
  rw [List.set_append_left _ _ (by rw [hk];exact hj),hz]
 |x::r,i+1,x0,h,hz=>by
  have ih:=flatG_set hk hj (xs:=r) (i:=i) (by simpa using h) hz;show enc x++flatG enc (r.set i z)=(enc x++flatG enc r).set ((i+1)*k+j) u
  rw [List.set_append_right _ _ (by rw [hk];have:(i+1)*k=i*k+k:=Nat.succ_mul i k;omega),ih,hk];congr 2
  have:(i+1)*k=i*k+k:=Nat.succ_mul i k;omega
section
variable {ops:Array Oper} {Q:Exit->Act->World->Prop} {rest:List Oper} {a:Act} {w w0:World} {M:List Nat} {L R:List As} {o1:Oper}
theorem AtStore.rowAk {α:Type} {enc:α->List Value} {e ty:TypeId} {x y:Operand} {k g n c i j b:Nat} {xs:List α} (H:St w0 M L w) (hw:Region.wanted o1 (yielded ops a.tmps)=true) (ho:o1.op=.store ty x y) (hx:a.eval x=.pointer (some ⟨g,b,none⟩)) {u:Value} (hr:isCellT ty=true) (hy:evalO a y=some u) (h1:u.oneCell'=true)
  (hp:Pick L (rowsA enc e k (.slice (some ⟨g,0,none⟩) n c) xs) R) (hk:∀ x,(enc x).length=k) {x0:α} (hi:xs[i]?=some x0) (hj:j<k) (hb:b=i*k+j) (z:α) (hz:enc z=(enc x0).set j u)
  (h:∀ w',St w0 M (rowsA enc e k (.slice (some ⟨g,0,none⟩) n c) (xs.set i z)::R) w'->wpList Tryz.prog ops Q rest (a.put o1.dst undef) w'):AtStore Tryz.prog ops Q o1 ty x y rest a w:=by
 have H':=H.pick hp;have hil:i<xs.length:=(List.getElem?_eq_some_iff.1 hi).1;have hown:=H'.ho _ List.mem_cons_self;rw [rowsA_ho] at hown;obtain ⟨hlen,hown⟩:=hown;rcases hown with ⟨h',_⟩|⟨g',cap,cs,h',_,hg,h5,h7,h6,h8⟩
 ·cases h'
 ·injection h' with e1 e2 e3
  injection e1 with e1
  injection e1 with e1
  subst e1 e2 e3;have H2:St w0 M (blk g (.cells cs e)::R) w:=H'.conv (by rw [rowsA_fp',blk_fp];rfl) fun _=>by rw [blk_ho];exact hg
  have hbl:b<cs.size:=by
   have h9:(i+1)*k<=xs.length*k:=Nat.mul_le_mul_right k hil;have h10:(i+1)*k=i*k+k:=Nat.succ_mul i k;have h11:=congrArg List.length h8;rw [flatG_len enc k hk,List.length_take] at h11;have h12:cs.toList.length=cs.size:=rfl;omega
  refine AtStore.cell H2 hw ho hx hy h1 (cellTy_size (isCellT_ok hr)) Upd.here hbl rfl fun w' H3=>h w' ?_
  refine H3.conv (by rw [rowsA_fp',blk_fp];rfl) fun hb'=>?_
  rw [blk_ho] at hb';rw [rowsA_ho];refine ⟨by rw [flatG_len enc k hk],.inr ⟨g,c,cs.setIfInBounds b u,by rw [List.length_set],Nat.zero_le _,hb',by rw [List.length_set];exact h5,h7,by simpa using h6,?_⟩⟩;rw [Array.toList_setIfInBounds,List.length_set,List.take_set,h8,flatG_set hk hj hi hz,hb]
end
theorem rowsA_cut {α:Type} {enc:α->List Value} {e k g n c:Nat} {xs:List α} {x:α} {w:World} (hk:∀ x,(enc x).length=k) (hn:xs.length=n) (h:(rowsA enc e k (.slice (some ⟨g,0,none⟩) (n+1) c) (xs++[x])).ho w):(rowsA enc e k (.slice (some ⟨g,0,none⟩) n c) xs).ho w:=by
 rw [rowsA_ho] at h ⊢;obtain ⟨h1,h2⟩:=h;rcases h2 with ⟨h',_⟩|⟨g',cap,cur,h',h3,h4,h5,h6,h7,h8⟩
 ·cases h'
 ·injection h' with e1 e2 e3
  injection e1 with e1
  injection e1 with e1
  subst e1 e3;subst hn;refine ⟨flatG_len enc k hk xs,.inr ⟨g,c,cur,rfl,h3,h4,by simp at h5;omega,h6,h7,?_⟩⟩;have:flatG enc (xs++[x])=flatG enc xs++enc x:=flatG_snoc enc xs x;rw [this] at h8;have h9:=congrArg (List.take (xs.length*k)) h8;rw [List.take_take,List.take_left' (flatG_len enc k hk xs)] at h9;rw [← h9,Nat.min_eq_left];exact Nat.mul_le_mul_right _ (by simp)
theorem St.cut {α:Type} {enc:α->List Value} {e k g n c:Nat} {xs:List α} {x:α} {w0 w:World} {M:List Nat} {R:List As} (h:St w0 M (rowsA enc e k (.slice (some ⟨g,0,none⟩) (n+1) c) (xs++[x])::R) w) (hk:∀ x,(enc x).length=k) (hn:xs.length=n):St w0 M (rowsA enc e k (.slice (some ⟨g,0,none⟩) n c) xs::R) w :=
 h.conv (by rw [rowsA_fp',rowsA_fp'];rfl) (rowsA_cut hk hn)
section
variable {ops:Array Oper} {a:Act} {w w0:World} {M:List Nat} {L:List As} {o:Oper} {Rr:Value->World->Prop}
theorem StStep.allocT {ty:TypeId} (H:St w0 M L w) (hw:Region.wanted o (yielded ops a.tmps)=true) (ho:o.op=.alloc ty) {z:Value} (hz:zO ty=some z) {cs:Array Value} (hc:cellsO z=some cs)
  (h:∀ b w',St w0 M (blk b (.cells cs ty)::L) w'->Rr (.pointer (some ⟨b,0,none⟩)) w'):StStep Tryz.prog ops o a w Rr :=
 StStep.val hw (by unfold execOp;simp only [ho,Instr.alloc,Sem.run_bind,zO_ok hz,Result.andThen_ok,newVar,newRow,cellsO_eq hc,run_newObj_alloc,Sem.run_pure]) (h _ _ (H.alloc (.cells cs ty)))
theorem StStep.rngT {ty:TypeId} {x:Operand} (hw:Region.wanted o (yielded ops a.tmps)=true) (ho:o.op=.load ty x) {g off:Nat} (hx:a.eval x=.pointer (some ⟨g,off,none⟩)) {vs:List Value} (hc:w.rangeAt g off vs)
  (hr:isRowT ty vs.length=true) (h:Rr (.agg vs.toArray) w):StStep Tryz.prog ops o a w Rr :=
 StStep.val hw (by
  have hr:=isRowT_ok hr;unfold rowTy at hr;simp only [Bool.and_eq_true,beq_iff_eq] at hr;unfold execOp;cases hu:Program.underlying Tryz.prog ty with
  |none=>simp [hu] at hr
  |some d =>
   simp only [ho,hx,Sem.run_bind,run_loadAt_mid w g off ty vs d hc hu (by simp only [hu] at hr;cases d <;> simp_all [TypeDesc.isRow]) hr.2,Result.andThen_ok];rfl) h
end
def blockOf:Value->Nat
 |.pointer (some ad)=>ad.block
 |_=>0
end
section
open Go.RowKit Go.Maps
attribute [local go_sem] InGr
structure Kr where
 key:Nat
 lv:Int
 known:Bool
def rowK (r:Kr):List Value:=[.int .u64 r.key,.int .i64 r.lv,.bool r.known]
theorem rowK_len (r:Kr):(rowK r).length=3:=rfl
def lvI:Option Nat->Int
 |none=>-1
 |some a=>a
structure Kt where
 t:Nat
 s:Nat
 rv:Value
 rows:List Kr
def ktA (K:Kt):As:=(blk K.t (.cells #[.pointer (some ⟨K.s,0,none⟩),K.rv] 211)).sep (rowsA rowK 214 3 K.rv K.rows)
theorem ktA_open {K:Kt} {w0 w:World} {M:List Nat} {R:List As} (h:St w0 M (ktA K::R) w):St w0 M (blk K.t (.cells #[.pointer (some ⟨K.s,0,none⟩),K.rv] 211)::rowsA rowK 214 3 K.rv K.rows::R) w:=h.sep
theorem ktA_shut {K:Kt} {w0 w:World} {M:List Nat} {R:List As} (h:St w0 M (blk K.t (.cells #[.pointer (some ⟨K.s,0,none⟩),K.rv] 211)::rowsA rowK 214 3 K.rv K.rows::R) w):St w0 M (ktA K::R) w:=h.join
theorem ktA_ks {K:Kt} {w:World} (h:(ktA K).ho w):Ks w [] [blk K.t (.cells #[.pointer (some ⟨K.s,0,none⟩),K.rv] 211),rowsA rowK 214 3 K.rv K.rows]:=(Ks.one h).sep
theorem ktA_rows {K:Kt} {w:World} (h:(ktA K).ho w):(rowsA rowK 214 3 K.rv K.rows).ho w:=(ktA_ks h).ho _ (by simp)
attribute [irreducible] ktA
def RowOk (S:Sto) (id:Nat) (r:Kr):Prop:=r=⟨0,0,false⟩∨(1<=id∧id<=S.list.length∧r=⟨(S.tr id).key,lvI (S.tr id).lev,true⟩)
structure KtOk (S:Sto) (K:Kt):Prop where
 len:K.rows.length<=S.list.length+1
 rows:∀ (i:Nat) (r:Kr),K.rows[i]?=some r->RowOk S i r
theorem RowOk.le {S S':Sto} (hS:S.Ok) (h:S.Le S') {id:Nat} {r:Kr} (hr:RowOk S id r):RowOk S' id r:=by
 rcases hr with hr|⟨h1,h2,h3⟩
 ·exact .inl hr
 ·exact .inr ⟨h1,Nat.le_trans h2 h.len,by rw [h.tr hS h1 h2];exact h3⟩
theorem KtOk.le {S S':Sto} (hS:S.Ok) (h:S.Le S') {K:Kt} (hK:KtOk S K):KtOk S' K:=⟨Nat.le_trans hK.len (by have:=h.len;omega),fun i r hr=>(hK.rows i r hr).le hS h⟩
theorem lvI_lt {S:Sto} (hS:S.Ok) {i:Nat} {x:En} (hx:S.list[i]?=some x):-1<=lvI (S.tr (i+1)).lev∧lvI (S.tr (i+1)).lev<=246*i:=by
 cases h:(S.tr (i+1)).lev with
 |none=>simp [lvI];omega
 |some a=>have:=tr_lev hS i x hx a h;simp [lvI];omega
theorem mix_u (k x y:Nat) (hk:k<4) (hx:x<18446744073709551616) (hy:y<18446744073709551616):Hid (∀ w,Calls Tryz.prog 170 #[.int .u64 k,.int .u64 x,.int .u64 y] w fun e w'=>e=.returned (.int .u64 (mixN k x y:Nat))∧w'=w):=zh fun w=>mix_c k x y hk hx hy w
def compK (r:Rl) (a b:Kr):Kr :=
 if r.kind=1 then ⟨mixN 1 r.letter 0,0,true⟩
 else if r.kind=2 then ⟨mixN 2 a.key b.key,if r.left≠r.right∧0<=a.lv∧0<=b.lv then (afterN (max a.lv.toNat b.lv.toNat) a.key b.key:Nat) else -1,true⟩
 else ⟨mixN 3 a.key r.times,if 0<=a.lv∧a.lv%2=0 then a.lv+1 else -1,true⟩
attribute [local go_sem] StStep stAt stUpon in
theorem compute_c {K:Kt} {rl rr:Kr} (kd lt il ir tm:Nat) (hkd:kd=1∨kd=2∨kd=3) (hlt:lt<256) (htm:tm<9223372036854775808) (hl:K.rows[il]?=some rl) (hr:K.rows[ir]?=some rr) (hkl:rl.key<2305843009213693951) (hkr:rr.key<2305843009213693951)
  (hvl:-1<=rl.lv∧rl.lv<1152921504606846976) (hvr:-1<=rr.lv∧rr.lv<1152921504606846976) (w:World) (hk:(ktA K).ho w) (hde:deA.ho w) :
  Calls Tryz.prog 150 #[.pointer (some ⟨K.t,0,none⟩),.agg #[.int .i64 kd,.int .u8 lt,.int .i64 il,.int .i64 ir,.int .i64 tm]] w fun e w'=>e=.returned (.agg #[.int .u64 (compK ⟨kd,lt,il,ir,tm⟩ rl rr).key,.int .i64 (compK ⟨kd,lt,il,ir,tm⟩ rl rr).lv,.bool true])∧St w [] [] w':=by
 have HK:=ktA_ks hk;have hil:=gelt hl;have hir:=gelt hr;obtain ⟨g,c,hrv,hc,hm⟩:=rowsA_cases (ktA_rows hk) (by omega);rw [hrv] at HK;have H:=St.nil w [];have HL:=zh hl;have HR:=zh hr;have HDE:=zh hde;have hm':K.rows.length<=9223372036854775807:=(by unfold maxLen at hm;omega);have M1:=mix_u 1 lt 0 (by omega) (by omega) (by omega);have M2:=mix_u 2 rl.key rr.key (by omega) (by omega) (by omega);have M3:=mix_u 3 rl.key tm (by omega) (by omega) (by omega);generalize hRR:compK ⟨kd,lt,il,ir,tm⟩ rl rr=RR;unfold compK at hRR;simp only at hRR;generalize mixN 1 lt 0=q1 at *;generalize mixN 2 rl.key rr.key=q2 at *;generalize mixN 3 rl.key tm=q3 at *;have HRR:=zh hRR;clear hk hrv hl hr hde hRR;go_enter Tryz.func150,Tryz.ntmps150;go_wp2_with (first|refine sL ?_|(refine sS ?_;clear H;intros;rename_i H));rename_i b3 _ b4 _ _ _;refine wp_region_rgx H [blk b4 (.cells #[.int .u64 0,.int .i64 0,.bool false] 214),blk b3 (.cells #[.int .i64 kd,.int .u8 lt,.int .i64 il,.int .i64 ir,.int .i64 tm] 131)] 20 [⟨[],[],[],fun v _=>v=.pointer (some ⟨K.t,0,none⟩),fun _ _=>[]⟩,⟨[],[],[0],fun v _=>v=.pointer (some ⟨K.t,0,none⟩),fun _ _=>[]⟩,⟨[],[],[1],fun v _=>v=.pointer (some ⟨K.t,1,none⟩),fun _ _=>[]⟩,⟨[],[],[2],fun v _=>v=.slice (some ⟨g,0,none⟩) K.rows.length c,fun _ _=>[]⟩,⟨[],[],[],fun v _=>v=.pointer (some ⟨b3,2,none⟩),fun _ _=>[]⟩,⟨[],[],[4],fun v _=>v=.int .i64 il,fun _ _=>[]⟩,⟨[],[],[3,5],fun v _=>v=.pointer (some ⟨g,il*3,none⟩),fun _ _=>[]⟩,⟨[],[],[6],fun v _=>v=.agg #[.int .u64 rl.key,.int .i64 rl.lv,.bool rl.known],fun _ _=>[]⟩,⟨[],[],[],fun v _=>v=.pointer (some ⟨K.t,0,none⟩),fun _ _=>[]⟩,⟨[],[],[8],fun v _=>v=.pointer (some ⟨K.t,0,none⟩),fun _ _=>[]⟩,⟨[],[],[9],fun v _=>v=.pointer (some ⟨K.t,1,none⟩),fun _ _=>[]⟩,⟨[],[],[10],fun v _=>v=.slice (some ⟨g,0,none⟩) K.rows.length c,fun _ _=>[]⟩,⟨[],[],[],fun v _=>v=.pointer (some ⟨b3,3,none⟩),fun _ _=>[]⟩,⟨[],[],[12],fun v _=>v=.int .i64 ir,fun _ _=>[]⟩,⟨[],[],[11,13],fun v _=>v=.pointer (some ⟨g,ir*3,none⟩),fun _ _=>[]⟩,⟨[],[],[14],fun v _=>v=.agg #[.int .u64 rr.key,.int .i64 rr.lv,.bool rr.known],fun _ _=>[]⟩,⟨[],[],[],fun v _=>v=.pointer (some ⟨blockOf v,0,none⟩),fun v _=>[blk (blockOf v) (.cells #[.int .u64 0,.int .i64 0,.bool false] 214)]⟩,⟨[],[],[],fun v _=>v=.pointer (some ⟨blockOf v,0,none⟩),fun v _=>[blk (blockOf v) (.cells #[.int .u64 0,.int .i64 0,.bool false] 214)]⟩,⟨[16],[],[7,16],fun _ _=>True,fun _ ds=>match ds with|[_,b]=>[blk (blockOf b) (.cells #[.int .u64 rl.key,.int .i64 rl.lv,.bool rl.known] 214)]|_=>[]⟩,⟨[17],[],[15,17],fun _ _=>True,fun _ ds=>match ds with|[_,b]=>[blk (blockOf b) (.cells #[.int .u64 rr.key,.int .i64 rr.lv,.bool rr.known] 214)]|_=>[]⟩] (by kernel_rfl)
  [[],[(0,8)],[(1,9)],[(2,10)],[],[(4,12)],[(3,11),(5,13)],[(6,14)],[],[(8,16)],[(9,17)],[(10,18)],[],[(12,20)],[(11,19),(13,21)],[(14,22)],[],[],[(7,15),(16,5)],[(15,23),(17,6)]] [(0,8),(1,9),(2,10),(3,11),(4,12),(5,13),(6,14),(7,15),(8,16),(9,17),(10,18),(11,19),(12,20),(13,21),(14,22),(15,23),(16,5),(17,6)] [0,1,2,3,4,5,6,7,8,9,10,11,12,13,14,15,18,19] (by kernel_rfl) (by kernel_rfl) (by kernel_rfl) ⟨?o0,?o1,?o2,?o3,?o4,?o5,?o6,?o7,?o8,?o9,?o10,?o11,?o12,?o13,?o14,?o15,?o16,?o17,?o18,?o19,trivial⟩ ?fin
 case o0 =>
  intro vals wx X hd H;clear hd;replace H:=sP H;simp only [putS,List.foldl_nil];go_simp;first|exact H|exact ⟨rfl,H⟩
 case o1 =>
  intro vals wx X hd H;have h0:vals 0=.pointer (some ⟨K.t,0,none⟩):=hd.1;clear hd;replace H:=sP H;simp only [putS,List.foldl_nil,List.foldl_cons,Act.put,List.setIfInBounds_toArray,List.set_cons_zero,List.set_cons_succ,h0];clear h0;go_simp;first|exact H|exact ⟨rfl,H⟩
 case o2 =>
  intro vals wx X hd H;have h1:vals 1=.pointer (some ⟨K.t,0,none⟩):=hd.1;clear hd;replace H:=sP H;simp only [putS,List.foldl_nil,List.foldl_cons,Act.put,List.setIfInBounds_toArray,List.set_cons_zero,List.set_cons_succ,h1];clear h1;go_simp;first|exact H|exact ⟨rfl,H⟩
 case o3 =>
  intro vals wx X hd H;have h2:vals 2=.pointer (some ⟨K.t,1,none⟩):=hd.1;clear hd;replace H:=sP H;simp only [putS,List.foldl_nil,List.foldl_cons,Act.put,List.setIfInBounds_toArray,List.set_cons_zero,List.set_cons_succ,h2];first|refine StStep.cellT rfl rfl rfl gt rfl rfl ⟨rfl,H⟩|refine StStep.wholeT rfl rfl rfl gt rfl ⟨rfl,H⟩
 case o4 =>
  intro vals wx X hd H;clear hd;replace H:=sP H;simp only [putS,List.foldl_nil];go_simp;first|exact H|exact ⟨rfl,H⟩
 case o5 =>
  intro vals wx X hd H;have h4:vals 4=.pointer (some ⟨b3,2,none⟩):=hd.1;clear hd;replace H:=sP H;simp only [putS,List.foldl_nil,List.foldl_cons,Act.put,List.setIfInBounds_toArray,List.set_cons_zero,List.set_cons_succ,h4];first|refine StStep.cellT rfl rfl rfl gt rfl rfl ⟨rfl,H⟩|refine StStep.wholeT rfl rfl rfl gt rfl ⟨rfl,H⟩
 case o6 =>
  intro vals wx X hd H;have h3:vals 3=.slice (some ⟨g,0,none⟩) K.rows.length c:=hd.1;have h5:vals 5=.int .i64 il:=hd.2.1;clear hd;replace H:=sP H;simp only [putS,List.foldl_nil,List.foldl_cons,Act.put,List.setIfInBounds_toArray,List.set_cons_zero,List.set_cons_succ,h3,h5];clear h3 h5;go_simp;first|exact H|exact ⟨rfl,H⟩|exact ⟨by simp,H⟩
 case o7 =>
  intro vals wx X hd H;have h6:vals 6=.pointer (some ⟨g,il*3,none⟩):=hd.1;clear hd;replace H:=sP H;simp only [putS,List.foldl_nil,List.foldl_cons,Act.put,List.setIfInBounds_toArray,List.set_cons_zero,List.set_cons_succ,h6];exact StStep.rngT (vs:=rowK rl) rfl rfl rfl (H.rng (enc:=rowK) HK pk rowK_len HL.out) rfl ⟨rfl,H⟩
 case o8 =>
  intro vals wx X hd H;clear hd;replace H:=sP H;simp only [putS,List.foldl_nil];go_simp;first|exact H|exact ⟨rfl,H⟩
 case o9 =>
  intro vals wx X hd H;have h8:vals 8=.pointer (some ⟨K.t,0,none⟩):=hd.1;clear hd;replace H:=sP H;simp only [putS,List.foldl_nil,List.foldl_cons,Act.put,List.setIfInBounds_toArray,List.set_cons_zero,List.set_cons_succ,h8];clear h8;go_simp;first|exact H|exact ⟨rfl,H⟩
 case o10 =>
  intro vals wx X hd H;have h9:vals 9=.pointer (some ⟨K.t,0,none⟩):=hd.1;clear hd;replace H:=sP H;simp only [putS,List.foldl_nil,List.foldl_cons,Act.put,List.setIfInBounds_toArray,List.set_cons_zero,List.set_cons_succ,h9];clear h9;go_simp;first|exact H|exact ⟨rfl,H⟩
 case o11 =>
  intro vals wx X hd H;have h10:vals 10=.pointer (some ⟨K.t,1,none⟩):=hd.1;clear hd;replace H:=sP H;simp only [putS,List.foldl_nil,List.foldl_cons,Act.put,List.setIfInBounds_toArray,List.set_cons_zero,List.set_cons_succ,h10];first|refine StStep.cellT rfl rfl rfl gt rfl rfl ⟨rfl,H⟩|refine StStep.wholeT rfl rfl rfl gt rfl ⟨rfl,H⟩
 case o12 =>
  intro vals wx X hd H;clear hd;replace H:=sP H;simp only [putS,List.foldl_nil];go_simp;first|exact H|exact ⟨rfl,H⟩
 case o13 =>
  intro vals wx X hd H;have h12:vals 12=.pointer (some ⟨b3,3,none⟩):=hd.1;clear hd;replace H:=sP H;simp only [putS,List.foldl_nil,List.foldl_cons,Act.put,List.setIfInBounds_toArray,List.set_cons_zero,List.set_cons_succ,h12];first|refine StStep.cellT rfl rfl rfl gt rfl rfl ⟨rfl,H⟩|refine StStep.wholeT rfl rfl rfl gt rfl ⟨rfl,H⟩
 case o14 =>
  intro vals wx X hd H;have h11:vals 11=.slice (some ⟨g,0,none⟩) K.rows.length c:=hd.1;have h13:vals 13=.int .i64 ir:=hd.2.1;clear hd;replace H:=sP H;simp only [putS,List.foldl_nil,List.foldl_cons,Act.put,List.setIfInBounds_toArray,List.set_cons_zero,List.set_cons_succ,h11,h13];clear h11 h13;go_simp;first|exact H|exact ⟨rfl,H⟩|exact ⟨by simp,H⟩
 case o15 =>
  intro vals wx X hd H;have h14:vals 14=.pointer (some ⟨g,ir*3,none⟩):=hd.1;clear hd;replace H:=sP H;simp only [putS,List.foldl_nil,List.foldl_cons,Act.put,List.setIfInBounds_toArray,List.set_cons_zero,List.set_cons_succ,h14];exact StStep.rngT (vs:=rowK rr) rfl rfl rfl (H.rng (enc:=rowK) HK pk rowK_len HR.out) rfl ⟨rfl,H⟩
 case o16 =>
  intro vals wx X hd H;clear hd;replace H:=sP H;simp only [putS,List.foldl_nil];exact StStep.allocT H rfl rfl rfl rfl fun b w' H=>⟨rfl,H⟩
 case o17 =>
  intro vals wx X hd H;clear hd;replace H:=sP H;simp only [putS,List.foldl_nil];exact StStep.allocT H rfl rfl rfl rfl fun b w' H=>⟨rfl,H⟩
 case o18 =>
  intro vals wx X hd H;have h7:vals 7=.agg #[.int .u64 rl.key,.int .i64 rl.lv,.bool rl.known]:=hd.1;have h16:=hd.2.1;clear hd;replace H:=sP H;simp only [putS,List.foldl_nil,List.foldl_cons,Act.put,List.setIfInBounds_toArray,List.set_cons_zero,List.set_cons_succ,h7];have ea:vals 16=.pointer (some ⟨blockOf (vals 16),0,none⟩):=h16;clear h16;exact StStep.storeT (cs':=#[.int .u64 rl.key,.int .i64 rl.lv,.bool rl.known]) rfl rfl ea rfl rfl rfl H rfl fun w' H=>⟨trivial,H⟩
 case o19 =>
  intro vals wx X hd H;have h15:vals 15=.agg #[.int .u64 rr.key,.int .i64 rr.lv,.bool rr.known]:=hd.1;have h17:=hd.2.1;clear hd;replace H:=sP H;simp only [putS,List.foldl_nil,List.foldl_cons,Act.put,List.setIfInBounds_toArray,List.set_cons_zero,List.set_cons_succ,h15];have ea:vals 17=.pointer (some ⟨blockOf (vals 17),0,none⟩):=h17;clear h17;exact StStep.storeT (cs':=#[.int .u64 rr.key,.int .i64 rr.lv,.bool rr.known]) rfl rfl ea rfl rfl rfl H rfl fun w' H=>⟨trivial,H⟩
 case fin =>
  intro vals wx hd H;have h0:vals 0=.pointer (some ⟨K.t,0,none⟩):=hd.1;have h1:vals 1=.pointer (some ⟨K.t,0,none⟩):=hd.2.1;have h2:vals 2=.pointer (some ⟨K.t,1,none⟩):=hd.2.2.1;have h3:vals 3=.slice (some ⟨g,0,none⟩) K.rows.length c:=hd.2.2.2.1;have h4:vals 4=.pointer (some ⟨b3,2,none⟩):=hd.2.2.2.2.1;have h5:vals 5=.int .i64 il:=hd.2.2.2.2.2.1;have h6:vals 6=.pointer (some ⟨g,il*3,none⟩):=hd.2.2.2.2.2.2.1;have h7:vals 7=.agg #[.int .u64 rl.key,.int .i64 rl.lv,.bool rl.known]:=hd.2.2.2.2.2.2.2.1;have h8:vals 8=.pointer (some ⟨K.t,0,none⟩):=hd.2.2.2.2.2.2.2.2.1;have h9:vals 9=.pointer (some ⟨K.t,0,none⟩):=hd.2.2.2.2.2.2.2.2.2.1;have h10:vals 10=.pointer (some ⟨K.t,1,none⟩):=hd.2.2.2.2.2.2.2.2.2.2.1;have h11:vals 11=.slice (some ⟨g,0,none⟩) K.rows.length c:=hd.2.2.2.2.2.2.2.2.2.2.2.1;have h12:vals 12=.pointer (some ⟨b3,3,none⟩):=hd.2.2.2.2.2.2.2.2.2.2.2.2.1;have h13:vals 13=.int .i64 ir:=hd.2.2.2.2.2.2.2.2.2.2.2.2.2.1;have h14:vals 14=.pointer (some ⟨g,ir*3,none⟩):=hd.2.2.2.2.2.2.2.2.2.2.2.2.2.2.1;have h15:vals 15=.agg #[.int .u64 rr.key,.int .i64 rr.lv,.bool rr.known]:=hd.2.2.2.2.2.2.2.2.2.2.2.2.2.2.2.1;have h16:=hd.2.2.2.2.2.2.2.2.2.2.2.2.2.2.2.2.1;have h17:=hd.2.2.2.2.2.2.2.2.2.2.2.2.2.2.2.2.2.1;clear hd;replace H:=sP H;simp only [putS,List.foldl_nil,List.foldl_cons,Act.put,List.setIfInBounds_toArray,List.set_cons_zero,List.set_cons_succ,List.drop_succ_cons,List.drop_zero,h0,h1,h2,h3,h4,h5,h6,h7,h8,h9,h10,h11,h12,h13,h14,h15];clear h0 h1 h2 h3 h4 h5 h6 h7 h8 h9 h10 h11 h12 h13 h14 h15;have e16:vals 16=.pointer (some ⟨blockOf (vals 16),0,none⟩):=h16;have e17:vals 17=.pointer (some ⟨blockOf (vals 17),0,none⟩):=h17;clear h16 h17;simp only [List.map_cons,List.map_nil,List.cons_append,List.nil_append] at H;generalize blockOf (vals 16)=b5 at e16 H;generalize blockOf (vals 17)=b6 at e17 H;simp only [e16,e17];clear e16 e17;rcases hkd with rfl|rfl|rfl
  ·have HX:Hid (RR=⟨q1,0,true⟩):=zh (by rw [← HRR.out,if_pos rfl]);clear HRR;go_wp2_with (first|refine sL ?_|(refine sS ?_;clear H;intros;rename_i H)|(go_at_call 170;with_reducible refine same (M1.out _) ?_));exact bodyPost_ret (res_row rfl H rfl pk rfl) rfl ⟨by rw [HX.out],H.nix⟩
  ·have hR2:=HRR.out;rw [if_neg (by omega),if_pos rfl] at hR2;clear HRR;by_cases hcond:il≠ir∧0<=rl.lv∧0<=rr.lv
   ·rw [if_pos hcond] at hR2;obtain ⟨c1,c2,c3⟩:=hcond;have d1:((il:Int)==(ir:Int))=false:=(by simp;omega);have d1':((il:Int) != (ir:Int))=true:=(by simp;omega);have d2:decide (rl.lv<0)=false:=(by simp;omega);have d3:decide (rr.lv<0)=false:=(by simp;omega);have HA:Hid (∀ w,deA.ho w->Calls Tryz.prog 171 #[.int .i64 (if rl.lv<rr.lv then rr.lv else rl.lv),.int .u64 rl.key,.int .u64 rr.key] w fun e w'=>e=.returned (.int .i64 (afterN (max rl.lv.toNat rr.lv.toNat) rl.key rr.key:Nat))∧w'=w):=zh fun w h=>by
     have:=after_c (max rl.lv.toNat rr.lv.toNat) rl.key rr.key (by omega) hkl hkr w h;rw [show ((max rl.lv.toNat rr.lv.toNat:Nat):Int)=(if rl.lv<rr.lv then rr.lv else rl.lv) by split <;> omega] at this;exact this
    generalize afterN (max rl.lv.toNat rr.lv.toNat) rl.key rr.key=qa at *;have HX:=zh hR2.symm;clear c1 hR2;by_cases hlt:rl.lv<rr.lv
    ·rw [if_pos hlt] at HA;go_wp2_with (first|refine sL ?_|(refine sS ?_;clear H;intros;rename_i H)|(go_at_call 170;with_reducible refine same (M2.out _) ?_)|(go_at_call 171;with_reducible refine same (HA.out _ (H.old HDE.out (by simp))) ?_));exact bodyPost_ret (res_row rfl H rfl pk rfl) rfl ⟨by rw [HX.out],H.nix⟩
    ·rw [if_neg hlt] at HA;go_wp2_with (first|refine sL ?_|(refine sS ?_;clear H;intros;rename_i H)|(go_at_call 170;with_reducible refine same (M2.out _) ?_)|(go_at_call 171;with_reducible refine same (HA.out _ (H.old HDE.out (by simp))) ?_));exact bodyPost_ret (res_row rfl H rfl pk rfl) rfl ⟨by rw [HX.out],H.nix⟩
   ·rw [if_neg hcond] at hR2;have HX:=zh hR2.symm;clear hR2;by_cases c1:il=ir
    ·have d1:((il:Int)==(ir:Int))=true:=(by simp;omega);have d1':((il:Int) != (ir:Int))=false:=(by simp;omega);clear hcond c1;go_wp2_with (first|refine sL ?_|(refine sS ?_;clear H;intros;rename_i H)|(go_at_call 170;with_reducible refine same (M2.out _) ?_));exact bodyPost_ret (res_row rfl H rfl pk rfl) rfl ⟨by rw [HX.out],H.nix⟩
    ·have d1:((il:Int)==(ir:Int))=false:=(by simp;omega);have d1':((il:Int) != (ir:Int))=true:=(by simp;omega);by_cases c2:rl.lv<0
     ·have d2:decide (rl.lv<0)=true:=(by simp;omega);clear hcond c1;go_wp2_with (first|refine sL ?_|(refine sS ?_;clear H;intros;rename_i H)|(go_at_call 170;with_reducible refine same (M2.out _) ?_));exact bodyPost_ret (res_row rfl H rfl pk rfl) rfl ⟨by rw [HX.out],H.nix⟩
     ·have d2:decide (rl.lv<0)=false:=(by simp;omega);have d4:rr.lv<0:=Int.lt_of_not_ge fun h=>hcond ⟨c1,by omega,h⟩
      have d3:decide (rr.lv<0)=true:=(by simpa using d4);clear hcond c1;go_wp2_with (first|refine sL ?_|(refine sS ?_;clear H;intros;rename_i H)|(go_at_call 170;with_reducible refine same (M2.out _) ?_));exact bodyPost_ret (res_row rfl H rfl pk rfl) rfl ⟨by rw [HX.out],H.nix⟩
  ·have hR2:=HRR.out;rw [if_neg (by omega),if_neg (by omega)] at hR2;clear HRR;by_cases c1:rl.lv<0
   ·rw [if_neg (by omega)] at hR2;have HX:=zh hR2.symm;clear hR2;have d1:decide (rl.lv<0)=true:=(by simp;omega);go_wp2_with (first|refine sL ?_|(refine sS ?_;clear H;intros;rename_i H)|(go_at_call 170;with_reducible refine same (M3.out _) ?_));exact bodyPost_ret (res_row rfl H rfl pk rfl) rfl ⟨by rw [HX.out],H.nix⟩
   ·have d1:decide (rl.lv<0)=false:=(by simp;omega);have d3:rl.lv.tmod 2=rl.lv%2:=Int.tmod_eq_emod_of_nonneg (by omega);by_cases c2:rl.lv%2=0
    ·rw [if_pos ⟨by omega,c2⟩] at hR2;have HX:=zh hR2.symm;clear hR2;have d2:(rl.lv%2==0)=true:=(by simpa using c2);go_wp2_with (first|refine sL ?_|(refine sS ?_;clear H;intros;rename_i H)|(go_at_call 170;with_reducible refine same (M3.out _) ?_));exact bodyPost_ret (res_row rfl H rfl pk rfl) rfl ⟨by rw [HX.out],H.nix⟩
    ·rw [if_neg (by omega)] at hR2;have HX:=zh hR2.symm;clear hR2;have d2:(rl.lv%2==0)=false:=(by simpa using c2);go_wp2_with (first|refine sL ?_|(refine sS ?_;clear H;intros;rename_i H)|(go_at_call 170;with_reducible refine same (M3.out _) ?_));exact bodyPost_ret (res_row rfl H rfl pk rfl) rfl ⟨by rw [HX.out],H.nix⟩
end
section
open Go.RowKit Go.Maps Go.Lib
attribute [local go_sem] InGr
def zeroL (z:List Value) (m:Nat):List Value:=(List.replicate m z).flatten
theorem zeroL_len (z:List Value) (m:Nat):(zeroL z m).length=m*z.length:=by
 unfold zeroL;rw [List.length_flatten,List.map_replicate,List.sum_replicate_nat]
theorem zeroL_get (z:List Value) (hz:0<z.length):∀ (m j:Nat),j<m*z.length->(zeroL z m)[j]?=z[j%z.length]?
 |0,j,h=>by omega
 |m+1,j,h=>by
  have e:zeroL z (m+1)=z++zeroL z m:=(by simp [zeroL,List.replicate_succ]);rw [e,List.getElem?_append];split
  ·rename_i h1;rw [Nat.mod_eq_of_lt h1]
  ·rename_i h1;rw [Nat.add_mul] at h;rw [zeroL_get z hz m (j-z.length) (by omega)];congr 1
   rw [← Nat.mod_eq_sub_mod (by omega)]
theorem zeroCells_toList (z:Array Value) (hz:0<z.size) (m:Nat):(Builtin.zeroCells z m).toList=zeroL z.toList m:=by
 apply List.ext_getElem?;intro j;by_cases hj:j<m*z.size
 ·rw [zeroL_get z.toList (by simpa using hz) m j (by simpa using hj)];have hm:j%z.size<z.size:=Nat.mod_lt _ hz;simp [Builtin.zeroCells,hj,hm]
 ·rw [List.getElem?_eq_none (by simp [Builtin.zeroCells];omega),List.getElem?_eq_none (by rw [zeroL_len];simp;omega)]
section
variable {P:Program} {w:World}
theorem run_append_zeros_st (t tn ty e:TypeId) (i:TypeInfo) (z:Value) (size bytes:Nat) (ht:P.underlying t=some (.slice e)) (htn:P.underlying tn=some (.int .i64)) (hi:P.info? e=some i) (hz:i.zero=some z)
  (hsize:i.size=size) (hby:i.bytes=bytes) (hzs:z.cells.size=size) (hsz:0<size)
  (v:Value) (n:Nat) (xs:List Value) (hown:(rawA e size v n xs).ho w)
  (m:Nat) (hm0:0<m) (h1:∀ u∈z.cells.toList,u.oneCell'=true)
  (hbytes:(n+m)*bytes<=140737488355328) (hb1:0<bytes) :
  ∃ v' w',(Builtin.append_ #[t,tn] ty #[v,.int .i64 m]).run P w=.ok v' w'∧St w (rawA e size v n xs).fp [rawA e size v' (n+m) (xs++zeroL z.cells.toList m)] w':=by
 rw [rawA_ho] at hown;have h47:n+m<=140737488355328:=Nat.le_trans (Nat.le_mul_of_pos_right _ hb1) hbytes;have h63:n+m<=maxLen:=(by simp only [maxLen];omega);subst hsize hby;have hl:(zeroL z.cells.toList m).length=m*i.size:=(by rw [zeroL_len];simp [hzs]);have hw:IntKind.i64.wrap (m:Int)=m:=(by rw [IntKind.wrap_i64];omega);have hmb:m*i.bytes<=(n+m)*i.bytes:=Nat.mul_le_mul_right _ (by omega);have h48i:¬ (281474976710656<(m:Int)*(i.bytes:Int)):=(by rw [← Int.natCast_mul];omega);have hneg:¬ ((m:Int)<0):=(by omega);have hns:¬ (m*i.size=0):=Nat.mul_ne_zero (by omega) (by omega);have hones:∀ u∈zeroL z.cells.toList m,u.oneCell'=true:=fun u hu=>by
  unfold zeroL at hu;obtain ⟨l,hl,hu⟩:=List.mem_flatten.1 hu;rw [List.eq_of_mem_replicate hl] at hu;exact h1 u hu
 have hlen:(xs++zeroL z.cells.toList m).length=(n+m)*i.size:=(by rw [List.length_append,hown.1,hl,Nat.add_mul]);have hm0':m≠0:=(by omega);have hs0':i.size≠0:=(by omega);have hzc:=zeroCells_toList z.cells (by omega) m;have hza:Builtin.zeroCells z.cells m=(zeroL z.cells.toList m).toArray:=(by rw [← hzc]);have grown:∀ (old:Nat),old<n+m ->
   St w (rawA e i.size v n xs).fp [rawA e i.size (.slice (some ⟨w.heap.size,0,none⟩) (n+m) (grownCap w (n+m) old e)) (n+m) (xs++zeroL z.cells.toList m)] (w.drew.alloc (.cells (xs.toArray++(zeroL z.cells.toList m).toArray++Builtin.zeroCells z.cells (grownCap w (n+m) old e-(n+m))) e)):=by
  intro old ho;have hge:=grownCap_ge w (n+m) old e;have hcm:grownCap w (n+m) old e<=maxLen:=grownCap_le_maxLen w (n+m) old e h63;refine st_raw rfl rfl rfl (by simp) (fun b hb _=>heap_past w.drew _ b hb) ⟨hlen,.inr ⟨w.heap.size,_,_,rfl,Nat.zero_le _,heap1 w.drew _,hge,hcm,?_,?_⟩⟩ (fun b hb=>.inl (by injection hb with hb;exact Nat.le_of_eq hb))
  ·simp only [Array.size_append,List.size_toArray,size_zeroCells,hzs,hown.1,hl,← Nat.add_mul];congr 1
   omega
  ·simp only [Array.toList_append,List.append_assoc];rw [← List.append_assoc,← hlen];exact List.take_left
 rcases hown.2 with ⟨rfl,rfl⟩|⟨g,cap,cur,rfl,hbg,hg,hnc,hcm,hcs,htake⟩
 ·have hx:xs=[]:=List.eq_nil_of_length_eq_zero (by simpa using hown.1);subst hx;have hr:=run_append_nil_zeros (P:=P) w t tn ty e i z .i64 .i64 ht htn hi hz m hm0 hsz (by omega) (by omega);have hgr:=grown 0 (by omega);rw [hza] at hr;simp only [Nat.zero_add,List.nil_append,Array.empty_append] at hgr ⊢;exact ⟨_,_,hr,hgr⟩
 ·by_cases hroom:n+m<=cap
  ·have hst:=run_storeCells_at P g (n*i.size) e (zeroL z.cells.toList m) 0 cur w hg (by rw [hl,hcs,Nat.add_zero,← Nat.add_mul];exact Nat.mul_le_mul_right _ hroom) hones;simp only [Nat.add_zero] at hst;have hr:(Builtin.append_ #[t,tn] ty #[.slice (some ⟨g,0,none⟩) n cap,.int .i64 m]).run P w=.ok (.slice (some ⟨g,0,none⟩) (n+m) cap) (w.setRow g (cur.toList.take (n*i.size)++zeroL z.cells.toList m++cur.toList.drop (n*i.size+(zeroL z.cells.toList m).length)).toArray):=by
    simp [Builtin.append_,run_underlying ht,run_underlying htn,sizeOf,typeInfo,zeroValue,hi,hz,asInt,asIntOf,hw,hneg,h48i,hns,hm0',hs0',hroom,hzc,Addr.add_lit,hst]
   refine ⟨_,_,hr,st_raw rfl rfl rfl (by simp) (fun b hb hne=>setRow_other w g b _ fun e=>hne (by rw [← e];rfl)) ⟨hlen,.inr ⟨g,cap,_,rfl,Nat.zero_le _,setRow_heap w g _ _ _ _ hg,hroom,hcm,?_,?_⟩⟩ (fun b hb=>.inr hb)⟩
   ·have h5:cur.toList.length=cap*i.size:=(by simpa using hcs);have h6:(n+m)*i.size<=cap*i.size:=Nat.mul_le_mul_right _ hroom;rw [Nat.add_mul] at h6;simp only [List.size_toArray,List.length_append,List.length_take,List.length_drop,hl];omega
   ·have h5:(cur.toList.take (n*i.size))=xs:=htake;simp only [h5];rw [← hlen];exact List.take_left
  ·have h63':¬ (9223372036854775807<((n:Int)+(m:Int))):=(by omega);have hfit:=growslice_fits (need:=n+m) (old:=cap) (bytes:=i.bytes) (by omega) hbytes;have h48':¬ (281474976710656<Builtin.nextslicecap (n+m) cap*i.bytes):=(by omega);have holds:∀ j u,xs[j]?=some u->w.cell? ((⟨g,0,none⟩:Addr).add j)=some u:=World.ownsRow.cells (v:=.slice (some ⟨g,0,none⟩) n cap) hown (g:=g) rfl;have hfo:=run_firstCells_some (P:=P) w.drew i.size n ⟨g,0,none⟩ n cap xs hown.1 (by simpa using holds);have hr:(Builtin.append_ #[t,tn] ty #[.slice (some ⟨g,0,none⟩) n cap,.int .i64 m]).run P w=.ok (.slice (some ⟨w.heap.size,0,none⟩) (n+m) (grownCap w (n+m) cap e)) (w.drew.alloc (.cells (xs.toArray++(zeroL z.cells.toList m).toArray++Builtin.zeroCells z.cells (grownCap w (n+m) cap e-(n+m))) e)):=by
    simp [Builtin.append_,run_underlying ht,run_underlying htn,sizeOf,typeInfo,zeroValue,hi,hz,asInt,asIntOf,hw,hneg,h48i,hns,hm0',hs0',hroom,h63',h48',Question.forced,hfo,newRow,grownCap,hza];congr 2
    apply Array.ext';simp [List.append_assoc]
   exact ⟨_,_,hr,grown cap (by omega)⟩
end
theorem flatG_zero {α:Type} (enc:α->List Value) (x:α) (z:List Value) (hz:enc x=z) (m:Nat):flatG enc (List.replicate m x)=zeroL z m:=by
 unfold flatG zeroL;rw [List.flatMap_replicate,hz]
theorem StStep.appendZ {α:Type} {enc:α->List Value} {ops:Array Oper} {a:Act} {w w0:World} {M:List Nat} {L:List As} {o:Oper} {Rr:Value->World->Prop} {x y:Operand} {t tn e:TypeId} (hw:Region.wanted o (yielded ops a.tmps)=true) (ho:o.op=.call ⟨.builtin .append,#[x,y],#[t,tn]⟩) (htn:Tryz.prog.underlying tn=some (.int .i64)) (hte:sliceO t=some e) {z:Value} {k bytes:Nat} (hi:infoO e=some (z,k,bytes)) (hz:z.cells.size=k) (hk0:0<k) (hb0:0<bytes) (h1:∀ u∈z.cells.toList,u.oneCell'=true)
  {v:Value} {m:Nat} {xs:List α} (x0:α) (hx0:enc x0=z.cells.toList) (hm:0<m) (hx:evalO a x=some v) (hy:evalO a y=some (.int .i64 m)) (H:St w0 M (rowsA enc e k v xs::L) w) (hb:(xs.length+m)*bytes<=140737488355328)
  (h:∀ v' w',St w0 M (rowsA enc e k v' (xs++List.replicate m x0)::L) w'->Rr v' w'):StStep Tryz.prog ops o a w Rr:=by
 obtain ⟨i,h2,h3,h4,h5⟩:=infoO_ok hi;have hown:=H.ho _ List.mem_cons_self;unfold rowsA at hown;obtain ⟨v',w',hr,hst⟩:=run_append_zeros_st (P:=Tryz.prog) (ty:=o.type) t tn e i z k bytes (sliceO_ok hte) htn h2 h3 h4 h5 hz hk0 v xs.length (flatG enc xs) hown m hm h1 hb hb0;refine StStep.val hw (by unfold execOp;simp only [ho,resolve,invoke,builtin,Sem.run_bind,Sem.run_pure,Result.andThen_ok,List.map_toArray,List.map_cons,List.map_nil,evalO_eq hx,evalO_eq hy,hr]) (h v' w' ?_);have hst':St w (rowsA enc e k v xs).fp [rowsA enc e k v' (xs++List.replicate m x0)] w':=by
  unfold rowsA;rw [List.length_append,List.length_replicate,show flatG enc (xs++List.replicate m x0)=flatG enc xs++zeroL z.cells.toList m by rw [← flatG_zero enc x0 _ hx0];simp [flatG]];exact hst
 exact H.call hst'
end
section
open Go.RowKit Go.Maps
attribute [local go_sem] InGr
def encI (i:Nat):List Value:=[.int .i64 i]
theorem encI_len (i:Nat):(encI i).length=1:=rfl
theorem encI_one (x:Nat):∀ u∈encI x,u.oneCell'=true:=by
 intro u hu;rw [encI,List.mem_singleton] at hu;subst hu;rfl
theorem rowsA_cell1 {α:Type} {enc:α->List Value} {e g n c i:Nat} {xs:List α} {x:α} {u:Value} {w:World} (h:(rowsA enc e 1 (.slice (some ⟨g,0,none⟩) n c) xs).ho w) (hk:∀ x,(enc x).length=1) (hx:xs[i]?=some x) (hu:enc x=[u]):w.cell? ⟨g,i,none⟩=some u:=by
 have:=rowsA_cell h hk hx (j:=0) (u:=u) (by rw [hu];rfl);simpa using this
section
variable {w0 w:World} {M:List Nat} {L:List As}
theorem St.sepO {A B:As} {R R':List As} (h:St w0 M L w) (h1:Pick L A R) (h2:Pick R B R'):(A.sep B).ho w:=by
 have:=(h.pick2 h1 h2).join;exact this.ho _ List.mem_cons_self
end
theorem ts {P:Prop} (h:P:=by first|exact H.sepK HK pk pk|exact H.sepO pk pk):P:=h
theorem flat_set_el {α:Type} {enc:α->List Value} {k:Nat} (hk:∀ x,(enc x).length=k):∀ {xs:List α} {i:Nat},i<xs.length->∀ z,flatG enc (xs.set i z)=(flatG enc xs).take (i*k)++enc z++(flatG enc xs).drop (i*k+k)
 |[],i,h,_=>by simp at h
 |x::r,0,h,z=>by
  show enc z++flatG enc r=(enc x++flatG enc r).take (0*k)++enc z++(enc x++flatG enc r).drop (0*k+k)
  rw [Nat.zero_mul,List.take_zero,List.nil_append,Nat.zero_add,List.drop_left' (hk x)]
 |x::r,i+1,h,z=>by
  have ih:=flat_set_el hk (xs:=r) (i:=i) (by simpa using h) z;show enc x++flatG enc (r.set i z)=(enc x++flatG enc r).take ((i+1)*k)++enc z++(enc x++flatG enc r).drop ((i+1)*k+k)
  have e:(i+1)*k=k+i*k:=(by rw [Nat.succ_mul,Nat.add_comm]);rw [ih,e,List.take_append,List.drop_append,hk,List.take_of_length_le (l:=enc x) (by rw [hk];omega),List.drop_of_length_le (l:=enc x) (by rw [hk];omega),show k+i*k-k=i*k by omega,show k+i*k+k-k=i*k+k by omega];simp
theorem AtStore.rowEl {ops:Array Oper} {Q:Exit->Act->World->Prop} {rest:List Oper} {a:Act} {w w0:World} {M:List Nat} {L R:List As} {o1:Oper} {α:Type} {enc:α->List Value} {e ty:TypeId} {x y:Operand} {k g n c i b:Nat} {xs:List α} (H:St w0 M L w) (hw:Region.wanted o1 (yielded ops a.tmps)=true) (ho:o1.op=.store ty x y) (hx:a.eval x=.pointer (some ⟨g,b,none⟩)) {cs:Array Value} (hr:isRowT ty cs.size=true) (hy:evalO a y=some (.agg cs)) (h1:onesB cs.toList=true)
  (hp:Pick L (rowsA enc e k (.slice (some ⟨g,0,none⟩) n c) xs) R) (hk:∀ x,(enc x).length=k) (hi:i<xs.length) (hb:b=i*k) (z:α) (hz:enc z=cs.toList)
  (h:∀ w',St w0 M (rowsA enc e k (.slice (some ⟨g,0,none⟩) n c) (xs.set i z)::R) w'->wpList Tryz.prog ops Q rest (a.put o1.dst undef) w'):AtStore Tryz.prog ops Q o1 ty x y rest a w:=by
 have H':=H.pick hp;have hown:=H'.ho _ List.mem_cons_self;rw [rowsA_ho] at hown;obtain ⟨hlen,hown⟩:=hown;rcases hown with ⟨h',_⟩|⟨g',cap,cur,h',_,hg,h5,h7,h6,h8⟩
 ·cases h'
 ·injection h' with e1 e2 e3
  injection e1 with e1
  injection e1 with e1
  subst e1 e2 e3 hb;have H2:St w0 M (blk g (.cells cur e)::R) w:=H'.conv (by rw [rowsA_fp',blk_fp];rfl) fun _=>by rw [blk_ho];exact hg
  have hck:cs.size=k:=(by have:=hk z;rw [hz] at this;simpa using this);have h9:(i+1)*k<=xs.length*k:=Nat.mul_le_mul_right k hi;have h10:(i+1)*k=i*k+k:=Nat.succ_mul i k;have h11:=congrArg List.length h8;rw [flatG_len enc k hk,List.length_take] at h11;have h12:cur.toList.length=cur.size:=rfl;have hbl:i*k+cs.size<=cur.size:=(by omega);refine AtStore.mid H2 hw ho hx hy rfl (rowTy_size (isRowT_ok hr)) (onesB_ok h1) Upd.here hbl rfl fun w' H3=>h w' ?_
  refine H3.conv (by rw [rowsA_fp',blk_fp];rfl) fun hb'=>?_
  rw [blk_ho] at hb';rw [rowsA_ho];have hset:(cur.toList.take (i*k)++cs.toList++cur.toList.drop (i*k+cs.size)).take (xs.length*k)=flatG enc (xs.set i z):=by
   rw [flat_set_el hk hi z,← h8,hz,List.take_take,Nat.min_eq_left (by omega),List.drop_take,hck];have l1:(cur.toList.take (i*k)).length=i*k:=(by rw [List.length_take];omega);have l2:cs.toList.length=k:=(by simpa using hck);rw [List.append_assoc,List.append_assoc,List.take_append,l1,List.take_of_length_le (l:=cur.toList.take (i*k)) (by rw [l1];omega),List.take_append,l2,List.take_of_length_le (l:=cs.toList) (by rw [l2];omega)];rw [show xs.length*k-i*k-k=xs.length*k-(i*k+k) by omega]
  refine ⟨by rw [flatG_len enc k hk],.inr ⟨g,c,_,by rw [List.length_set],Nat.zero_le _,hb',by rw [List.length_set];exact h5,h7,?_,?_⟩⟩
  ·simp only [List.size_toArray,List.length_append,List.length_take,List.length_drop,Array.length_toList] at h6 ⊢;omega
  ·rw [List.length_set];exact hset
end
section
open Go.RowKit Go.Maps
attribute [local go_sem] InGr
def Rows (S:Sto) (rows:List Kr):Prop:=∀ (i:Nat) (r:Kr),rows[i]?=some r->RowOk S i r
def unk (rows:List Kr):Nat:=(rows.filter fun r=>!r.known).length
theorem unk_set {rows:List Kr} {i:Nat} {r z:Kr} (h:rows[i]?=some r) (hr:r.known=false) (hz:z.known=true):unk (rows.set i z)+1=unk rows:=by
 induction rows generalizing i with
 |nil=>simp at h
 |cons x l ih =>
  cases i with
  |zero =>
   have:x=r:=by simpa using h
   subst this;simp [unk,hr,hz]
  |succ i =>
   have:=ih (i:=i) (by simpa using h);unfold unk at this ⊢;rw [List.set_cons_succ,List.filter_cons,List.filter_cons];split <;> simp_all <;> omega
structure KStk (rows:List Kr) (id:Nat) (stk:List Nat):Prop where
 low:∀ x∈stk,1<=x∧x<=id
 unk:∀ x∈stk,∃ r,rows[x]?=some r∧r.known=false
 down:stk.Pairwise fun a b=>b<a
theorem KStk.len {rows:List Kr} {id:Nat} {stk:List Nat} (h:KStk rows id stk):stk.length<=id:=by
 have aux:∀ (l:List Nat) (m:Nat),l.Pairwise (fun a b=>b<a)->(∀ x∈l,1<=x∧x<=m)->l.length<=m:=by
  intro l;induction l with
  |nil=>intro m _ _;simp
  |cons y l ih =>
   intro m hp hl;obtain ⟨h1,h2⟩:=List.pairwise_cons.1 hp;have:=ih (y-1) h2 fun x hx=>by have:=h1 x hx;have:=(hl x (by simp [hx])).1;omega
   have:=hl y (by simp);simp;omega
 exact aux stk id h.down h.low
theorem KStk.push {rows:List Kr} {id:Nat} {st:List Nat} {x y:Nat} (h:KStk rows id (st++[x])) (hy:1<=y) (hyx:y<x) {r:Kr} (hr:rows[y]?=some r) (hu:r.known=false):KStk rows id (st++[x]++[y]):=by
 have hx:=h.low x (by simp);refine ⟨fun z hz=>?_,fun z hz=>?_,List.pairwise_append.2 ⟨h.down,by simp,fun a ha b hb=>?_⟩⟩
 ·rcases List.mem_append.1 hz with hz|hz
  ·exact h.low z hz
  ·simp at hz;subst hz;exact ⟨hy,by omega⟩
 ·rcases List.mem_append.1 hz with hz|hz
  ·exact h.unk z hz
  ·simp at hz;subst hz;exact ⟨r,hr,hu⟩
 ·simp at hb;subst hb;rcases List.mem_append.1 ha with ha|ha
  ·have:=(List.pairwise_append.1 h.down).2.2 a ha x (by simp);omega
  ·simp at ha;subst ha;exact hyx
theorem KStk.pop {rows:List Kr} {id:Nat} {st:List Nat} {x:Nat} {z:Kr} (h:KStk rows id (st++[x])):KStk (rows.set x z) id st:=by
 refine ⟨fun y hy=>h.low y (by simp [hy]),fun y hy=>?_,(List.pairwise_append.1 h.down).1⟩;obtain ⟨r,hr,hu⟩:=h.unk y (by simp [hy]);have:=(List.pairwise_append.1 h.down).2.2 y hy x (by simp);exact ⟨r,by rw [List.getElem?_set_ne (by omega)];exact hr,hu⟩
theorem KStk.one {rows:List Kr} {id:Nat} (h1:1<=id) {r:Kr} (hr:rows[id]?=some r) (hu:r.known=false):KStk rows id [id] :=
 ⟨by simpa using h1,by simpa using ⟨r,hr,hu⟩,by simp⟩
def rowOf (S:Sto) (id:Nat):Kr:=⟨(S.tr id).key,lvI (S.tr id).lev,true⟩
theorem RowOk.eq {S:Sto} {id:Nat} {r:Kr} (h:RowOk S id r) (hk:r.known=true):r=rowOf S id:=by
 rcases h with h|⟨_,_,h⟩
 ·rw [h] at hk;cases hk
 ·exact h
theorem Rows.set {S:Sto} {rows:List Kr} (h:Rows S rows) {x:Nat} (h1:1<=x) (h2:x<=S.list.length):Rows S (rows.set x (rowOf S x)):=fun i r hr=>by
 by_cases hix:x=i
 ·subst hix;rw [List.getElem?_set_self (by have:=gelt hr;simpa using this)] at hr;injection hr with hr
  exact .inr ⟨h1,h2,hr.symm⟩
 ·rw [List.getElem?_set_ne hix] at hr;exact h i r hr
theorem RowOk.bounds {S:Sto} (hS:S.Ok) {id:Nat} {r:Kr} (h:RowOk S id r):r.key<2305843009213693951∧-1<=r.lv∧r.lv<1152921504606846976:=by
 rcases h with h|⟨h1,h2,h⟩
 ·rw [h];simp
 ·obtain ⟨i,rfl⟩:=Nat.exists_eq_succ_of_ne_zero (show id≠0 by omega);have:=lvI_lt hS (x:=S.list[i]) (by simp:S.list[i]?=some S.list[i]);have hl:=hS.len;have hm:=hS.most;rw [h];refine ⟨Tr.key_lt _,this.1,?_⟩;simp only [Nat.succ_eq_add_one] at this ⊢;omega
theorem comp_letter (S:Sto) (b:Nat) (i:Nat) (a c:Kr) (ht:S.tr (i+1)=.leaf b):compK ⟨1,b,0,0,0⟩ a c=rowOf S (i+1):=by
 unfold rowOf;rw [ht];rfl
theorem lv_pair (l r k1 k2:Nat) (p q:Option Nat) (x y:Tr) (hne:l≠r↔x≠y):(if l≠r∧0<=lvI p∧0<=lvI q then ((afterN (max (lvI p).toNat (lvI q).toNat) k1 k2:Nat):Int) else -1)=lvI (if x=y then none else match p,q with|some a,some b=>some (afterN (max a b) k1 k2)|_,_=>none):=by
 by_cases h:x=y
 ·rw [if_pos h,if_neg (fun hh=>hne.1 hh.1 h)];rfl
 ·rw [if_neg h];have h':=hne.2 h;cases p with
  |none=>rw [if_neg (by simp [lvI])];rfl
  |some p =>
   cases q with
   |none=>rw [if_neg (by simp [lvI])];rfl
   |some q=>rw [if_pos ⟨h',by simp [lvI],by simp [lvI]⟩];rfl
theorem lv_pow (p:Option Nat):(if 0<=lvI p∧lvI p%2=0 then lvI p+1 else -1)=lvI (match p with|some a=>if a%2=0 then some (a+1) else none|none=>none):=by
 cases p with
 |none=>rw [if_neg (by simp [lvI])];rfl
 |some p =>
  by_cases he:p%2=0
  ·rw [if_pos ⟨by simp [lvI],by simp only [lvI];omega⟩];simp only [if_pos he];simp [lvI]
  ·rw [if_neg (by simp only [lvI];omega)];simp only [if_neg he];rfl
theorem comp_pair (S:Sto) (hS:S.Ok) (l r i:Nat) (y z:En) (hy:S.list[l]?=some y) (hz:S.list[r]?=some z) (ht:S.tr (i+1)=.pair (S.tr (l+1)) (S.tr (r+1))):compK ⟨2,0,l+1,r+1,0⟩ (rowOf S (l+1)) (rowOf S (r+1))=rowOf S (i+1):=by
 have hne:(l+1≠r+1)↔(S.tr (l+1)≠S.tr (r+1)):=⟨fun h e=>h (by rw [tr_inj hS l r y z hy hz e]),fun h e=>h (by rw [e])⟩
 have e:=lv_pair (l+1) (r+1) (S.tr (l+1)).key (S.tr (r+1)).key (S.tr (l+1)).lev (S.tr (r+1)).lev _ _ hne;have e2:rowOf S (i+1)=⟨mixN 2 (S.tr (l+1)).key (S.tr (r+1)).key,lvI (if S.tr (l+1)=S.tr (r+1) then none else match (S.tr (l+1)).lev,(S.tr (r+1)).lev with|some a,some b=>some (afterN (max a b) (S.tr (l+1)).key (S.tr (r+1)).key)|_,_=>none),true⟩:=by
  unfold rowOf;rw [ht];rfl
 rw [e2,← e];rfl
theorem comp_pow (S:Sto) (l k i:Nat) (c:Kr) (ht:S.tr (i+1)=.pow (S.tr (l+1)) k):compK ⟨3,0,l+1,0,k⟩ (rowOf S (l+1)) c=rowOf S (i+1):=by
 have e:=lv_pow (S.tr (l+1)).lev;have e2:rowOf S (i+1)=⟨mixN 3 (S.tr (l+1)).key k,lvI (match (S.tr (l+1)).lev with|some a=>if a%2=0 then some (a+1) else none|none=>none),true⟩:=by
  unfold rowOf;rw [ht];rfl
 rw [e2,← e];rfl
end
section
def TopN (m:Nat) (p:List (Tr×Nat)):Prop:=∀ t j p',p=(t,j)::p'->t.lv≠m+1
theorem above_top {a x:Tr} {m:Nat} {p:List (Tr×Nat)} (ga:a.Gd) (hz:Zip a p x) (ha:Above m p) (ht:TopN m p):Above (m+1) p:=by
 cases p with
 |nil=>intro f hf;simp at hf
 |cons f p =>
  obtain ⟨t,j⟩:=f;have h1:=ha (t,j) (by simp);have h2:=ht t j p rfl;have hg:=hz.tail.1.gd ga;intro f hf;rcases List.mem_cons.1 hf with rfl|hf
  ·simp at h1 ⊢;omega
  ·have:=(hg.2 f hf).1;simp at h1;omega
theorem above_one {a x t:Tr} {m j:Nat} {p:List (Tr×Nat)} (ga:a.Gd) (hz:Zip a ((t,j)::p) x) (ht:t.lv=m+1):Above (m+1) p:=by
 have hg:=hz.tail.1.gd ga;intro f hf;have:=(hg.2 f hf).1;omega
theorem kids_low {t:Tr} {m:Nat} (hg:t.Gd) (ht:t.lv=m+1):∀ c∈kids t,c.lv<=m:=fun c hc=>by have:=(hg.kid hc).2;omega
theorem lay_kids {t:Tr} {m:Nat} (hg:t.Gd) (ht:t.lv=m+1):t.lay m=kids t:=by
 rw [lay_high (by omega),flat_same (kids_low hg ht)]
section
variable {a x t:Tr} {m j:Nat} {p:List (Tr×Nat)} {L:List Tr}
theorem leftN (hc:Canon a) (h:EdL a m p x L) (ht:TopN m p):EdL a (m+1) p x (before (m+1) p++[x])∧L=(before (m+1) p++[x]).flatMap (Tr.lay m)∧a.lay (m+1)=before (m+1) p++x::tl (m+1) p:=by
 have ha:=above_top hc.gd h.zip h.above ht;refine ⟨⟨h.zip,by have:=h.low;omega,ha,rfl⟩,?_,?_⟩
 ·rw [h.eq,List.flatMap_append,before_up,List.flatMap_cons,lay_low h.low];rfl
 ·rw [h.zip.lay ha,lay_low (by have:=h.low;omega)];simp
theorem leftT (hc:Canon a) (h:EdL a m ((t,j)::p) x L) (ht:t.lv=m+1):a.lay (m+1)=before (m+1) p++t::tl (m+1) p∧before m ((t,j)::p)=(before (m+1) p).flatMap (Tr.lay m)++(kids t).take j∧L=(before (m+1) p).flatMap (Tr.lay m)++(kids t).take (j+1)∧EdL a (m+1) p t (before (m+1) p++[t]):=by
 obtain ⟨hz,hx⟩:=h.zip.tail;have ha:=above_one hc.gd h.zip ht;have hg:=(hz.gd hc.gd).1;have e:before m ((t,j)::p)=(before (m+1) p).flatMap (Tr.lay m)++(kids t).take j:=by
  rw [before_up];simp only [before];rw [flat_same fun c hc=>kids_low hg ht c (List.mem_of_mem_take hc)]
 refine ⟨?_,e,?_,hz,by omega,ha,rfl⟩
 ·rw [hz.lay ha,lay_low (by omega)];simp
 ·rw [h.eq,e,List.append_assoc];congr 1
  rw [List.take_add_one,hx];rfl
end
def upT (beh:Bool) (lv:Nat):List (Tr×Nat)×Option Tr->List (Tr×Nat)×Option Tr
 |((t,j)::p,some x)=>if t.lv=lv∧(if beh then j=0 else j+1=(kids t).length) then (p,some t) else ((t,j)::p,some x)
 |d=>d
theorem pre_cases {P Q P' Q':List Tr} (h:P++Q=P'++Q'):(∃ U,P'=P++U∧Q=U++Q')∨∃ u U,P=P'++u::U∧Q'=u::U++Q:=by
 rcases List.append_eq_append_iff.1 h with ⟨U,h1,h2⟩|⟨U,h1,h2⟩
 ·exact .inl ⟨U,h1,h2⟩
 ·cases U with
  |nil=>exact .inl ⟨[],by simpa using h1.symm,by simpa using h2.symm⟩
  |cons u U=>exact .inr ⟨u,U,h1,h2⟩
theorem flat_nil {m:Nat} {l:List Tr} (h:∀ t∈l,t.Pow2) (e:l.flatMap (Tr.lay m)=[]):l=[]:=by
 cases l with
 |nil=>rfl
 |cons x l =>
  have:=lay_pos (m:=m) (h x (by simp));have h2:=congrArg List.length e;simp only [List.flatMap_cons,List.length_append,List.length_nil] at h2;omega
theorem pre_flat {m:Nat} {P Q P' Q':List Tr} (hp:∀ t∈P++Q,t.Pow2) (h:P++Q=P'++Q') (e:P.flatMap (Tr.lay m)=P'.flatMap (Tr.lay m)):P=P'∧Q=Q':=by
 rcases pre_cases h with ⟨U,h1,h2⟩|⟨u,U,h1,h2⟩
 ·rw [h1,List.flatMap_append] at e;have:=flat_nil (m:=m) (l:=U) (fun t ht=>hp t (by rw [h,h1];simp [ht])) (by simpa using e);subst this;exact ⟨by simpa using h1.symm,by simpa using h2⟩
 ·rw [h1,List.flatMap_append] at e;have:=flat_nil (m:=m) (l:=u::U) (fun t ht=>hp t (by rw [h1];simp at ht ⊢;rcases ht with h|h <;> simp [h])) (by simpa using e);simp at this
theorem Canon.pow2 {a:Tr} (h:Canon a) (m:Nat):∀ t∈a.lay m,t.Pow2:=by rw [← h.seq];exact seq_pow2 h.leaves _
theorem upL {a:Tr} {m:Nat} (hc:Canon a):∀ {d:List (Tr×Nat)×Option Tr} {P Q:List Tr},a.lay (m+1)=P++Q->EndL a m d (P.flatMap (Tr.lay m))->EndL a (m+1) (upT false (m+1) d) P
 |(p,none),P,Q,hl,h=>by
  obtain ⟨rfl,h2⟩:=h;exact ⟨rfl,flat_nil (fun t ht=>hc.pow2 (m+1) t (by rw [hl];simp [ht])) h2⟩
 |([],some x),P,Q,hl,h=>by
  obtain ⟨h1,h2,h3⟩:=leftN hc h (fun _ _ _ e=>by cases e);have h3':a.lay (m+1)=(before (m+1) []++[x])++tl (m+1) []:=(by rw [h3];simp);have:=(pre_flat (m:=m) (by rw [← hl];exact hc.pow2 _) (hl.symm.trans h3') h2).1;rw [this];exact h1
 |((t,j)::p,some x),P,Q,hl,h=>by
  unfold upT;by_cases ht:t.lv=m+1
  ·obtain ⟨h1,_,h3,h4⟩:=leftT hc h ht;have hx:=gelt h.zip.tail.2;have hg:=(h.zip.tail.1.gd hc.gd).1;have hk:=lay_kids hg ht;by_cases hj:j+1=(kids t).length
   ·simp only [ht,hj,Bool.false_eq_true,if_false,and_self,if_true];have h1':a.lay (m+1)=(before (m+1) p++[t])++tl (m+1) p:=(by rw [h1];simp);have:=(pre_flat (m:=m) (by rw [← hl];exact hc.pow2 _) (hl.symm.trans h1') (by rw [h3,List.flatMap_append,List.flatMap_cons,hk,hj,List.take_length];simp)).1;rw [this];exact h4
   ·exfalso;have h5:=congrArg List.length h3;simp only [List.length_append,List.length_take] at h5;rcases pre_cases (hl.symm.trans h1) with ⟨U,e1,e2⟩|⟨u,U,e1,e2⟩
    ·rw [e1,List.flatMap_append,List.length_append] at h5;omega
    ·simp only [List.cons_append,List.cons.injEq] at e2;rw [e1,← e2.1,List.flatMap_append,List.flatMap_cons,List.length_append,List.length_append,hk] at h5;omega
  ·simp only [ht,false_and,if_false];obtain ⟨h1,h2,h3⟩:=leftN hc h (fun t' j' p' e=>by cases e;exact ht);have h3':a.lay (m+1)=(before (m+1) ((t,j)::p)++[x])++tl (m+1) ((t,j)::p):=(by rw [h3];simp);have:=(pre_flat (m:=m) (by rw [← hl];exact hc.pow2 _) (hl.symm.trans h3') h2).1;rw [this];exact h1
section
variable {a x t:Tr} {m j:Nat} {p:List (Tr×Nat)} {R:List Tr}
theorem rightN (hc:Canon a) (h:EdR a m p x R) (ht:TopN m p):EdR a (m+1) p x (x::tl (m+1) p)∧R=(x::tl (m+1) p).flatMap (Tr.lay m)∧tl m p=(tl (m+1) p).flatMap (Tr.lay m)∧a.lay (m+1)=before (m+1) p++x::tl (m+1) p:=by
 have ha:=above_top hc.gd h.zip h.above ht;refine ⟨⟨h.zip,by have:=h.low;omega,ha,rfl⟩,?_,(tl_up p).symm,?_⟩
 ·rw [h.eq,List.flatMap_cons,tl_up,lay_low h.low];rfl
 ·rw [h.zip.lay ha,lay_low (by have:=h.low;omega)];simp
theorem rightT (hc:Canon a) (h:EdR a m ((t,j)::p) x R) (ht:t.lv=m+1):a.lay (m+1)=before (m+1) p++t::tl (m+1) p∧tl m ((t,j)::p)=(kids t).drop (j+1)++(tl (m+1) p).flatMap (Tr.lay m)∧R=(kids t).drop j++(tl (m+1) p).flatMap (Tr.lay m)∧EdR a (m+1) p t (t::tl (m+1) p):=by
 obtain ⟨hz,hx⟩:=h.zip.tail;have ha:=above_one hc.gd h.zip ht;have hg:=(hz.gd hc.gd).1;have e:tl m ((t,j)::p)=(kids t).drop (j+1)++(tl (m+1) p).flatMap (Tr.lay m):=by
  rw [tl_up];simp only [tl];rw [flat_same fun c hc=>kids_low hg ht c (List.mem_of_mem_drop hc)]
 refine ⟨?_,e,?_,hz,by omega,ha,rfl⟩
 ·rw [hz.lay ha,lay_low (by omega)];simp
 ·have hlt:=gelt hx;rw [h.eq,e,List.drop_eq_getElem_cons hlt];rw [zg hlt] at hx;injection hx with hx
  rw [hx];rfl
end
theorem suf_flat {m:Nat} {P Q P' Q':List Tr} (hp:∀ t∈P++Q,t.Pow2) (h:P++Q=P'++Q') (e:Q.flatMap (Tr.lay m)=Q'.flatMap (Tr.lay m)):P=P'∧Q=Q':=by
 rcases pre_cases h with ⟨U,h1,h2⟩|⟨u,U,h1,h2⟩
 ·rw [h2,List.flatMap_append] at e;have:=flat_nil (m:=m) (l:=U) (fun t ht=>hp t (by rw [h2];simp [ht])) (by simpa using e);subst this;exact ⟨by simpa using h1.symm,by simpa using h2⟩
 ·rw [h2,List.flatMap_append] at e;have:=flat_nil (m:=m) (l:=u::U) (fun t ht=>hp t (by rw [h1];simp at ht ⊢;rcases ht with h|h <;> simp [h])) (by
   have e':=congrArg List.length e;simp only [List.length_append] at e';exact List.eq_nil_of_length_eq_zero (by omega))
  simp at this
theorem upR {a:Tr} {m:Nat} (hc:Canon a):∀ {d:List (Tr×Nat)×Option Tr} {P Q:List Tr},a.lay (m+1)=P++Q->EndR a m d (Q.flatMap (Tr.lay m))->EndR a (m+1) (upT true (m+1) d) Q
 |(p,none),P,Q,hl,h=>by
  obtain ⟨rfl,h2⟩:=h;exact ⟨rfl,flat_nil (fun t ht=>hc.pow2 (m+1) t (by rw [hl];simp [ht])) h2⟩
 |([],some x),P,Q,hl,h=>by
  obtain ⟨h1,h2,_,h3⟩:=rightN hc h (fun _ _ _ e=>by cases e);have:=(suf_flat (m:=m) (by rw [← hl];exact hc.pow2 _) (hl.symm.trans h3) h2).2;rw [this];exact h1
 |((t,j)::p,some x),P,Q,hl,h=>by
  unfold upT;by_cases ht:t.lv=m+1
  ·obtain ⟨h1,_,h3,h4⟩:=rightT hc h ht;have hx:=gelt h.zip.tail.2;have hg:=(h.zip.tail.1.gd hc.gd).1;have hk:=lay_kids hg ht;by_cases hj:j=0
   ·simp only [ht,hj,if_true,and_self];have:=(suf_flat (m:=m) (by rw [← hl];exact hc.pow2 _) (hl.symm.trans h1) (by rw [h3,List.flatMap_cons,hk,hj,List.drop_zero])).2;rw [this];exact h4
   ·exfalso;have h5:=congrArg List.length h3;simp only [List.length_append,List.length_drop] at h5;rcases pre_cases (hl.symm.trans h1) with ⟨U,e1,e2⟩|⟨u,U,e1,e2⟩
    ·rw [e2,List.flatMap_append,List.flatMap_cons,List.length_append,List.length_append,hk] at h5;omega
    ·simp only [List.cons_append,List.cons.injEq] at e2;rw [e2.2,List.flatMap_append,List.length_append] at h5;omega
  ·simp only [ht,false_and,if_false];obtain ⟨h1,h2,_,h3⟩:=rightN hc h (fun t' j' p' e=>by cases e;exact ht);have:=(suf_flat (m:=m) (by rw [← hl];exact hc.pow2 _) (hl.symm.trans h3) h2).2;rw [this];exact h1
theorem even_pair {t:Tr} {m:Nat} (hg:t.Gd) (ht:t.lv=m+1) (ho:m%2=1):∃ u v,t=.pair u v∧fits (m+1) u v=true:=by
 obtain ⟨⟨a,ha⟩,hp⟩:=hg;rw [lv_of ha] at ht;subst ht;cases t with
 |leaf b=>simp [Tr.lev] at ha
 |pow s k=>obtain ⟨b,_,h1,h2⟩:=lev_pow_inv ha;omega
 |pair u v =>
  obtain ⟨_,b,c,_,_,h1,_⟩:=lev_pair_inv ha;refine ⟨u,v,rfl,?_⟩;have:=(afterN_spec (Tr.key_lt u) (Tr.key_lt v) (max b c)).2.2.2.1;rw [← h1] at this;exact this
theorem odd_pow {t:Tr} {m:Nat} (hg:t.Gd) (ht:t.lv=m+1) (he:m%2=0):∃ s k,t=.pow s k∧2<=k:=by
 obtain ⟨⟨a,ha⟩,hp⟩:=hg;rw [lv_of ha] at ht;subst ht;cases t with
 |leaf b=>simp [Tr.lev] at ha
 |pow s k=>exact ⟨s,k,rfl,hp.2⟩
 |pair u v =>
  obtain ⟨_,b,c,_,_,_,_,_,h1⟩:=lev_pair_inv ha;omega
section
variable {a x t:Tr} {m j:Nat} {p:List (Tr×Nat)} {L:List Tr}
theorem glKeepN (ho:m%2=1) (hc:Canon a) (h:EdL a m p x L) (ht:TopN m p) (X:List Tr) (hX:∀ y,X.head?=some y->fits (m+1) x y=false):∃ P Q,a.lay (m+1)=P++Q∧L=P.flatMap (Tr.lay m)∧pairsF (fits (m+1)) (L++X)=P++pairsF (fits (m+1)) X:=by
 obtain ⟨_,h2,h3⟩:=leftN hc h ht;have h3':a.lay (m+1)=(before (m+1) p++[x])++tl (m+1) p:=(by rw [h3];simp);refine ⟨_,_,h3',h2,?_⟩;rw [h2];refine (cut_pairs ho hc h3').2.2 X fun u y hu _ hy=>?_
 rw [List.getLast?_append] at hu;simp at hu;subst hu;exact hX y hy
theorem glKeepT (ho:m%2=1) (hc:Canon a) (h:EdL a m ((t,j)::p) x L) (ht:t.lv=m+1) (hj:j≠0) (X:List Tr):∃ P Q,a.lay (m+1)=P++Q∧L=P.flatMap (Tr.lay m)∧pairsF (fits (m+1)) (L++X)=P++pairsF (fits (m+1)) X:=by
 obtain ⟨h1,_,h3,_⟩:=leftT hc h ht;have hg:=(h.zip.tail.1.gd hc.gd).1;have hx:=gelt h.zip.tail.2;obtain ⟨u,v,rfl,_⟩:=even_pair hg ht ho;simp only [kids,List.length_cons,List.length_nil] at hx;obtain rfl:j=1:=by omega
 have h1':a.lay (m+1)=(before (m+1) p++[Tr.pair u v])++tl (m+1) p:=(by rw [h1];simp);have h4:L=(before (m+1) p++[Tr.pair u v]).flatMap (Tr.lay m):=by
  rw [h3,List.flatMap_append,List.flatMap_cons,lay_kids hg ht];simp [kids]
 refine ⟨_,_,h1',h4,?_⟩;rw [h4];refine (cut_pairs ho hc h1').2.2 X fun w y hw hl hy=>?_
 rw [List.getLast?_append] at hw;simp at hw;subst hw;omega
theorem glMoveN (ho:m%2=1) (hc:Canon a) (h:EdL a m p x L) (ht:TopN m p) (X:List Tr):∃ P Q,a.lay (m+1)=P++Q∧before m p=P.flatMap (Tr.lay m)∧L=before m p++[x]∧pairsF (fits (m+1)) (before m p++x::X)=P++pairsF (fits (m+1)) (x::X):=by
 obtain ⟨_,h2,h3⟩:=leftN hc h ht;have hcut:=cut_pairs ho hc h3;refine ⟨_,_,h3,(before_up p).symm,h.eq,?_⟩;rw [← before_up];refine hcut.2.2 (x::X) fun u y hu hl hy=>?_
 simp at hy;subst hy;exact hcut.2.1 u x hu hl (by rw [List.flatMap_cons,lay_low h.low];rfl)
theorem glMoveT (ho:m%2=1) (hc:Canon a) (h:EdL a m ((t,0)::p) x L) (ht:t.lv=m+1) (X:List Tr):∃ P Q,a.lay (m+1)=P++Q∧before m ((t,0)::p)=P.flatMap (Tr.lay m)∧L=before m ((t,0)::p)++[x]∧pairsF (fits (m+1)) (before m ((t,0)::p)++x::X)=P++pairsF (fits (m+1)) (x::X):=by
 obtain ⟨h1,h2,h3,_⟩:=leftT hc h ht;have hg:=(h.zip.tail.1.gd hc.gd).1;have hx:=h.zip.tail.2;have hcut:=cut_pairs ho hc h1;rw [List.take_zero,List.append_nil] at h2;refine ⟨_,_,h1,h2,h.eq,?_⟩;rw [h2];refine hcut.2.2 (x::X) fun u y hu hl hy=>?_
 simp at hy;subst hy;refine hcut.2.1 u x hu hl ?_;rw [List.flatMap_cons,lay_kids hg ht];cases hk:kids t with
 |nil=>rw [hk] at hx;simp at hx
 |cons c l=>rw [hk] at hx;simpa using hx
end
def isTie (lv:Nat):Bool:=decide (2<=lv∧lv%2=0∧(lv/2-1)%123=122)
theorem fits_nontie {lv:Nat} (h:isTie lv=false) {x y:Tr} (hf:fits lv x y=true) (z:Tr):fits lv y z=false∧fits lv z x=false:=by
 unfold fits fitsN at hf ⊢;unfold isTie at h;split at hf
 ·cases hf
 ·rename_i h1;have h2:¬ (lv/2-1)%123=122:=fun e=>by simp [e] at h;omega
  rw [if_neg h2] at hf;simp only [if_neg h1,if_neg h2];simp only [Bool.and_eq_true,decide_eq_true_eq] at hf;simp;omega
theorem fits_tie {lv:Nat} (h:isTie lv=true) (x y:Tr):fits lv x y=decide (x.key=y.key):=by
 unfold isTie at h;simp only [decide_eq_true_eq] at h;unfold fits fitsN;rw [if_neg (by omega),if_pos h.2.2]
theorem gr_cut {a:Tr} {m:Nat} (ho:m%2=1) (hc:Canon a) {P Q:List Tr} (e:a.lay (m+1)=P++Q) (M:List Tr) (hM:∀ z y,M.getLast?=some z->(Q.flatMap (Tr.lay m)).head?=some y->fits (m+1) z y=false) :
  pairsF (fits (m+1)) (M++Q.flatMap (Tr.lay m))=pairsF (fits (m+1)) M++Q:=by
 rw [pairs_append _ hM,(cut_pairs ho hc e).1]
section
variable {a x t:Tr} {m j:Nat} {p:List (Tr×Nat)} {R:List Tr}
theorem grMoveN (ho:m%2=1) (hc:Canon a) (h:EdR a m p x R) (ht:TopN m p):∃ P Q,a.lay (m+1)=P++Q∧tl m p=Q.flatMap (Tr.lay m)∧∀ y,(tl m p).head?=some y->fits (m+1) x y=false:=by
 obtain ⟨_,_,h2,h3⟩:=rightN hc h ht;have h3':a.lay (m+1)=(before (m+1) p++[x])++tl (m+1) p:=(by rw [h3];simp);refine ⟨_,_,h3',h2,fun y hy=>?_⟩;rw [h2] at hy;exact (cut_pairs ho hc h3').2.1 x y (by rw [List.getLast?_append];simp) h.low hy
theorem grMoveT (ho:m%2=1) (hc:Canon a) (h:EdR a m ((t,j)::p) x R) (ht:t.lv=m+1) (hj:j≠0):∃ P Q,a.lay (m+1)=P++Q∧tl m ((t,j)::p)=Q.flatMap (Tr.lay m)∧∃ u,t=.pair u x∧fits (m+1) u x=true:=by
 obtain ⟨h1,h2,h3,_⟩:=rightT hc h ht;have hg:=(h.zip.tail.1.gd hc.gd).1;have hx:=h.zip.tail.2;have hlt:=gelt hx;obtain ⟨u,v,rfl,hf⟩:=even_pair hg ht ho;simp only [kids,List.length_cons,List.length_nil] at hlt;obtain rfl:j=1:=by omega
 obtain rfl:v=x:=by simpa [kids] using hx
 have h1':a.lay (m+1)=(before (m+1) p++[Tr.pair u v])++tl (m+1) p:=(by rw [h1];simp);exact ⟨_,_,h1',by rw [h2];simp [kids],u,rfl,hf⟩
theorem grKeepN (hc:Canon a) (h:EdR a m p x R) (ht:TopN m p):∃ P Q,a.lay (m+1)=P++Q∧R=Q.flatMap (Tr.lay m):=by
 obtain ⟨_,h2,_,h3⟩:=rightN hc h ht;exact ⟨_,_,h3,h2⟩
theorem grKeepT (hc:Canon a) (h:EdR a m ((t,0)::p) x R) (ht:t.lv=m+1):∃ P Q,a.lay (m+1)=P++Q∧R=Q.flatMap (Tr.lay m):=by
 obtain ⟨h1,h2,h3,_⟩:=rightT hc h ht;have hg:=(h.zip.tail.1.gd hc.gd).1;exact ⟨_,_,h1,by rw [h3,List.flatMap_cons,lay_kids hg ht];simp⟩
theorem grPair (ho:m%2=1) (hc:Canon a) (h:EdR a m ((t,0)::p) x R) (ht:t.lv=m+1):∃ P Q v,a.lay (m+1)=P++t::Q∧t=.pair x v∧fits (m+1) x v=true∧tl m p=Q.flatMap (Tr.lay m)∧Q=tl (m+1) p∧R=x::v::tl m p:=by
 obtain ⟨h1,h2,h3,_⟩:=rightT hc h ht;have hg:=(h.zip.tail.1.gd hc.gd).1;have hx:=h.zip.tail.2;obtain ⟨u,v,rfl,hf⟩:=even_pair hg ht ho;obtain rfl:u=x:=by simpa [kids] using hx
 exact ⟨_,_,v,h1,rfl,hf,(tl_up p).symm,rfl,by rw [h3,tl_up];simp [kids]⟩
end
section
variable {a x t:Tr} {m j k:Nat} {p:List (Tr×Nat)} {L R:List Tr}
theorem rlKeep (he:m%2=0) (hc:Canon a) {P Q:List Tr} (e:a.lay (m+1)=P++Q) (X:List Tr) (hX:∀ z y,(P.flatMap (Tr.lay m)).getLast?=some z->X.head?=some y->z≠y):runs (P.flatMap (Tr.lay m)++X)=P++runs X :=
 (cut_runs he hc e).2.2 X hX
theorem rlMoveN (he:m%2=0) (hc:Canon a) (h:EdL a m p x L) (ht:TopN m p) (X:List Tr):∃ P Q,a.lay (m+1)=P++Q∧before m p=P.flatMap (Tr.lay m)∧L=before m p++[x]∧runs (before m p++x::X)=P++runs (x::X):=by
 obtain ⟨_,h2,h3⟩:=leftN hc h ht;have hcut:=cut_runs he hc h3;refine ⟨_,_,h3,(before_up p).symm,h.eq,?_⟩;rw [← before_up];refine hcut.2.2 (x::X) fun u y hu hy=>?_
 simp at hy;subst hy;exact hcut.2.1 u x hu (by rw [List.flatMap_cons,lay_low h.low];rfl)
theorem rlMoveT (he:m%2=0) (hc:Canon a) (h:EdL a m ((t,j)::p) x L) (ht:t.lv=m+1) (X:List Tr):∃ P Q k,t=.pow x k∧a.lay (m+1)=P++Q∧before m p=P.flatMap (Tr.lay m)∧L=before m p++List.replicate (j+1) x∧runs (before m p++(List.replicate (j+1) x++X))=P++runs (List.replicate (j+1) x++X):=by
 obtain ⟨h1,h2,h3,_⟩:=leftT hc h ht;have hg:=(h.zip.tail.1.gd hc.gd).1;have hx:=h.zip.tail.2;have hlt:=gelt hx;obtain ⟨s,k,rfl,hk⟩:=odd_pow hg ht he;have:s=x:=(List.eq_of_mem_replicate (List.mem_of_getElem? hx)).symm;subst this;simp only [kids,List.length_replicate] at hlt;have hcut:=cut_runs he hc h1;refine ⟨_,_,k,rfl,h1,(before_up p).symm,?_,?_⟩
 ·rw [h3,before_up,kids,List.take_replicate,Nat.min_eq_left (by omega)]
 ·rw [← before_up];refine hcut.2.2 _ fun u y hu hy=>?_
  simp [List.replicate_succ] at hy;subst hy;refine hcut.2.1 u s hu ?_;rw [List.flatMap_cons,lay_kids hg ht,kids];obtain ⟨k,rfl⟩:=Nat.exists_eq_succ_of_ne_zero (show k≠0 by omega);simp [List.replicate_succ]
theorem rlWholeT (hc:Canon a) (h:EdL a m ((t,j)::p) x L) (ht:t.lv=m+1) (hj:j+1=(kids t).length):∃ P Q,a.lay (m+1)=P++Q∧L=P.flatMap (Tr.lay m):=by
 obtain ⟨h1,h2,h3,_⟩:=leftT hc h ht;have hg:=(h.zip.tail.1.gd hc.gd).1;have h1':a.lay (m+1)=(before (m+1) p++[t])++tl (m+1) p:=(by rw [h1];simp);exact ⟨_,_,h1',by rw [h3,List.flatMap_append,List.flatMap_cons,lay_kids hg ht,hj,List.take_length];simp⟩
theorem rlWholeN (hc:Canon a) (h:EdL a m p x L) (ht:TopN m p):∃ P Q,a.lay (m+1)=P++Q∧L=P.flatMap (Tr.lay m):=by
 obtain ⟨_,h2,h3⟩:=leftN hc h ht;exact ⟨before (m+1) p++[x],tl (m+1) p,by rw [h3];simp,h2⟩
theorem rrMoveN (he:m%2=0) (hc:Canon a) (h:EdR a m p x R) (ht:TopN m p):∃ P Q,a.lay (m+1)=P++Q∧tl m p=Q.flatMap (Tr.lay m)∧∀ y,(tl m p).head?=some y->x≠y:=by
 obtain ⟨_,_,h2,h3⟩:=rightN hc h ht;have h3':a.lay (m+1)=(before (m+1) p++[x])++tl (m+1) p:=(by rw [h3];simp);refine ⟨_,_,h3',h2,fun y hy=>?_⟩;rw [h2] at hy;exact (cut_runs he hc h3').2.1 x y (by rw [List.flatMap_append,List.getLast?_append,List.flatMap_cons,lay_low h.low];simp) hy
theorem rrMoveT (he:m%2=0) (hc:Canon a) (h:EdR a m ((t,j)::p) x R) (ht:t.lv=m+1):∃ P Q k,t=.pow x k∧j<k∧a.lay (m+1)=P++Q∧tl m p=Q.flatMap (Tr.lay m)∧R=List.replicate (k-j) x++tl m p∧∀ y,(tl m p).head?=some y->x≠y:=by
 obtain ⟨h1,h2,h3,_⟩:=rightT hc h ht;have hg:=(h.zip.tail.1.gd hc.gd).1;have hx:=h.zip.tail.2;have hlt:=gelt hx;obtain ⟨s,k,rfl,hk⟩:=odd_pow hg ht he;have:s=x:=(List.eq_of_mem_replicate (List.mem_of_getElem? hx)).symm;subst this;simp only [kids,List.length_replicate] at hlt;have h1':a.lay (m+1)=(before (m+1) p++[Tr.pow s k])++tl (m+1) p:=(by rw [h1];simp);refine ⟨_,_,k,rfl,hlt,h1',(tl_up p).symm,by rw [h3,tl_up,kids,List.drop_replicate],fun y hy=>?_⟩;rw [← tl_up] at hy;refine (cut_runs he hc h1').2.1 s y ?_ hy;rw [List.flatMap_append,List.getLast?_append,List.flatMap_cons,lay_kids hg ht,kids];obtain ⟨k,rfl⟩:=Nat.exists_eq_succ_of_ne_zero (show k≠0 by omega);simp [List.replicate_succ']
theorem rr_cut (he:m%2=0) (hc:Canon a) {P Q:List Tr} (e:a.lay (m+1)=P++Q) (M:List Tr) (hM:∀ z y,M.getLast?=some z->(Q.flatMap (Tr.lay m)).head?=some y->z≠y) :
  runs (M++Q.flatMap (Tr.lay m))=runs M++Q:=by
 rw [runs_append hM,(cut_runs he hc e).1]
end
end
section
structure It where
 x:Tr
 nx:Option Tr
 n:Nat
def It.exp (i:It):List Tr:=match i.nx with|none=>List.replicate i.n i.x|some y=>(List.replicate i.n [i.x,y]).flatten
def expI (l:List It):List Tr:=l.flatMap It.exp
theorem expI_append (a b:List It):expI (a++b)=expI a++expI b:=by simp [expI]
theorem expI_cons (a:It) (b:List It):expI (a::b)=a.exp++expI b:=by simp [expI]
theorem expI_nil:expI []=[]:=rfl
def Sg (l:List It):Prop:=∀ i∈l,i.nx=none∧1<=i.n
def One (l:List It):Prop:=∀ i∈l,i.nx=none∧i.n=1
theorem One.sg {l:List It} (h:One l):Sg l:=fun i hi=>by have:=h i hi;exact ⟨this.1,by omega⟩
theorem One.exp:∀ {l:List It},One l->expI l=l.map (·.x)
 |[],_=>rfl
 |i::l,h=>by
  have h1:=h i (by simp);rw [expI_cons,One.exp (l:=l) fun j hj=>h j (by simp [hj])];simp [It.exp,h1.1,h1.2]
def pushI (l:List It) (i:It):List It :=
 match l.getLast? with
 |some j=>if j.x=i.x then l.dropLast++[⟨j.x,j.nx,j.n+i.n⟩] else l++[i]
 |none=>l++[i]
theorem pushI_nil (i:It):pushI [] i=[i]:=rfl
theorem pushI_snoc (l:List It) (j i:It):pushI (l++[j]) i=if j.x=i.x then l++[⟨j.x,j.nx,j.n+i.n⟩] else l++[j]++[i]:=by
 simp [pushI]
theorem snoc_cases {α:Type} (l:List α):l=[]∨∃ a x,l=a++[x]:=by
 rcases List.eq_nil_or_concat l with h|⟨a,x,h⟩
 ·exact .inl h
 ·exact .inr ⟨a,x,by rw [h];simp⟩
theorem push_sg {l:List It} {i:It} (h:Sg l) (hi:i.nx=none∧1<=i.n):Sg (pushI l i)∧expI (pushI l i)=expI l++i.exp:=by
 rcases snoc_cases l with rfl|⟨a,j,rfl⟩
 ·exact ⟨fun k hk=>by simp [pushI_nil] at hk;subst hk;exact hi,by simp [pushI_nil,expI]⟩
 ·rw [pushI_snoc];have hj:=h j (by simp);split
  ·rename_i e;refine ⟨fun k hk=>?_,?_⟩
   ·rcases List.mem_append.1 hk with hk|hk
    ·exact h k (by simp [hk])
    ·simp at hk;subst hk;exact ⟨hj.1,by simp;omega⟩
   ·rw [expI_append,expI_append,List.append_assoc];congr 1
    simp only [expI_cons,expI_nil,List.append_nil,It.exp,hj.1,hi.1];rw [e,List.replicate_append_replicate]
  ·refine ⟨fun k hk=>?_,?_⟩
   ·rcases List.mem_append.1 hk with hk|hk
    ·exact h k hk
    ·simp at hk;subst hk;exact hi
   ·rw [expI_append];simp [expI_cons,expI_nil]
def ApI (l:List It):Prop:=ChG (fun p q=>p.1≠q.1) (l.map fun i=>(i.x,i.n))
theorem chG_snoc {R:Tr×Nat->Tr×Nat->Prop}:∀ {l:List (Tr×Nat)} {q:Tr×Nat},ChG R l->(∀ p,l.getLast?=some p->R p q)->ChG R (l++[q])
 |[],_,_,_=>trivial
 |[x],q,_,h=>⟨h x rfl,trivial⟩
 |x::y::l,q,hc,h=>⟨hc.1,chG_snoc (l:=y::l) hc.2 fun p hp=>h p (by simpa using hp)⟩
theorem chG_last {R:Tr×Nat->Tr×Nat->Prop} (hR:∀ p q q':Tr×Nat,q.1=q'.1->R p q->R p q'):∀ {l:List (Tr×Nat)} {q q':Tr×Nat},q.1=q'.1->ChG R (l++[q])->ChG R (l++[q'])
 |[],_,_,_,_=>trivial
 |[x],q,q',e,h=>⟨hR x q q' e h.1,trivial⟩
 |x::y::l,q,q',e,h=>⟨h.1,chG_last hR (l:=y::l) e h.2⟩
theorem push_ap {l:List It} {i:It} (h:ApI l):ApI (pushI l i):=by
 rcases snoc_cases l with rfl|⟨a,j,rfl⟩
 ·trivial
 ·rw [pushI_snoc];unfold ApI at h ⊢;split
  ·simp only [List.map_append,List.map_cons,List.map_nil] at h ⊢;exact chG_last (q:=(j.x,j.n)) (fun p q q' e hn=>by rw [← e];exact hn) rfl h
  ·rename_i hne;rw [List.map_append];refine chG_snoc h fun p hp=>?_
   simp at hp;subst hp;exact hne
theorem groups_exp:∀ {l:List It},Sg l->ApI l->groups (expI l)=l.map fun i=>(i.x,i.n):=by
 intro l h ha;have e:expI l=(l.map fun i=>(i.x,i.n)).flatMap fun p=>List.replicate p.2 p.1:=by
  clear ha;induction l with
  |nil=>rfl
  |cons i l ih =>
   have hi:=h i (by simp);rw [expI_cons,ih fun j hj=>h j (by simp [hj])];simp [It.exp,hi.1]
 rw [e];refine groups_of (fun p hp=>?_) ha;obtain ⟨i,hi,rfl⟩:=List.mem_map.1 hp;exact (h i hi).2
def powI (i:It):It:=if i.n=1 then i else ⟨.pow i.x i.n,none,1⟩
theorem powI_one {l:List It} (h:Sg l):One (l.map powI):=by
 intro i hi;obtain ⟨j,hj,rfl⟩:=List.mem_map.1 hi;have:=h j hj;unfold powI;split
 ·exact ⟨this.1,by assumption⟩
 ·exact ⟨rfl,rfl⟩
theorem runs_exp {l:List It} (h:Sg l) (ha:ApI l):expI (l.map powI)=runs (expI l):=by
 rw [(powI_one h).exp];unfold runs;rw [groups_exp h ha,List.map_map,List.map_map];congr 1
 funext i
 simp only [Function.comp,powI,powT];split <;> rfl
theorem pairs_two (f:Tr->Tr->Bool) (x y:Tr) (Y:List Tr) (h:f x y=true):pairsF f (x::y::Y)=.pair x y::pairsF f Y:=by simp [pairsF,h]
theorem pairs_skip (f:Tr->Tr->Bool) (x:Tr) (Y:List Tr) (h:∀ y,Y.head?=some y->f x y=false):pairsF f (x::Y)=x::pairsF f Y:=by
 have:=pairs_append f (a:=[x]) (b:=Y) fun u y hu hy=>by
  simp at hu;subst hu;exact h y hy
 simpa [pairsF] using this
theorem pairs_turn (f:Tr->Tr->Bool) (x y:Tr) (h:f x y=true) (Y:List Tr):∀ n,pairsF f ((List.replicate n [x,y]).flatten++Y)=List.replicate n (.pair x y)++pairsF f Y
 |0=>by simp
 |n+1=>by
  simp only [List.replicate_succ,List.flatten_cons,List.cons_append,List.nil_append];rw [pairs_two f x y _ h,pairs_turn f x y h Y n]
theorem turn_shift (x y:Tr):∀ n,x::(List.replicate n [y,x]).flatten=(List.replicate n [x,y]).flatten++[x]
 |0=>by simp
 |n+1=>by
  simp only [List.replicate_succ,List.flatten_cons,List.cons_append,List.nil_append];rw [turn_shift x y n]
end
section
open Go.RowKit Go.Maps
attribute [local go_sem] InGr
def RRel (S:Sto) (K:Kt) (M:List Nat) (w:World) (id n:Nat) (rv:Value) (bt:Nat) (k:Nat) (v6:Value) (wr:World):Prop :=
 ∃ (rows:List Kr) (stk:List Nat),rows.length=n∧Rows S rows∧KStk rows id stk∧unk rows*(n+1)+(n-stk.length)=k∧((∃ r,rows[id]?=some r∧r.known=true)∨id∈stk)∧St w M [rowsA encI 26 1 v6 stk,blk K.t (.cells #[.pointer (some ⟨K.s,0,none⟩),rv] 211),rowsA rowK 214 3 rv rows,blk bt (.cells #[.int .u64 0,.int .i64 0,.bool false] 214)] wr
abbrev RowPost (S:Sto) (K:Kt) (id:Nat) (M:List Nat) (w:World) (e:Ending) (w':World):Prop :=
 ∃ K':Kt,K'.t=K.t∧K'.s=K.s∧KtOk S K'∧e=.returned (.tuple #[.agg #[.int .u64 (S.tr id).key,.int .i64 (lvI (S.tr id).lev),.bool true],.nilIface])∧St w M [ktA K'] w'
theorem St.only4 {w0 w:World} {M:List Nat} {L R1 R2 R3 R4:List As} {A B C D:As} (h:St w0 M L w) (h1:Pick L A R1) (h2:Pick R1 B R2) (h3:Pick R2 C R3) (h4:Pick R3 D R4):St w0 M [A,B,C,D] w:=by
 have h':=h.perm (h1.perm.trans ((h2.perm.trans ((h3.perm.trans (h4.perm.cons _)).cons _)).cons _));have k4:∀ {X:List As},St w0 M (A::B::C::D::X) w->St w0 M [A,B,C,D] w:=fun h=>⟨h.os,h.tape,h.output,h.size,h.keep,fun Z hZ=>h.ho Z (by simp at hZ ⊢;rcases hZ with rfl|rfl|rfl|rfl <;> simp),fun Z hZ=>h.own Z (by simp at hZ ⊢;rcases hZ with rfl|rfl|rfl|rfl <;> simp),h.dis.sublist (by simp)⟩
 exact k4 h'
structure RuleAt (S:Sto) (rows:List Kr) (x:Nat) (kd lt il ir tm:Nat) (rl rr:Kr):Prop where
 hkd:kd=1∨kd=2∨kd=3
 hlt:lt<256
 htm:tm<9223372036854775808
 hil:il<x
 hir:ir<x
 hl:rows[il]?=some rl
 hr:rows[ir]?=some rr
 hbl:rl.key<2305843009213693951∧-1<=rl.lv∧rl.lv<1152921504606846976
 hbr:rr.key<2305843009213693951∧-1<=rr.lv∧rr.lv<1152921504606846976
 shape:(il=0∧ir=0)∨(il≠0∧ir≠0)∨(il≠0∧ir=0)
 comp:(il=0∨rl.known=true)->(ir=0∨rr.known=true)->compK ⟨kd,lt,il,ir,tm⟩ rl rr=rowOf S x
 rule:∃ y,S.list[x-1]?=some y∧y.r=⟨kd,lt,il,ir,tm⟩
theorem rule_at {S:Sto} (hS:S.Ok) {rows:List Kr} (hR:Rows S rows) {x:Nat} (h1:1<=x) (hx:x<rows.length) (hl:rows.length<=S.list.length+1):∃ kd lt il ir tm rl rr,RuleAt S rows x kd lt il ir tm rl rr:=by
 obtain ⟨i,rfl⟩:=Nat.exists_eq_succ_of_ne_zero (show x≠0 by omega);simp only [Nat.succ_eq_add_one] at *;obtain ⟨y,hy⟩:∃ y,S.list[i]?=some y:=⟨_,zg (by omega)⟩
 have get:∀ j,j<rows.length->∃ r,rows[j]?=some r:=fun j hj=>⟨_,zg hj⟩
 have hml:=hS.len;have hmm:=hS.most;cases rule_of hS hy with
 |letter b hb hr hw ht =>
  obtain ⟨r0,h0⟩:=get 0 (by omega);have hb0:=(hR 0 r0 h0).bounds hS;exact ⟨1,b,0,0,0,r0,r0,.inl rfl,hb,by omega,by omega,by omega,h0,h0,hb0,hb0,.inl ⟨rfl,rfl⟩,fun _ _=>comp_letter S b i r0 r0 ht,y,hy,hr⟩
 |pair l r u v hl' hr' hu hv he hw hs ht =>
  obtain ⟨rl,h2⟩:=get (l+1) (by omega);obtain ⟨rr,h3⟩:=get (r+1) (by omega);refine ⟨2,0,l+1,r+1,0,rl,rr,.inr (.inl rfl),by omega,by omega,by omega,by omega,h2,h3,(hR _ rl h2).bounds hS,(hR _ rr h3).bounds hS,.inr (.inl ⟨by omega,by omega⟩),fun k1 k2=>?_,y,hy,he⟩;have e1:rl=rowOf S (l+1):=(hR _ rl h2).eq (by rcases k1 with h|h;omega;exact h);have e2:rr=rowOf S (r+1):=(hR _ rr h3).eq (by rcases k2 with h|h;omega;exact h);rw [e1,e2];exact comp_pair S hS l r i u v hu hv ht
 |pow l k u hl' hu hk he hw hs ht =>
  obtain ⟨rl,h2⟩:=get (l+1) (by omega);obtain ⟨r0,h0⟩:=get 0 (by omega);have hkm:k<=1152921504606846976:=by
   have hp:=(hS.good l u hu).pos;have:=Nat.le_mul_of_pos_left k hp;rw [maxT_eq] at hs;omega
  refine ⟨3,0,l+1,0,k,rl,r0,.inr (.inr rfl),by omega,by omega,by omega,by omega,h2,h0,(hR _ rl h2).bounds hS,(hR _ r0 h0).bounds hS,.inr (.inr ⟨by omega,rfl⟩),fun k1 _=>?_,y,hy,he⟩;have e1:rl=rowOf S (l+1):=(hR _ rl h2).eq (by rcases k1 with h|h;omega;exact h);rw [e1];exact comp_pow S l k i r0 ht
theorem zero_rows {S:Sto} {rows:List Kr} (h:Rows S rows) (d:Nat):Rows S (rows++List.replicate d ⟨0,0,false⟩):=fun i r hr=>by
 rw [List.getElem?_append] at hr;split at hr
 ·exact h i r hr
 ·exact .inl (List.eq_of_mem_replicate (List.mem_of_getElem? hr))
attribute [local go_sem] StStep stAt stUpon in
theorem row_c {S:Sto} {K:Kt} {lv:Value} {m id:Nat} (hS:S.Ok) (hK:KtOk S K) (h1:1<=id) (h2:id<=S.list.length) (w:World) (h:((ktA K).sep ((stoA K.s lv m S).sep deA)).ho w) :
  Calls Tryz.prog 124 #[.pointer (some ⟨K.t,0,none⟩),.int .i64 id] w (RowPost S K id (ktA K).fp w):=by
 rw [sep_ho] at h;obtain ⟨k1,k2,hd⟩:=h;have H:=St.one k1;have HK:Ks w (ktA K).fp [(stoA K.s lv m S).sep deA]:=⟨by simpa using k2,by simpa using fun b hb hm=>hd b hm hb⟩
 replace HK:=HK.sep;replace H:=ktA_open H;generalize (ktA K).fp=M at *;have HSO:=zh hS;have hml:=hS.len;have hmm:=hS.most;have hkl:=hK.len;have hg1:decide ((id:Int)<1)=false:=(by simp;omega);have hg2:decide ((S.list.length:Int)<(id:Int))=false:=(by simp;omega);have HKR:=zh (za hK (za h1 h2));by_cases hin:id<K.rows.length
 case' neg =>
  obtain ⟨ad0,c0,hrv,hm0⟩:=rowsA_shape (H.get (A:=rowsA rowK 214 3 K.rv K.rows) pk);rw [hrv] at H;have hle:decide ((K.rows.length:Int)<=id)=true:=(by simp;omega);obtain ⟨d,hd⟩:∃ d,d=id+1-K.rows.length:=⟨_,rfl⟩
  have hsub:(id:Int)+1-(K.rows.length:Int)=(d:Int):=(by omega);have hd0:0<d:=(by omega);have hdl:K.rows.length+d=id+1:=(by omega);clear k1 k2 hrv hK hS hd;go_enter Tryz.func124,Tryz.ntmps124;go_wp2_with (first|refine sL ?_|(refine sS1 ?_;clear H;intro _ H)|(refine sA ?_;clear H;intro bt _ H)|(go_at_call 38;refine same (len_c _ (H.known HK pk)) ?_));replace H:=H.pick3 (A:=rowsA rowK 214 3 (.slice ad0 K.rows.length c0) K.rows) (B:=blk K.t (.cells #[.pointer (some ⟨K.s,0,none⟩),.slice ad0 K.rows.length c0] 211)) (C:=blk bt (.cells #[.int .u64 0,.int .i64 0,.bool false] 214)) pk pk pk;refine wp_region_rgx H [blk K.t (.cells #[.pointer (some ⟨K.s,0,none⟩),.slice ad0 K.rows.length c0] 211),blk bt (.cells #[.int .u64 0,.int .i64 0,.bool false] 214)] 14 [⟨[],[],[],fun v _=>v=.pointer (some ⟨K.t,0,none⟩),fun _ _=>[]⟩,⟨[],[],[],fun v _=>v=.pointer (some ⟨K.t,0,none⟩),fun _ _=>[]⟩,⟨[],[],[1],fun v _=>v=.pointer (some ⟨K.t,0,none⟩),fun _ _=>[]⟩,⟨[],[],[2],fun v _=>v=.pointer (some ⟨K.t,1,none⟩),fun _ _=>[]⟩,⟨[],[],[3],fun v _=>v=.slice ad0 K.rows.length c0,fun _ _=>[]⟩,⟨[],[],[],fun v _=>v=.int .i64 id,fun _ _=>[]⟩,⟨[],[],[5],fun v _=>v=.int .i64 ((id:Int)+1),fun _ _=>[]⟩,⟨[],[],[],fun v _=>v=.pointer (some ⟨K.t,0,none⟩),fun _ _=>[]⟩,⟨[],[],[7],fun v _=>v=.pointer (some ⟨K.t,0,none⟩),fun _ _=>[]⟩,⟨[],[],[8],fun v _=>v=.pointer (some ⟨K.t,1,none⟩),fun _ _=>[]⟩,⟨[],[],[9],fun v _=>v=.slice ad0 K.rows.length c0,fun _ _=>[]⟩,⟨[],[],[10],fun v _=>v=.int .i64 K.rows.length,fun _ _=>[]⟩,⟨[],[],[6,11],fun v _=>v=.int .i64 d,fun _ _=>[]⟩,⟨[14],[],[4,12],fun _ _=>True,fun v _=>[rowsA rowK 214 3 v (K.rows++List.replicate d ⟨0,0,false⟩)]⟩,⟨[],[],[],fun _ _=>True,fun _ _=>[rowsA rowK 214 3 (.slice ad0 K.rows.length c0) K.rows]⟩] (by kernel_rfl)
   [[],[],[(1,42)],[(2,43)],[(3,44)],[],[(5,46)],[],[(7,48)],[(8,49)],[(9,50)],[(10,51)],[(6,47),(11,52)],[(4,45),(12,53)]] [(0,41),(1,42),(2,43),(3,44),(4,45),(5,46),(6,47),(7,48),(8,49),(9,50),(10,51),(11,52),(12,53),(13,54)] [0,1,2,3,4,5,6,7,8,9,10,11,12,13] (by kernel_rfl) (by kernel_rfl) (by kernel_rfl) ⟨?_,?_,?_,?_,?_,?_,?_,?_,?_,?_,?_,?_,?_,?_,trivial⟩ ?_
  ·intro vals wx X hd H;clear hd;replace H:=sP H;simp only [putS,List.foldl_nil];go_simp;first|exact H|exact ⟨rfl,H⟩
  ·intro vals wx X hd H;clear hd;replace H:=sP H;simp only [putS,List.foldl_nil];go_simp;first|exact H|exact ⟨rfl,H⟩
  ·intro vals wx X hd H;have h1:vals 1=.pointer (some ⟨K.t,0,none⟩):=hd.1;clear hd;replace H:=sP H;simp only [putS,List.foldl_nil,List.foldl_cons,Act.put,List.setIfInBounds_toArray,List.set_cons_zero,List.set_cons_succ,h1];clear h1;go_simp;first|exact H|exact ⟨rfl,H⟩
  ·intro vals wx X hd H;have h2:vals 2=.pointer (some ⟨K.t,0,none⟩):=hd.1;clear hd;replace H:=sP H;simp only [putS,List.foldl_nil,List.foldl_cons,Act.put,List.setIfInBounds_toArray,List.set_cons_zero,List.set_cons_succ,h2];clear h2;go_simp;first|exact H|exact ⟨rfl,H⟩
  ·intro vals wx X hd H;have h3:vals 3=.pointer (some ⟨K.t,1,none⟩):=hd.1;clear hd;replace H:=sP H;simp only [putS,List.foldl_nil,List.foldl_cons,Act.put,List.setIfInBounds_toArray,List.set_cons_zero,List.set_cons_succ,h3];first|refine StStep.cellT rfl rfl rfl gt rfl rfl ⟨rfl,H⟩|refine StStep.wholeT rfl rfl rfl gt rfl ⟨rfl,H⟩
  ·intro vals wx X hd H;clear hd;replace H:=sP H;simp only [putS,List.foldl_nil];go_simp;first|exact H|exact ⟨rfl,H⟩
  ·intro vals wx X hd H;have h5:vals 5=.int .i64 id:=hd.1;clear hd;replace H:=sP H;simp only [putS,List.foldl_nil,List.foldl_cons,Act.put,List.setIfInBounds_toArray,List.set_cons_zero,List.set_cons_succ,h5];clear h5;go_simp;exact ⟨by rw [IntKind.wrap_i64];omega,H⟩
  ·intro vals wx X hd H;clear hd;replace H:=sP H;simp only [putS,List.foldl_nil];go_simp;first|exact H|exact ⟨rfl,H⟩
  ·intro vals wx X hd H;have h7:vals 7=.pointer (some ⟨K.t,0,none⟩):=hd.1;clear hd;replace H:=sP H;simp only [putS,List.foldl_nil,List.foldl_cons,Act.put,List.setIfInBounds_toArray,List.set_cons_zero,List.set_cons_succ,h7];clear h7;go_simp;first|exact H|exact ⟨rfl,H⟩
  ·intro vals wx X hd H;have h8:vals 8=.pointer (some ⟨K.t,0,none⟩):=hd.1;clear hd;replace H:=sP H;simp only [putS,List.foldl_nil,List.foldl_cons,Act.put,List.setIfInBounds_toArray,List.set_cons_zero,List.set_cons_succ,h8];clear h8;go_simp;first|exact H|exact ⟨rfl,H⟩
  ·intro vals wx X hd H;have h9:vals 9=.pointer (some ⟨K.t,1,none⟩):=hd.1;clear hd;replace H:=sP H;simp only [putS,List.foldl_nil,List.foldl_cons,Act.put,List.setIfInBounds_toArray,List.set_cons_zero,List.set_cons_succ,h9];first|refine StStep.cellT rfl rfl rfl gt rfl rfl ⟨rfl,H⟩|refine StStep.wholeT rfl rfl rfl gt rfl ⟨rfl,H⟩
  ·intro vals wx X hd H;have h10:vals 10=.slice ad0 K.rows.length c0:=hd.1;clear hd;replace H:=sP H;simp only [putS,List.foldl_nil,List.foldl_cons,Act.put,List.setIfInBounds_toArray,List.set_cons_zero,List.set_cons_succ,h10];clear h10;go_simp;first|exact H|exact ⟨rfl,H⟩
  ·intro vals wx X hd H;have h6:vals 6=.int .i64 ((id:Int)+1):=hd.1;have h11:vals 11=.int .i64 K.rows.length:=hd.2.1;clear hd;replace H:=sP H;simp only [putS,List.foldl_nil,List.foldl_cons,Act.put,List.setIfInBounds_toArray,List.set_cons_zero,List.set_cons_succ,h6,h11];clear h6 h11;go_simp;exact ⟨by rw [IntKind.wrap_i64];omega,H⟩
  ·intro vals wx X hd H;have h4:vals 4=.slice ad0 K.rows.length c0:=hd.1;have h12:vals 12=.int .i64 d:=hd.2.1;clear hd;replace H:=sP H;simp only [putS,List.foldl_nil,List.foldl_cons,Act.put,List.setIfInBounds_toArray,List.set_cons_zero,List.set_cons_succ,h4,h12];clear h4 h12;exact StStep.appendZ (enc:=rowK) rfl rfl Tryz.underlying3 rfl rfl rfl (by decide) (by decide) (by decide) ⟨0,0,false⟩ rfl hd0 rfl rfl H (by omega) fun v' w' H=>⟨trivial,H⟩
  intro vals wx hd H;have h0:vals 0=.pointer (some ⟨K.t,0,none⟩):=hd.1;have h1:vals 1=.pointer (some ⟨K.t,0,none⟩):=hd.2.1;have h2:vals 2=.pointer (some ⟨K.t,0,none⟩):=hd.2.2.1;have h3:vals 3=.pointer (some ⟨K.t,1,none⟩):=hd.2.2.2.1;have h4:vals 4=.slice ad0 K.rows.length c0:=hd.2.2.2.2.1;have h5:vals 5=.int .i64 id:=hd.2.2.2.2.2.1;have h6:vals 6=.int .i64 ((id:Int)+1):=hd.2.2.2.2.2.2.1;have h7:vals 7=.pointer (some ⟨K.t,0,none⟩):=hd.2.2.2.2.2.2.2.1;have h8:vals 8=.pointer (some ⟨K.t,0,none⟩):=hd.2.2.2.2.2.2.2.2.1;have h9:vals 9=.pointer (some ⟨K.t,1,none⟩):=hd.2.2.2.2.2.2.2.2.2.1;have h10:vals 10=.slice ad0 K.rows.length c0:=hd.2.2.2.2.2.2.2.2.2.2.1;have h11:vals 11=.int .i64 K.rows.length:=hd.2.2.2.2.2.2.2.2.2.2.2.1;have h12:vals 12=.int .i64 d:=hd.2.2.2.2.2.2.2.2.2.2.2.2.1;clear hd;replace H:=sP H;simp only [putS,List.foldl_nil,List.foldl_cons,Act.put,List.setIfInBounds_toArray,List.set_cons_zero,List.set_cons_succ,List.drop_succ_cons,List.drop_zero,h0,h1,h2,h3,h4,h5,h6,h7,h8,h9,h10,h11,h12];clear h0 h1 h2 h3 h4 h5 h6 h7 h8 h9 h10 h11 h12;obtain ⟨rows0,hrows0⟩:∃ rows0,rows0=K.rows++List.replicate d ⟨0,0,false⟩:=⟨_,rfl⟩
  rw [← hrows0] at H;have hlen0:rows0.length=id+1:=(by rw [hrows0];simp;omega);obtain ⟨g,c,hv13,hc,hm⟩:=rowsA_cases (H.get (A:=rowsA rowK 214 3 (vals 13) rows0) pk) (by omega);rw [hlen0] at hv13 hc;rw [hv13] at H;simp only [hv13];unfold maxLen at hm;have hR0:Rows S rows0:=(by rw [hrows0];exact zero_rows HKR.out.1.rows d);obtain ⟨n,hn⟩:∃ n,n=id+1:=⟨_,rfl⟩
  have hlast:rows0[id]?=some ⟨0,0,false⟩:=by
   rw [hrows0,List.getElem?_append_right (by omega),List.getElem?_replicate,if_pos (by omega)]
  have HR0:=zh hlast;have HRS:=zh hR0;rw [← hn] at H hc hlen0;have HN:=zh hlen0;have hnl:n<=S.list.length+1:=(by omega);simp only [← hn];have hidn:id<n:=(by omega);clear hv13 hrows0 hlast hR0 hlen0 hle hsub hd0 hdl hkl hin hn;have hrd:∀ w,(rowsA rowK 214 3 (.slice (some ⟨g,0,none⟩) n c) rows0).ho w->w.cell? ⟨g,id*3+2,none⟩=some (.bool false):=fun w h=>rowsA_cell h rowK_len HR0.out (j:=2) rfl
  have HRD:=zh hrd;clear hrd;go_wp2_with (first|refine sL ?_|(refine sS ?_;clear H;intros;rename_i H)|((with_reducible refine isSlice ?_);refine AtSlice.one H rfl rfl rfl rfl rfl rfl rfl rfl rfl ?_;clear H;intro b _ H;simp only [Act.put,puA,puB,puC])|((with_reducible refine isAppend ?_);replace H:=H.empty (A:=rowsA encI 26 1 (.slice none 0 0) []) (rowsA_nil _) (by rw [rowsA_fp'];rfl);refine AtAppend.go (enc:=encI) H rfl rfl rfl rfl rfl (by decide) (by decide) rfl pk rfl (H.at pk) [id] rfl (by simp [flatG,encI]) encI_len encI_one (by simp) ?_;clear H;intro ad8 cp8 _ H;simp only [Act.put,puA,puB,puC]));have HSTART:Hid (RRel S K M w id n (.slice (some ⟨g,0,none⟩) n c) bt (unk rows0*(n+1)+(n-1)) (.slice ad8 (([]:List Nat).length+1) cp8) _):=zh ⟨rows0,[id],HN.out,HRS.out,KStk.one HKR.out.2.1 HR0.out rfl,rfl,.inr (by simp),H.only4 (A:=rowsA encI 26 1 (.slice ad8 (([]:List Nat).length+1) cp8) ([]++[id])) (B:=blk K.t (.cells #[.pointer (some ⟨K.s,0,none⟩),.slice (some ⟨g,0,none⟩) n c] 211)) (C:=rowsA rowK 214 3 (.slice (some ⟨g,0,none⟩) n c) rows0) (D:=blk bt (.cells #[.int .u64 0,.int .i64 0,.bool false] 214)) pk pk pk pk⟩;generalize unk rows0*(n+1)+(n-1)=KK at HSTART
 case' pos =>
  obtain ⟨g,c,hrv,hc,hm⟩:=rowsA_cases (H.get (A:=rowsA rowK 214 3 K.rv K.rows) pk) (by omega);rw [hrv] at H;obtain ⟨r0,hr0⟩:∃ r,K.rows[id]?=some r:=⟨_,zg hin⟩
  have HR0:=zh hr0;have hle:decide ((K.rows.length:Int)<=id)=false:=(by simp;omega);obtain ⟨n,hn⟩:∃ n,K.rows.length=n:=⟨_,rfl⟩
  have HN:=zh hn;rw [hn] at H hle hkl hin hc;have hnl:=hkl;unfold maxLen at hm;clear k1 k2 hd hrv hr0 hK hn hS;go_enter Tryz.func124,Tryz.ntmps124;have hrd:∀ w,(rowsA rowK 214 3 (.slice (some ⟨g,0,none⟩) n c) K.rows).ho w->w.cell? ⟨g,id*3+2,none⟩=some (.bool r0.known):=fun w h=>rowsA_cell h rowK_len HR0.out (j:=2) rfl
  have HRD:=zh hrd;clear hrd;cases hkn:r0.known
  all_goals
   rw [hkn] at HRD;have HKN:=zh hkn;clear hkn
  case' true =>
   go_wp2_with (first|refine sL ?_|(refine sS1 ?_;clear H;intro _ H)|(refine sA ?_;clear H;intro bt _ H)|(go_at_call 38;refine same (len_c _ (H.known HK pk)) ?_));replace H:=H.empty (A:=rowsA encI 26 1 (.slice none 0 0) []) (rowsA_nil _) (by rw [rowsA_fp'];rfl);have HSTART:Hid (RRel S K M w id n (.slice (some ⟨g,0,none⟩) n c) bt (unk K.rows*(n+1)+(n-0)) (.slice none 0 0) _):=zh ⟨K.rows,[],HN.out,HKR.out.1.rows,⟨by simp,by simp,List.Pairwise.nil⟩,rfl,.inl ⟨r0,HR0.out,HKN.out⟩,H.only4 (A:=rowsA encI 26 1 (.slice none 0 0) []) (B:=blk K.t (.cells #[.pointer (some ⟨K.s,0,none⟩),.slice (some ⟨g,0,none⟩) n c] 211)) (C:=rowsA rowK 214 3 (.slice (some ⟨g,0,none⟩) n c) K.rows) (D:=blk bt (.cells #[.int .u64 0,.int .i64 0,.bool false] 214)) pk pk pk pk⟩;generalize unk K.rows*(n+1)+(n-0)=KK at HSTART
  case' false =>
   go_wp2_with (first|refine sL ?_|(refine sS1 ?_;clear H;intro _ H)|(refine sA ?_;clear H;intro bt _ H)|(go_at_call 38;refine same (len_c _ (H.known HK pk)) ?_)|((with_reducible refine isSlice ?_);refine AtSlice.one H rfl rfl rfl rfl rfl rfl rfl rfl rfl ?_;clear H;intro b _ H;simp only [Act.put,puA,puB,puC])|((with_reducible refine isAppend ?_);replace H:=H.empty (A:=rowsA encI 26 1 (.slice none 0 0) []) (rowsA_nil _) (by rw [rowsA_fp'];rfl);refine AtAppend.go (enc:=encI) H rfl rfl rfl rfl rfl (by decide) (by decide) rfl pk rfl (H.at pk) [id] rfl (by simp [flatG,encI]) encI_len encI_one (by simp) ?_;clear H;intro ad8 cp8 _ H;simp only [Act.put,puA,puB,puC]));have HSTART:Hid (RRel S K M w id n (.slice (some ⟨g,0,none⟩) n c) bt (unk K.rows*(n+1)+(n-1)) (.slice ad8 (([]:List Nat).length+1) cp8) _):=zh ⟨K.rows,[id],HN.out,HKR.out.1.rows,KStk.one HKR.out.2.1 HR0.out HKN.out,rfl,.inr (by simp),H.only4 (A:=rowsA encI 26 1 (.slice ad8 (([]:List Nat).length+1) cp8) ([]++[id])) (B:=blk K.t (.cells #[.pointer (some ⟨K.s,0,none⟩),.slice (some ⟨g,0,none⟩) n c] 211)) (C:=rowsA rowK 214 3 (.slice (some ⟨g,0,none⟩) n c) K.rows) (D:=blk bt (.cells #[.int .u64 0,.int .i64 0,.bool false] 214)) pk pk pk pk⟩;generalize unk K.rows*(n+1)+(n-1)=KK at HSTART
  all_goals
   have e2:decide (n<=id)=false:=(by simp;omega);try simp only [e2]
   clear e2
 all_goals
  have e1:decide (S.list.length<id)=false:=(by simp;omega);try simp only [e1]
  clear e1;go_loopg [6] KK (fun k v6 wr=>RRel S K M w id n (.slice (some ⟨g,0,none⟩) n c) bt k v6 wr);case atStart=>exact HSTART.out
  case round =>
   clear H;obtain ⟨rows,stk,hn,hR,hstk,hk,hgoal,H⟩:=hrel;rcases snoc_cases stk with rfl|⟨st,x,rfl⟩
   ·obtain ⟨ad,c6,rfl,_⟩:=rowsA_shape (H.get Pick.here);obtain ⟨r,hr,hrk⟩:∃ r,rows[id]?=some r∧r.known=true:=by rcases hgoal with h|h;exact h;simp at h
    have hre:=(hR id r hr).eq hrk;have HRR:=zh hr;have HR:=zh hR;have HE:=zh hre;have HNN:=zh hn;clear hstk hk hgoal hr hR hrk hre hn;go_wp2_with (first|refine sL ?_|(refine sS ?_;clear H;intros;rename_i H)|((with_reducible refine isLoad ?_);refine AtLoad.rngT (vs:=[.int .u64 r.key,.int .i64 r.lv,.bool r.known]) rfl rfl rfl (rowsA_rng (H.get (A:=rowsA rowK 214 3 (.slice (some ⟨g,0,none⟩) n c) rows) pk) rowK_len HRR.out) rfl ?_;simp only [Act.put,puA,puB,puC]));refine bodyPost_ret (res_row_tmp rfl H rfl pk rfl rfl) rfl ?_;have hfin:=(H.pick2 (A:=blk K.t (.cells #[.pointer (some ⟨K.s,0,none⟩),.slice (some ⟨g,0,none⟩) n c] 211)) (B:=rowsA rowK 214 3 (.slice (some ⟨g,0,none⟩) n c) rows) pk pk)
    refine ⟨⟨K.t,K.s,.slice (some ⟨g,0,none⟩) n c,rows⟩,rfl,rfl,⟨by simp only [HNN.out];exact hnl,HR.out⟩,?_,(ktA_shut (K:=⟨K.t,K.s,.slice (some ⟨g,0,none⟩) n c,rows⟩) hfin).onlyHead⟩;rw [HE.out];rfl
   ·obtain ⟨gs,cs,rfl,hgc,hcm⟩:=rowsA_cases (H.get Pick.here) (by simp);unfold maxLen at hcm;have hxs:=hstk.low x (by simp);obtain ⟨rx,hrx,hux⟩:=hstk.unk x (by simp);have hxn:=gelt hrx;have hsl:=hstk.len;obtain ⟨kd,lt,il,ir,tm,rl,rr,RA⟩:=rule_at HSO.out hR hxs.1 hxn (by omega);simp only [List.length_append,List.length_singleton] at H hgc hsl;have hlk:(st++[x])[st.length]?=some x:=(by simp);have HLK:=zh hlk;have HK0:=zh hk;have HST2:=zh hstk;have HG:=zh hgoal;have HR:=zh hR;have HNN:=zh hn;have HXX:=zh (za hrx hux);have HXB:=zh hxs;have HRA:=zh RA;have hil:=RA.hil;have hir:=RA.hir;have hxid:=hxs.2;have HRU:Hid (∀ w,(stoA K.s lv m S).ho w->Calls Tryz.prog 68 #[.pointer (some ⟨K.s,0,none⟩),.int .i64 (x:Int)] w fun e w'=>e=.returned (.tuple #[.agg #[.int .i64 kd,.int .u8 lt,.int .i64 il,.int .i64 ir,.int .i64 tm],.nilIface])∧St w [] [] w'):=zh fun w h=>by
     obtain ⟨y,hy,he⟩:=RA.rule;have h1:=hxs.1;have:=rule_c hy (x:Int) (by omega) w h;rw [he] at this;exact this
    rw [hn] at hxn;generalize hslen:st.length=sl at *;have HSL:=zh hslen;have hshape:=RA.shape;clear hstk hk hgoal hR RA hlk hn hrx hux hxs;have HSH:=zh hshape;clear hshape;go_wp2_with (first|refine sL ?_|(refine sS ?_;clear H;intros;rename_i H)|((with_reducible refine isLoad ?_);refine AtLoad.cel rfl rfl rfl rfl (rowsA_cell1 (H.get (A:=rowsA encI 26 1 (.slice (some ⟨gs,0,none⟩) (sl+1) cs) (st++[x])) pk) encI_len HLK.out rfl) ?_;simp only [Act.put,puA,puB,puC])|(go_at_call 68;with_reducible refine zm (HRU.out _ (H.known HK pk)) ?_;rintro e wc ⟨rfl,hb⟩;replace H:=H.grew hb.below;clear hb));rcases HSH.out with ⟨z1,z2⟩|⟨z1,z2⟩|⟨z1,z2⟩
    ·have b1:((il:Int) != 0)=false:=(by simp;omega);have b2:((ir:Int) != 0)=false:=(by simp;omega);have Z1:=zh z1;have Z2:=zh z2;clear HSH z1 z2;refine wp_region_h H 16 [] [] (by kernel_rfl) (by kernel_rfl) ?_;apply Exists.intro;refine ⟨fun w1 hw1 HX=>?_,fun bs wr Hr=>?_⟩
     ·refine sG ?_;repeat (first|go_big_quiet_skip|refine sQ ?_|fail|go_big_quiet_step (fail))
      exact wpQuiet_nil rfl
     clear H;have H:=Hr;clear Hr;replace H:=sH H;refine sT ?_;go_wp2_with (first|refine sL ?_|(refine sS ?_;clear H;intros;rename_i H));refine wp_region_h H 16 [] [] (by kernel_rfl) (by kernel_rfl) ?_;apply Exists.intro;refine ⟨fun w1 hw1 HX=>?_,fun bs wr Hr=>?_⟩
     ·refine sG ?_;repeat (first|go_big_quiet_skip|refine sQ ?_|fail|go_big_quiet_step (fail))
      exact wpQuiet_nil rfl
     clear H;have H:=Hr;clear Hr;replace H:=sH H;refine sT ?_;go_wp2_with (first|refine sL ?_|(refine sS ?_;clear H;intros;rename_i H));have hcomp:=HRA.out.comp (.inl Z1.out) (.inl Z2.out);have HC:Hid (∀ w,(ktA ⟨K.t,K.s,.slice (some ⟨g,0,none⟩) n c,rows⟩).ho w->deA.ho w->Calls Tryz.prog 150 #[.pointer (some ⟨K.t,0,none⟩),.agg #[.int .i64 kd,.int .u8 lt,.int .i64 il,.int .i64 ir,.int .i64 tm]] w fun e w'=>e=.returned (.agg #[.int .u64 (rowOf S x).key,.int .i64 (rowOf S x).lv,.bool true])∧St w [] [] w'):=zh fun w h1 h2=>by
      have:=compute_c (K:=⟨K.t,K.s,.slice (some ⟨g,0,none⟩) n c,rows⟩) kd lt _ _ tm HRA.out.hkd HRA.out.hlt HRA.out.htm HRA.out.hl HRA.out.hr HRA.out.hbl.1 HRA.out.hbr.1 HRA.out.hbl.2 HRA.out.hbr.2 w h1 h2;rw [hcomp] at this;exact this
     clear hcomp;refine wp_region_h H 8 [] [] (by kernel_rfl) (by kernel_rfl) ?_;apply Exists.intro;refine ⟨fun w1 hw1 HX=>?_,fun bs wr Hr=>?_⟩
     ·refine sG ?_;repeat (first|refine sQ ?_|go_big_quiet_step ((go_at_call 150;with_reducible exact quiet_st_x (HC.out _ ((ktA_shut (K:=⟨K.t,K.s,.slice (some ⟨g,0,none⟩) n c,rows⟩) ((HX _).pick2 (A:=blk K.t (.cells #[.pointer (some ⟨K.s,0,none⟩),.slice (some ⟨g,0,none⟩) n c] 211)) (B:=rowsA rowK 214 3 (.slice (some ⟨g,0,none⟩) n c) rows) pk pk)).ho _ List.mem_cons_self) ((HX _).known HK pk))))|go_big_quiet_step (fail))
      exact wpQuiet_nil rfl
     clear H;have H:=Hr;clear Hr;replace H:=sH H;refine sT ?_;go_wp2_with (first|refine sL ?_|(refine sS ?_;clear H;intros;rename_i H)|((with_reducible refine isStore ?_);refine AtStore.rowEl (enc:=rowK) H rfl rfl rfl rfl rfl rfl (xs:=rows) pk rowK_len (i:=x) (by rw [HNN.out];exact hxn) rfl (rowOf S x) rfl ?_;clear H;intro _ H;simp only [Act.put,puA,puB,puC]));have hH:Hid (St w M _ _):=zh ((H.pick (A:=rowsA encI 26 1 (.slice (some ⟨gs,0,none⟩) (sl+1) cs) (st++[x])) pk).cut encI_len HSL.out);go_roundg (unk (rows.set x (rowOf S x))*(n+1)+(n-st.length));case measure =>
      have hus:=unk_set HXX.out.1 HXX.out.2 (z:=rowOf S x) rfl;have hmul:unk rows*(n+1)=unk (rows.set x (rowOf S x))*(n+1)+(n+1):=(by rw [← hus,Nat.add_mul,Nat.one_mul]);rw [← HK0.out];simp only [List.length_append,List.length_singleton,HSL.out];omega
     case rel =>
      refine ⟨rows.set x (rowOf S x),st,by rw [List.length_set];exact HNN.out,HR.out.set HXB.out.1 (by omega),HST2.out.pop,rfl,?_,?_⟩
      ·by_cases hix:x=id
       ·subst hix;exact .inl ⟨rowOf S x,List.getElem?_set_self (by rw [HNN.out];exact hxn),rfl⟩
       ·rcases HG.out with ⟨r,h1,h2⟩|h
        ·exact .inl ⟨r,by rw [List.getElem?_set_ne hix];exact h1,h2⟩
        ·rcases List.mem_append.1 h with h|h
         ·exact .inr h
         ·simp at h;exact absurd h.symm hix
      ·exact hH.out.only4 (A:=rowsA encI 26 1 (.slice (some ⟨gs,0,none⟩) sl cs) st) (B:=blk K.t (.cells #[.pointer (some ⟨K.s,0,none⟩),.slice (some ⟨g,0,none⟩) n c] 211)) (C:=rowsA rowK 214 3 (.slice (some ⟨g,0,none⟩) n c) (rows.set x (rowOf S x))) (D:=blk bt (.cells #[.int .u64 0,.int .i64 0,.bool false] 214)) pk pk pk pk
    ·have b1:((il:Int) != 0)=true:=(by simp;omega);have b2:((ir:Int) != 0)=true:=(by simp;omega);have Z1:=zh z1;have Z2:=zh z2;clear HSH z1 z2;cases hkl:rl.known with
     |false =>
      have HU:=zh hkl;refine wp_region_h H 16 [] [] (by kernel_rfl) (by kernel_rfl) ?_;apply Exists.intro;refine ⟨fun w1 hw1 HX=>?_,fun bs wr Hr=>?_⟩
      ·refine sG ?_;repeat (first|go_big_quiet_skip|refine sQ ?_|((with_reducible refine isQLoad ?_);refine QtLoad.cel rfl rfl rfl rfl (fun y=>rowsA_cell ((HX y).get (A:=rowsA rowK 214 3 (.slice (some ⟨g,0,none⟩) n c) rows) pk) rowK_len HRA.out.hl (j:=2) rfl) ?_;simp only [Act.put,puA,puB,puC])|go_big_quiet_step (fail))
       exact wpQuiet_nil rfl
      clear H;have H:=Hr;clear Hr;replace H:=sH H;refine sT ?_;clear hkl;go_wp2_with (first|refine sL ?_|(refine sS ?_;clear H;intros;rename_i H)|((with_reducible refine isSlice ?_);refine AtSlice.one H rfl rfl rfl rfl rfl rfl rfl rfl rfl ?_;clear H;intro b _ H;simp only [Act.put,puA,puB,puC])|((with_reducible refine isAppend ?_);refine AtAppend.go (enc:=encI) H rfl rfl rfl rfl rfl (by decide) (by decide) rfl pk rfl (H.at pk) [il] rfl (by simp [flatG,encI]) encI_len encI_one (by simp;omega) ?_;clear H;intro ad9 cp9 _ H;simp only [Act.put,puA,puB,puC]));have hH:Hid (St w M _ _):=zh (H.only4 (A:=rowsA encI 26 1 (.slice ad9 ((st++[x]).length+1) cp9) (st++[x]++[il])) (B:=blk K.t (.cells #[.pointer (some ⟨K.s,0,none⟩),.slice (some ⟨g,0,none⟩) n c] 211)) (C:=rowsA rowK 214 3 (.slice (some ⟨g,0,none⟩) n c) rows) (D:=blk bt (.cells #[.int .u64 0,.int .i64 0,.bool false] 214)) pk pk pk pk);go_roundg (unk rows*(n+1)+(n-(st++[x]++[il]).length));case measure =>
       rw [← HK0.out];simp only [List.length_append,List.length_singleton,HSL.out];omega
      case rel=>exact ⟨rows,st++[x]++[il],HNN.out,HR.out,HST2.out.push (y:=il) (by have:=Z1.out;omega) HRA.out.hil HRA.out.hl HU.out,rfl,HG.out.imp (fun h=>h) (fun h=>List.mem_append.2 (.inl h)),by have:=hH.out;simp only [List.length_append,List.length_singleton,HSL.out] at this;exact this⟩
     |true =>
      have HKL:=zh hkl;refine wp_region_h H 16 [] [] (by kernel_rfl) (by kernel_rfl) ?_;apply Exists.intro;refine ⟨fun w1 hw1 HX=>?_,fun bs wr Hr=>?_⟩
      ·refine sG ?_;repeat (first|go_big_quiet_skip|refine sQ ?_|((with_reducible refine isQLoad ?_);refine QtLoad.cel rfl rfl rfl rfl (fun y=>rowsA_cell ((HX y).get (A:=rowsA rowK 214 3 (.slice (some ⟨g,0,none⟩) n c) rows) pk) rowK_len HRA.out.hl (j:=2) rfl) ?_;simp only [Act.put,puA,puB,puC])|go_big_quiet_step (fail))
       exact wpQuiet_nil rfl
      clear H;have H:=Hr;clear Hr;replace H:=sH H;refine sT ?_;go_wp2_with (first|refine sL ?_|(refine sS ?_;clear H;intros;rename_i H));clear hkl;cases hkr:rr.known with
      |false =>
       have HU:=zh hkr;refine wp_region_h H 16 [] [] (by kernel_rfl) (by kernel_rfl) ?_;apply Exists.intro;refine ⟨fun w1 hw1 HX=>?_,fun bs wr Hr=>?_⟩
       ·refine sG ?_;repeat (first|go_big_quiet_skip|refine sQ ?_|((with_reducible refine isQLoad ?_);refine QtLoad.cel rfl rfl rfl rfl (fun y=>rowsA_cell ((HX y).get (A:=rowsA rowK 214 3 (.slice (some ⟨g,0,none⟩) n c) rows) pk) rowK_len HRA.out.hr (j:=2) rfl) ?_;simp only [Act.put,puA,puB,puC])|go_big_quiet_step (fail))
        exact wpQuiet_nil rfl
       clear H;have H:=Hr;clear Hr;replace H:=sH H;refine sT ?_;clear hkr;go_wp2_with (first|refine sL ?_|(refine sS ?_;clear H;intros;rename_i H)|((with_reducible refine isSlice ?_);refine AtSlice.one H rfl rfl rfl rfl rfl rfl rfl rfl rfl ?_;clear H;intro b _ H;simp only [Act.put,puA,puB,puC])|((with_reducible refine isAppend ?_);refine AtAppend.go (enc:=encI) H rfl rfl rfl rfl rfl (by decide) (by decide) rfl pk rfl (H.at pk) [ir] rfl (by simp [flatG,encI]) encI_len encI_one (by simp;omega) ?_;clear H;intro ad9 cp9 _ H;simp only [Act.put,puA,puB,puC]));have hH:Hid (St w M _ _):=zh (H.only4 (A:=rowsA encI 26 1 (.slice ad9 ((st++[x]).length+1) cp9) (st++[x]++[ir])) (B:=blk K.t (.cells #[.pointer (some ⟨K.s,0,none⟩),.slice (some ⟨g,0,none⟩) n c] 211)) (C:=rowsA rowK 214 3 (.slice (some ⟨g,0,none⟩) n c) rows) (D:=blk bt (.cells #[.int .u64 0,.int .i64 0,.bool false] 214)) pk pk pk pk);go_roundg (unk rows*(n+1)+(n-(st++[x]++[ir]).length));case measure =>
        rw [← HK0.out];simp only [List.length_append,List.length_singleton,HSL.out];omega
       case rel=>exact ⟨rows,st++[x]++[ir],HNN.out,HR.out,HST2.out.push (y:=ir) (by have:=Z2.out;omega) HRA.out.hir HRA.out.hr HU.out,rfl,HG.out.imp (fun h=>h) (fun h=>List.mem_append.2 (.inl h)),by have:=hH.out;simp only [List.length_append,List.length_singleton,HSL.out] at this;exact this⟩
      |true =>
       have HKR:=zh hkr;refine wp_region_h H 16 [] [] (by kernel_rfl) (by kernel_rfl) ?_;apply Exists.intro;refine ⟨fun w1 hw1 HX=>?_,fun bs wr Hr=>?_⟩
       ·refine sG ?_;repeat (first|go_big_quiet_skip|refine sQ ?_|((with_reducible refine isQLoad ?_);refine QtLoad.cel rfl rfl rfl rfl (fun y=>rowsA_cell ((HX y).get (A:=rowsA rowK 214 3 (.slice (some ⟨g,0,none⟩) n c) rows) pk) rowK_len HRA.out.hr (j:=2) rfl) ?_;simp only [Act.put,puA,puB,puC])|go_big_quiet_step (fail))
        exact wpQuiet_nil rfl
       clear H;have H:=Hr;clear Hr;replace H:=sH H;refine sT ?_;go_wp2_with (first|refine sL ?_|(refine sS ?_;clear H;intros;rename_i H));clear hkr;have hcomp:=HRA.out.comp (.inr HKL.out) (.inr HKR.out);have HC:Hid (∀ w,(ktA ⟨K.t,K.s,.slice (some ⟨g,0,none⟩) n c,rows⟩).ho w->deA.ho w->Calls Tryz.prog 150 #[.pointer (some ⟨K.t,0,none⟩),.agg #[.int .i64 kd,.int .u8 lt,.int .i64 il,.int .i64 ir,.int .i64 tm]] w fun e w'=>e=.returned (.agg #[.int .u64 (rowOf S x).key,.int .i64 (rowOf S x).lv,.bool true])∧St w [] [] w'):=zh fun w h1 h2=>by
        have:=compute_c (K:=⟨K.t,K.s,.slice (some ⟨g,0,none⟩) n c,rows⟩) kd lt _ _ tm HRA.out.hkd HRA.out.hlt HRA.out.htm HRA.out.hl HRA.out.hr HRA.out.hbl.1 HRA.out.hbr.1 HRA.out.hbl.2 HRA.out.hbr.2 w h1 h2;rw [hcomp] at this;exact this
       clear hcomp;refine wp_region_h H 8 [] [] (by kernel_rfl) (by kernel_rfl) ?_;apply Exists.intro;refine ⟨fun w1 hw1 HX=>?_,fun bs wr Hr=>?_⟩
       ·refine sG ?_;repeat (first|refine sQ ?_|go_big_quiet_step ((go_at_call 150;with_reducible exact quiet_st_x (HC.out _ ((ktA_shut (K:=⟨K.t,K.s,.slice (some ⟨g,0,none⟩) n c,rows⟩) ((HX _).pick2 (A:=blk K.t (.cells #[.pointer (some ⟨K.s,0,none⟩),.slice (some ⟨g,0,none⟩) n c] 211)) (B:=rowsA rowK 214 3 (.slice (some ⟨g,0,none⟩) n c) rows) pk pk)).ho _ List.mem_cons_self) ((HX _).known HK pk))))|go_big_quiet_step (fail))
        exact wpQuiet_nil rfl
       clear H;have H:=Hr;clear Hr;replace H:=sH H;refine sT ?_;go_wp2_with (first|refine sL ?_|(refine sS ?_;clear H;intros;rename_i H)|((with_reducible refine isStore ?_);refine AtStore.rowEl (enc:=rowK) H rfl rfl rfl rfl rfl rfl (xs:=rows) pk rowK_len (i:=x) (by rw [HNN.out];exact hxn) rfl (rowOf S x) rfl ?_;clear H;intro _ H;simp only [Act.put,puA,puB,puC]));have hH:Hid (St w M _ _):=zh ((H.pick (A:=rowsA encI 26 1 (.slice (some ⟨gs,0,none⟩) (sl+1) cs) (st++[x])) pk).cut encI_len HSL.out);go_roundg (unk (rows.set x (rowOf S x))*(n+1)+(n-st.length));case measure =>
        have hus:=unk_set HXX.out.1 HXX.out.2 (z:=rowOf S x) rfl;have hmul:unk rows*(n+1)=unk (rows.set x (rowOf S x))*(n+1)+(n+1):=(by rw [← hus,Nat.add_mul,Nat.one_mul]);rw [← HK0.out];simp only [List.length_append,List.length_singleton,HSL.out];omega
       case rel =>
        refine ⟨rows.set x (rowOf S x),st,by rw [List.length_set];exact HNN.out,HR.out.set HXB.out.1 (by omega),HST2.out.pop,rfl,?_,?_⟩
        ·by_cases hix:x=id
         ·subst hix;exact .inl ⟨rowOf S x,List.getElem?_set_self (by rw [HNN.out];exact hxn),rfl⟩
         ·rcases HG.out with ⟨r,h1,h2⟩|h
          ·exact .inl ⟨r,by rw [List.getElem?_set_ne hix];exact h1,h2⟩
          ·rcases List.mem_append.1 h with h|h
           ·exact .inr h
           ·simp at h;exact absurd h.symm hix
        ·exact hH.out.only4 (A:=rowsA encI 26 1 (.slice (some ⟨gs,0,none⟩) sl cs) st) (B:=blk K.t (.cells #[.pointer (some ⟨K.s,0,none⟩),.slice (some ⟨g,0,none⟩) n c] 211)) (C:=rowsA rowK 214 3 (.slice (some ⟨g,0,none⟩) n c) (rows.set x (rowOf S x))) (D:=blk bt (.cells #[.int .u64 0,.int .i64 0,.bool false] 214)) pk pk pk pk
    ·have b1:((il:Int) != 0)=true:=(by simp;omega);have b2:((ir:Int) != 0)=false:=(by simp;omega);have Z1:=zh z1;have Z2:=zh z2;clear HSH z1 z2;cases hkl:rl.known with
     |false =>
      have HU:=zh hkl;refine wp_region_h H 16 [] [] (by kernel_rfl) (by kernel_rfl) ?_;apply Exists.intro;refine ⟨fun w1 hw1 HX=>?_,fun bs wr Hr=>?_⟩
      ·refine sG ?_;repeat (first|go_big_quiet_skip|refine sQ ?_|((with_reducible refine isQLoad ?_);refine QtLoad.cel rfl rfl rfl rfl (fun y=>rowsA_cell ((HX y).get (A:=rowsA rowK 214 3 (.slice (some ⟨g,0,none⟩) n c) rows) pk) rowK_len HRA.out.hl (j:=2) rfl) ?_;simp only [Act.put,puA,puB,puC])|go_big_quiet_step (fail))
       exact wpQuiet_nil rfl
      clear H;have H:=Hr;clear Hr;replace H:=sH H;refine sT ?_;clear hkl;go_wp2_with (first|refine sL ?_|(refine sS ?_;clear H;intros;rename_i H)|((with_reducible refine isSlice ?_);refine AtSlice.one H rfl rfl rfl rfl rfl rfl rfl rfl rfl ?_;clear H;intro b _ H;simp only [Act.put,puA,puB,puC])|((with_reducible refine isAppend ?_);refine AtAppend.go (enc:=encI) H rfl rfl rfl rfl rfl (by decide) (by decide) rfl pk rfl (H.at pk) [il] rfl (by simp [flatG,encI]) encI_len encI_one (by simp;omega) ?_;clear H;intro ad9 cp9 _ H;simp only [Act.put,puA,puB,puC]));have hH:Hid (St w M _ _):=zh (H.only4 (A:=rowsA encI 26 1 (.slice ad9 ((st++[x]).length+1) cp9) (st++[x]++[il])) (B:=blk K.t (.cells #[.pointer (some ⟨K.s,0,none⟩),.slice (some ⟨g,0,none⟩) n c] 211)) (C:=rowsA rowK 214 3 (.slice (some ⟨g,0,none⟩) n c) rows) (D:=blk bt (.cells #[.int .u64 0,.int .i64 0,.bool false] 214)) pk pk pk pk);go_roundg (unk rows*(n+1)+(n-(st++[x]++[il]).length));case measure =>
       rw [← HK0.out];simp only [List.length_append,List.length_singleton,HSL.out];omega
      case rel=>exact ⟨rows,st++[x]++[il],HNN.out,HR.out,HST2.out.push (y:=il) (by have:=Z1.out;omega) HRA.out.hil HRA.out.hl HU.out,rfl,HG.out.imp (fun h=>h) (fun h=>List.mem_append.2 (.inl h)),by have:=hH.out;simp only [List.length_append,List.length_singleton,HSL.out] at this;exact this⟩
     |true =>
      have HKL:=zh hkl;refine wp_region_h H 16 [] [] (by kernel_rfl) (by kernel_rfl) ?_;apply Exists.intro;refine ⟨fun w1 hw1 HX=>?_,fun bs wr Hr=>?_⟩
      ·refine sG ?_;repeat (first|go_big_quiet_skip|refine sQ ?_|((with_reducible refine isQLoad ?_);refine QtLoad.cel rfl rfl rfl rfl (fun y=>rowsA_cell ((HX y).get (A:=rowsA rowK 214 3 (.slice (some ⟨g,0,none⟩) n c) rows) pk) rowK_len HRA.out.hl (j:=2) rfl) ?_;simp only [Act.put,puA,puB,puC])|go_big_quiet_step (fail))
       exact wpQuiet_nil rfl
      clear H;have H:=Hr;clear Hr;replace H:=sH H;refine sT ?_;go_wp2_with (first|refine sL ?_|(refine sS ?_;clear H;intros;rename_i H));clear hkl;refine wp_region_h H 16 [] [] (by kernel_rfl) (by kernel_rfl) ?_;apply Exists.intro;refine ⟨fun w1 hw1 HX=>?_,fun bs wr Hr=>?_⟩
      ·refine sG ?_;repeat (first|go_big_quiet_skip|refine sQ ?_|fail|go_big_quiet_step (fail))
       exact wpQuiet_nil rfl
      clear H;have H:=Hr;clear Hr;replace H:=sH H;refine sT ?_;go_wp2_with (first|refine sL ?_|(refine sS ?_;clear H;intros;rename_i H));have hcomp:=HRA.out.comp (.inr HKL.out) (.inl Z2.out);have HC:Hid (∀ w,(ktA ⟨K.t,K.s,.slice (some ⟨g,0,none⟩) n c,rows⟩).ho w->deA.ho w->Calls Tryz.prog 150 #[.pointer (some ⟨K.t,0,none⟩),.agg #[.int .i64 kd,.int .u8 lt,.int .i64 il,.int .i64 ir,.int .i64 tm]] w fun e w'=>e=.returned (.agg #[.int .u64 (rowOf S x).key,.int .i64 (rowOf S x).lv,.bool true])∧St w [] [] w'):=zh fun w h1 h2=>by
       have:=compute_c (K:=⟨K.t,K.s,.slice (some ⟨g,0,none⟩) n c,rows⟩) kd lt _ _ tm HRA.out.hkd HRA.out.hlt HRA.out.htm HRA.out.hl HRA.out.hr HRA.out.hbl.1 HRA.out.hbr.1 HRA.out.hbl.2 HRA.out.hbr.2 w h1 h2;rw [hcomp] at this;exact this
      clear hcomp;refine wp_region_h H 8 [] [] (by kernel_rfl) (by kernel_rfl) ?_;apply Exists.intro;refine ⟨fun w1 hw1 HX=>?_,fun bs wr Hr=>?_⟩
      ·refine sG ?_;repeat (first|refine sQ ?_|go_big_quiet_step ((go_at_call 150;with_reducible exact quiet_st_x (HC.out _ ((ktA_shut (K:=⟨K.t,K.s,.slice (some ⟨g,0,none⟩) n c,rows⟩) ((HX _).pick2 (A:=blk K.t (.cells #[.pointer (some ⟨K.s,0,none⟩),.slice (some ⟨g,0,none⟩) n c] 211)) (B:=rowsA rowK 214 3 (.slice (some ⟨g,0,none⟩) n c) rows) pk pk)).ho _ List.mem_cons_self) ((HX _).known HK pk))))|go_big_quiet_step (fail))
       exact wpQuiet_nil rfl
      clear H;have H:=Hr;clear Hr;replace H:=sH H;refine sT ?_;go_wp2_with (first|refine sL ?_|(refine sS ?_;clear H;intros;rename_i H)|((with_reducible refine isStore ?_);refine AtStore.rowEl (enc:=rowK) H rfl rfl rfl rfl rfl rfl (xs:=rows) pk rowK_len (i:=x) (by rw [HNN.out];exact hxn) rfl (rowOf S x) rfl ?_;clear H;intro _ H;simp only [Act.put,puA,puB,puC]));have hH:Hid (St w M _ _):=zh ((H.pick (A:=rowsA encI 26 1 (.slice (some ⟨gs,0,none⟩) (sl+1) cs) (st++[x])) pk).cut encI_len HSL.out);go_roundg (unk (rows.set x (rowOf S x))*(n+1)+(n-st.length));case measure =>
       have hus:=unk_set HXX.out.1 HXX.out.2 (z:=rowOf S x) rfl;have hmul:unk rows*(n+1)=unk (rows.set x (rowOf S x))*(n+1)+(n+1):=(by rw [← hus,Nat.add_mul,Nat.one_mul]);rw [← HK0.out];simp only [List.length_append,List.length_singleton,HSL.out];omega
      case rel =>
       refine ⟨rows.set x (rowOf S x),st,by rw [List.length_set];exact HNN.out,HR.out.set HXB.out.1 (by omega),HST2.out.pop,rfl,?_,?_⟩
       ·by_cases hix:x=id
        ·subst hix;exact .inl ⟨rowOf S x,List.getElem?_set_self (by rw [HNN.out];exact hxn),rfl⟩
        ·rcases HG.out with ⟨r,h1,h2⟩|h
         ·exact .inl ⟨r,by rw [List.getElem?_set_ne hix];exact h1,h2⟩
         ·rcases List.mem_append.1 h with h|h
          ·exact .inr h
          ·simp at h;exact absurd h.symm hix
       ·exact hH.out.only4 (A:=rowsA encI 26 1 (.slice (some ⟨gs,0,none⟩) sl cs) st) (B:=blk K.t (.cells #[.pointer (some ⟨K.s,0,none⟩),.slice (some ⟨g,0,none⟩) n c] 211)) (C:=rowsA rowK 214 3 (.slice (some ⟨g,0,none⟩) n c) (rows.set x (rowOf S x))) (D:=blk bt (.cells #[.int .u64 0,.int .i64 0,.bool false] 214)) pk pk pk pk
end
section
open Go.RowKit Go.Maps
attribute [local go_sem] InGr
section
variable {w0 w:World} {M:List Nat} {L R K R':List As} {A B:As}
theorem St.sepK {w0 w:World} {M:List Nat} {L R K R':List As} {A B:As} (h:St w0 M L w) (k:Ks w0 M K) (hp:Pick L A R) (hq:Pick K B R'):(A.sep B).ho w:=by
 rw [sep_ho];refine ⟨h.get hp,h.known k hq,fun b hb hm=>?_⟩;rcases h.own A hp.mem b hb with h'|h'
 ·have:=B.lt w0 (k.ho B hq.mem) b hm;omega
 ·exact k.apart B hq.mem b hm h'
end
def lvlV:Option Nat->Value
 |none=>.tuple #[.int .i64 0,.iface 73 (.int .i64 4)]
 |some a=>.tuple #[.int .i64 a,.nilIface]
abbrev KPost (S:Sto) (K:Kt) (v:Value) (M:List Nat) (w:World) (e:Ending) (w':World):Prop :=
 ∃ K':Kt,K'.t=K.t∧K'.s=K.s∧KtOk S K'∧e=.returned v∧St w M [ktA K'] w'
theorem key_c {S:Sto} {K:Kt} {lv:Value} {m id:Nat} (hS:S.Ok) (hK:KtOk S K) (h1:1<=id) (h2:id<=S.list.length) (w:World) (h:((ktA K).sep ((stoA K.s lv m S).sep deA)).ho w) :
  Calls Tryz.prog 98 #[.pointer (some ⟨K.t,0,none⟩),.int .i64 id] w (KPost S K (.tuple #[.int .u64 (S.tr id).key,.nilIface]) (ktA K).fp w):=by
 have HR:Hid (∀ w,((ktA K).sep ((stoA K.s lv m S).sep deA)).ho w->Calls Tryz.prog 124 #[.pointer (some ⟨K.t,0,none⟩),.int .i64 id] w (RowPost S K id (ktA K).fp w)):=zh fun w h=>row_c hS hK h1 h2 w h
 rw [sep_ho] at h;obtain ⟨k1,k2,hd⟩:=h;have H:=St.one k1;have HK:Ks w (ktA K).fp [(stoA K.s lv m S).sep deA]:=⟨by simpa using k2,by simpa using fun b hb hm=>hd b hm hb⟩
 clear k1 k2 hd;go_enter Tryz.func98,Tryz.ntmps98;go_wp2_with (first|refine sL ?_|(refine sS ?_;clear H;intros;rename_i H)|(go_at_call 124;with_reducible refine zm (HR.out _ (H.sepK HK pk pk)) ?_;rintro e wc ⟨K',x1,x2,x3,rfl,hb⟩;have HX:=zh (za x1 (za x2 x3));clear x1 x2 x3;replace H:=zn ((H.pick pk).call hb);clear hb));go_ret2;exact ⟨K',HX.out.1,HX.out.2.1,HX.out.2.2,rfl,H.only (A:=ktA K') pk⟩
theorem level_c {S:Sto} {K:Kt} {lv:Value} {m id:Nat} (hS:S.Ok) (hK:KtOk S K) (h1:1<=id) (h2:id<=S.list.length) (w:World) (h:((ktA K).sep ((stoA K.s lv m S).sep deA)).ho w) :
  Calls Tryz.prog 122 #[.pointer (some ⟨K.t,0,none⟩),.int .i64 id] w (KPost S K (lvlV (S.tr id).lev) (ktA K).fp w):=by
 have HR:Hid (∀ w,((ktA K).sep ((stoA K.s lv m S).sep deA)).ho w->Calls Tryz.prog 124 #[.pointer (some ⟨K.t,0,none⟩),.int .i64 id] w (fun e w'=>∃ K':Kt,K'.t=K.t∧K'.s=K.s∧KtOk S K'∧e=.returned (.tuple #[.agg #[.int .u64 (S.tr id).key,.int .i64 (lvI (S.tr id).lev),.bool true],.nilIface])∧St w (ktA K).fp [ktA K'] w')):=zh fun w h=>row_c hS hK h1 h2 w h
 rw [sep_ho] at h;obtain ⟨k1,k2,hd⟩:=h;have H:=St.one k1;have HK:Ks w (ktA K).fp [(stoA K.s lv m S).sep deA]:=⟨by simpa using k2,by simpa using fun b hb hm=>hd b hm hb⟩
 clear k1 k2 hd;generalize (S.tr id).key=q at *;cases hl:(S.tr id).lev with
 |none =>
  rw [hl] at HR;simp only [lvI] at HR;unfold lvlV;clear hl;go_enter Tryz.func122,Tryz.ntmps122;go_wp2_with (first|refine sL ?_|(refine sS ?_;clear H;intros;rename_i H)|(go_at_call 124;with_reducible refine zm (HR.out _ (H.sepK HK pk pk)) ?_;rintro e wc ⟨K',x1,x2,x3,rfl,hb⟩;have HX:=zh (za x1 (za x2 x3));clear x1 x2 x3;replace H:=zn ((H.pick pk).call hb);clear hb));go_ret2;exact ⟨K',HX.out.1,HX.out.2.1,HX.out.2.2,rfl,H.only (A:=ktA K') pk⟩
 |some a =>
  rw [hl] at HR;simp only [lvI] at HR;have hd:decide ((a:Int)<0)=false:=(by simp);unfold lvlV;clear hl;go_enter Tryz.func122,Tryz.ntmps122;go_wp2_with (first|refine sL ?_|(refine sS ?_;clear H;intros;rename_i H)|(go_at_call 124;with_reducible refine zm (HR.out _ (H.sepK HK pk pk)) ?_;rintro e wc ⟨K',x1,x2,x3,rfl,hb⟩;have HX:=zh (za x1 (za x2 x3));clear x1 x2 x3;replace H:=zn ((H.pick pk).call hb);clear hb));go_ret2;exact ⟨K',HX.out.1,HX.out.2.1,HX.out.2.2,rfl,H.only (A:=ktA K') pk⟩
structure Px where
 p:Nat
 s:Nat
 lv:Value
 m:Nat
 S:Sto
 K:Kt
def pA (X:Px):As:=(blk X.p (.cells #[.pointer (some ⟨X.s,0,none⟩),.pointer (some ⟨X.K.t,0,none⟩)] 119)).sep ((ktA X.K).sep (stoA X.s X.lv X.m X.S))
theorem pA_open {X:Px} {w0 w:World} {M:List Nat} {R:List As} (h:St w0 M (pA X::R) w):St w0 M (blk X.p (.cells #[.pointer (some ⟨X.s,0,none⟩),.pointer (some ⟨X.K.t,0,none⟩)] 119)::ktA X.K::stoA X.s X.lv X.m X.S::R) w:=by
 have h1:=h.sep;have h2:=(h1.pick (.there .here)).sep;exact h2.pick (.there (.there .here))
theorem pA_shut {X:Px} {w0 w:World} {M:List Nat} {R:List As} (h:St w0 M (blk X.p (.cells #[.pointer (some ⟨X.s,0,none⟩),.pointer (some ⟨X.K.t,0,none⟩)] 119)::ktA X.K::stoA X.s X.lv X.m X.S::R) w):St w0 M (pA X::R) w:=by
 have h1:=(h.pick2 (.there .here) (.there .here)).join;exact (h1.pick (.there .here)).join
theorem pA_ks {X:Px} {w:World} (h:(pA X).ho w):Ks w [] [blk X.p (.cells #[.pointer (some ⟨X.s,0,none⟩),.pointer (some ⟨X.K.t,0,none⟩)] 119),ktA X.K,stoA X.s X.lv X.m X.S]:=by
 have k:=(Ks.one h).sep;have k2:Ks w [] [(ktA X.K).sep (stoA X.s X.lv X.m X.S),blk X.p (.cells #[.pointer (some ⟨X.s,0,none⟩),.pointer (some ⟨X.K.t,0,none⟩)] 119)] :=
  ⟨fun A hA=>k.ho A (by simp at hA ⊢;rcases hA with h|h <;> simp [h]),fun A hA=>k.apart A (by simp at hA ⊢;rcases hA with h|h <;> simp [h])⟩
 have k3:=k2.sep;exact ⟨fun A hA=>k3.ho A (by simp at hA ⊢;rcases hA with h|h|h <;> simp [h]),fun A hA=>k3.apart A (by simp at hA ⊢;rcases hA with h|h|h <;> simp [h])⟩
attribute [irreducible] pA
theorem pA_c0 {X:Px} {w:World} (h:(pA X).ho w):w.cell? ⟨X.p,0,none⟩=some (.pointer (some ⟨X.s,0,none⟩)):=by
 have:=(pA_ks h).ho (blk X.p (.cells #[.pointer (some ⟨X.s,0,none⟩),.pointer (some ⟨X.K.t,0,none⟩)] 119)) (by simp);rw [blk_ho] at this;rw [cell_of_row w _ 0 _ _ _ this];rfl
theorem pA_c1 {X:Px} {w:World} (h:(pA X).ho w):w.cell? ⟨X.p,1,none⟩=some (.pointer (some ⟨X.K.t,0,none⟩)):=by
 have:=(pA_ks h).ho (blk X.p (.cells #[.pointer (some ⟨X.s,0,none⟩),.pointer (some ⟨X.K.t,0,none⟩)] 119)) (by simp);rw [blk_ho] at this;rw [cell_of_row w _ 1 _ _ _ this];rfl
theorem pA_sto {X:Px} {w:World} (h:(pA X).ho w):(stoA X.s X.lv X.m X.S).ho w:=(pA_ks h).ho _ (by simp)
structure PxOk (X:Px):Prop where
 ok:X.S.Ok
 kt:KtOk X.S X.K
 s:X.K.s=X.s
structure Px.Ext (X X':Px):Prop where
 p:X'.p=X.p
 s:X'.s=X.s
 t:X'.K.t=X.K.t
 le:X.S.Le X'.S
theorem Px.Ext.refl (X:Px):X.Ext X:=⟨rfl,rfl,rfl,.refl _⟩
theorem Px.Ext.trans {X Y Z:Px} (h:X.Ext Y) (k:Y.Ext Z):X.Ext Z:=⟨k.p.trans h.p,k.s.trans h.s,k.t.trans h.t,h.le.trans k.le⟩
abbrev PPost (X:Px) (v:Value) (M:List Nat) (w:World) (e:Ending) (w':World):Prop :=
 ∃ X':Px,X.Ext X'∧PxOk X'∧X'.S=X.S∧e=.returned v∧St w M [pA X'] w'
theorem kt_in {X:Px} {f:FuncId} {args:Array Value} {v:Value} {w:World} (hX:PxOk X) (h:((pA X).sep deA).ho w) (hc:((ktA X.K).sep ((stoA X.K.s X.lv X.m X.S).sep deA)).ho w->Calls Tryz.prog f args w (KPost X.S X.K v (ktA X.K).fp w)):Calls Tryz.prog f args w (PPost X v (pA X).fp w):=by
 rw [sep_ho] at h;obtain ⟨k1,k2,hd⟩:=h;have H:=pA_open (St.one k1);have HK:Ks w (pA X).fp [deA]:=⟨by simpa using k2,by simpa using fun b hb hm=>hd b hm hb⟩
 have hs:=(H.pick2 (A:=ktA X.K) (B:=stoA X.s X.lv X.m X.S) pk pk).ho;have hdis:=(H.pick2 (A:=ktA X.K) (B:=stoA X.s X.lv X.m X.S) pk pk).dis;have hkd:=H.sepK (A:=ktA X.K) (B:=deA) HK pk pk;have hsd:=H.sepK (A:=stoA X.s X.lv X.m X.S) (B:=deA) HK pk pk;have hks:∀ b∈(ktA X.K).fp,b ∉ (stoA X.s X.lv X.m X.S).fp:=(List.pairwise_cons.1 hdis).1 _ (by simp);have hall:((ktA X.K).sep ((stoA X.K.s X.lv X.m X.S).sep deA)).ho w:=by
  rw [hX.s,sep_ho];refine ⟨hs _ (by simp),hsd,fun b hb hm=>?_⟩;rw [sep_fp] at hm;rw [sep_ho] at hkd;rcases List.mem_append.1 hm with hm|hm
  ·exact hks b hb hm
  ·exact hkd.2.2 b hb hm
 refine (hc hall).mono ?_;rintro e w' ⟨K',x1,x2,x3,rfl,hb⟩;replace H:=(H.pick pk).call hb;simp only [List.cons_append,List.nil_append] at H;refine ⟨⟨X.p,X.s,X.lv,X.m,X.S,K'⟩,⟨rfl,rfl,x1,.refl _⟩,⟨hX.ok,x3,x2.trans hX.s⟩,rfl,rfl,?_⟩;refine (pA_shut (X:=⟨X.p,X.s,X.lv,X.m,X.S,K'⟩) ?_).onlyHead (L:=[]);simp only;rw [x1];exact H.pick2 (A:=blk X.p (.cells #[.pointer (some ⟨X.s,0,none⟩),.pointer (some ⟨X.K.t,0,none⟩)] 119)) (B:=ktA K') pk pk
theorem key_p {X:Px} {id:Nat} {t:Tr} (hX:PxOk X) (hd:Den X.S id t) (w:World) (h:((pA X).sep deA).ho w) :
  Calls Tryz.prog 98 #[.pointer (some ⟨X.K.t,0,none⟩),.int .i64 id] w (PPost X (.tuple #[.int .u64 t.key,.nilIface]) (pA X).fp w):=by
 have:=kt_in hX h (key_c hX.ok hX.kt hd.1 hd.2.1 w);rwa [hd.2.2] at this
theorem level_p {X:Px} {id:Nat} {t:Tr} (hX:PxOk X) (hd:Den X.S id t) (w:World) (h:((pA X).sep deA).ho w) :
  Calls Tryz.prog 122 #[.pointer (some ⟨X.K.t,0,none⟩),.int .i64 id] w (PPost X (lvlV t.lev) (pA X).fp w):=by
 have:=kt_in hX h (level_c hX.ok hX.kt hd.1 hd.2.1 w);rwa [hd.2.2] at this
abbrev MPost (X:Px) (t:Tr) (M:List Nat) (w:World) (e:Ending) (w':World):Prop :=
 ∃ (X':Px) (id:Nat) (c:Option Nat),e=.returned (.tuple #[.int .i64 id,errV c])∧X.Ext X'∧PxOk X'∧X'.S.list.length<=X.S.list.length+1∧((c=none∧Den X'.S id t)∨(c=some 3∧id=0∧X'.S=X.S∧X.S.most<=X.S.list.length))∧St w M [pA X'] w'
theorem made_in {X:Px} {f:FuncId} {args:Array Value} {r:(Nat×Option Nat)×Sto} {t:Tr} {w:World} (hX:PxOk X) (h:(pA X).ho w) (hm:Made X.S t r) (hc:(stoA X.s X.lv X.m X.S).ho w->Calls Tryz.prog f args w (StoPost X.s X.m (stoA X.s X.lv X.m X.S).fp r w)):Calls Tryz.prog f args w (MPost X t (pA X).fp w):=by
 have H:=pA_open (St.one h);refine (hc (H.get pk)).mono ?_;rintro e w' ⟨lv',rfl,hb⟩;replace H:=(H.pick pk).call hb;simp only [List.cons_append,List.nil_append] at H;obtain ⟨m1,m2,m3,m4⟩:=hm;refine ⟨⟨X.p,X.s,lv',X.m,r.2,X.K⟩,r.1.1,r.1.2,rfl,⟨rfl,rfl,rfl,m1⟩,⟨m2,hX.kt.le hX.ok m1,hX.s⟩,m3,?_,?_⟩
 ·rcases m4 with h|⟨h1,h2,h3⟩
  ·exact .inl h
  ·exact .inr ⟨by rw [h1],by rw [h1],h2,h3⟩
 ·exact (pA_shut (X:=⟨X.p,X.s,lv',X.m,r.2,X.K⟩) (H.pick3 (A:=blk X.p (.cells #[.pointer (some ⟨X.s,0,none⟩),.pointer (some ⟨X.K.t,0,none⟩)] 119)) (B:=ktA X.K) (C:=stoA X.s lv' X.m r.2) pk pk pk)).onlyHead
theorem letter_p {X:Px} (b:Nat) (hb:b<256) (hX:PxOk X) (w:World) (h:(pA X).ho w) :
  Calls Tryz.prog 42 #[.pointer (some ⟨X.s,0,none⟩),.int .u8 b] w (MPost X (.leaf b) (pA X).fp w) :=
 made_in hX h (made_letter hX.ok hb) fun h=>letter_c hX.ok b hb w h
theorem pair_p {X:Px} {l r:Nat} {t u:Tr} (hl:Den X.S l t) (hr:Den X.S r u) (hlen:t.len+u.len<=maxT) (hX:PxOk X) (w:World) (h:(pA X).ho w) :
  Calls Tryz.prog 43 #[.pointer (some ⟨X.s,0,none⟩),.int .i64 l,.int .i64 r] w (MPost X (.pair t u) (pA X).fp w) :=
 made_in hX h (made_pair hX.ok hl hr hlen) fun h=>pair_c hX.ok l r hl.2.1 hr.2.1 w h
theorem power_p {X:Px} {l k:Nat} {t:Tr} (hl:Den X.S l t) (hk:2<=k) (hk2:k<9223372036854775808) (hlen:t.len*k<=maxT) (hX:PxOk X) (w:World) (h:(pA X).ho w) :
  Calls Tryz.prog 70 #[.pointer (some ⟨X.s,0,none⟩),.int .i64 l,.int .i64 k] w (MPost X (.pow t k) (pA X).fp w) :=
 made_in hX h (made_pow hX.ok hl hk hlen) fun h=>power_c hX.ok l k hl.2.1 hk2 w h
end
section
open Go.RowKit Go.Maps
attribute [local go_sem] InGr
abbrev PH (X:Px) (w:World):Prop:=((pA X).sep deA).ho w
theorem knew_c {s:Nat} (w:World):Calls Tryz.prog 86 #[.pointer (some ⟨s,0,none⟩)] w fun e w'=>∃ t,e=.returned (.pointer (some ⟨t,0,none⟩))∧St w [] [ktA ⟨t,s,.slice none 0 0,[]⟩] w':=by
 have H:=St.nil w [];go_enter Tryz.func86,Tryz.ntmps86;go_wp2_with (first|refine sL ?_|(refine sS ?_;clear H;intros;rename_i H));rename_i b _;go_ret;refine ⟨_,rfl,?_⟩;have H2:=H.empty (A:=rowsA rowK 214 3 (.slice none 0 0) []) (rowsA_nil _) (by rw [rowsA_fp'];rfl);exact ktA_shut (K:=⟨_,s,.slice none 0 0,[]⟩) (H2.pick (.there .here))
theorem snew_c {s m:Nat} {lv:Value} {S:Sto} (hS:S.Ok) (w:World) (hs:(stoA s lv m S).ho w):Calls Tryz.prog 54 #[.pointer (some ⟨s,0,none⟩)] w fun e w'=>∃ X:Px,X.s=s∧X.S=S∧PxOk X∧e=.returned (.pointer (some ⟨X.p,0,none⟩))∧St w (stoA s lv m S).fp [pA X] w':=by
 have H:=St.one hs;have HS:=zh hS;clear hs;go_enter Tryz.func54,Tryz.ntmps54;go_wp2_with (first|refine sL ?_|(refine sS ?_;clear H;intros;rename_i H)|(go_at_call 86;refine (knew_c _).mono ?_;rintro e wc ⟨t,rfl,hb⟩;replace H:=zn (H.call0 hb);clear hb));go_ret;refine ⟨⟨_,s,lv,m,S,⟨t,s,.slice none 0 0,[]⟩⟩,rfl,rfl,⟨HS.out,⟨by simp,by simp⟩,rfl⟩,rfl,?_⟩;exact (pA_shut (X:=⟨_,s,lv,m,S,⟨t,s,.slice none 0 0,[]⟩⟩) (H.pick3 pk pk pk)).onlyHead
theorem store_p {X:Px} (w:World) (h:(pA X).ho w):Calls Tryz.prog 53 #[.pointer (some ⟨X.p,0,none⟩)] w fun e w'=>e=.returned (.pointer (some ⟨X.s,0,none⟩))∧w'=w:=by
 have H:=St.nil w [];have HC:=zh (pA_c0 h);clear h;go_enter Tryz.func53,Tryz.ntmps53;go_wp2_with (first|refine sL ?_|(refine sS ?_;clear H;intros;rename_i H)|((with_reducible refine isLoad ?_);refine AtLoad.cel rfl rfl rfl rfl HC.out ?_;simp only [Act.put,puA,puB,puC]));go_ret;exact ⟨rfl,rfl⟩
theorem keys_p {X:Px} (w:World) (h:(pA X).ho w):Calls Tryz.prog 174 #[.pointer (some ⟨X.p,0,none⟩)] w fun e w'=>e=.returned (.pointer (some ⟨X.K.t,0,none⟩))∧w'=w:=by
 have H:=St.nil w [];have HC:=zh (pA_c1 h);clear h;go_enter Tryz.func174,Tryz.ntmps174;go_wp2_with (first|refine sL ?_|(refine sS ?_;clear H;intros;rename_i H)|((with_reducible refine isLoad ?_);refine AtLoad.cel rfl rfl rfl rfl HC.out ?_;simp only [Act.put,puA,puB,puC]));go_ret;exact ⟨rfl,rfl⟩
theorem top_zero {X:Px} (w:World) (h:(pA X).ho w):Calls Tryz.prog 91 #[.pointer (some ⟨X.p,0,none⟩),.int .i64 0] w fun e w'=>e=.returned (.tuple #[.int .i64 0,.nilIface])∧w'=w:=by
 have H:=St.nil w [];have HC:=zh (pA_c0 h);clear h;go_enter Tryz.func91,Tryz.ntmps91;go_wp2_with (first|refine sL ?_|(refine sS ?_;clear H;intros;rename_i H)|((with_reducible refine isLoad ?_);refine AtLoad.cel rfl rfl rfl rfl HC.out ?_;simp only [Act.put,puA,puB,puC]));go_ret2;exact ⟨rfl,rfl⟩
theorem lvl_shape (o:Option Nat):∃ a c,lvlV o=.tuple #[.int .i64 a,c]:=by cases o;exact ⟨_,_,rfl⟩;exact ⟨_,_,rfl⟩
theorem top_p {X:Px} {id:Nat} {t:Tr} (hX:PxOk X) (hd:Den X.S id t) (w:World) (h:PH X w):Calls Tryz.prog 91 #[.pointer (some ⟨X.p,0,none⟩),.int .i64 id] w (PPost X (lvlV t.lev) (pA X).fp w):=by
 have HL:Hid (∀ w,PH X w->Calls Tryz.prog 122 #[.pointer (some ⟨X.K.t,0,none⟩),.int .i64 id] w (PPost X (lvlV t.lev) (pA X).fp w)):=zh fun w h=>level_p hX hd w h
 have h':((pA X).sep deA).ho w:=h;rw [sep_ho] at h';obtain ⟨k1,k2,hdd⟩:=h';have H:=St.one k1;have HK:Ks w (pA X).fp [deA]:=⟨by simpa using k2,by simpa using fun b hb hm=>hdd b hm hb⟩
 have h0:((id:Int)==0)=false:=(by have:=hd.1;simp;omega);obtain ⟨a,c,hv⟩:=lvl_shape t.lev;rw [hv] at HL ⊢;clear k1 k2 hdd hv hd h;go_enter Tryz.func91,Tryz.ntmps91;go_wp2_with (first|refine sL ?_|(refine sS ?_;clear H;intros;rename_i H)|((with_reducible refine isLoad ?_);first|(refine AtLoad.cel rfl rfl rfl rfl (pA_c0 (H.get (A:=pA X) pk)) ?_;simp only [Act.put,puA,puB,puC])|(refine AtLoad.cel rfl rfl rfl rfl (pA_c1 (H.get (A:=pA X) pk)) ?_;simp only [Act.put,puA,puB,puC]))|(go_at_call 122;with_reducible refine zm (HL.out _ (H.sepK HK pk pk)) ?_;rintro e wc ⟨X',x1,x2,x3,rfl,hb⟩;have HX:=zh (za x1 (za x2 x3));clear x1 x2 x3;replace H:=zn ((H.pick pk).call hb);clear hb));go_ret2;exact ⟨X',HX.out.1,HX.out.2.1,HX.out.2.2,rfl,H.only (A:=pA X') pk⟩
def DenL (S:Sto):List Nat->List Tr->Prop
 |[],[]=>True
 |a::l,t::u=>Den S a t∧DenL S l u
 |_,_=>False
theorem DenL.len {S:Sto}:∀ {l:List Nat} {u:List Tr},DenL S l u->l.length=u.length
 |[],[],_=>rfl
 |a::l,t::u,h=>by simp [DenL.len h.2]
 |[],_::_,h=>h.elim
 |_::_,[],h=>h.elim
theorem DenL.get {S:Sto}:∀ {l:List Nat} {u:List Tr} {i:Nat} {a:Nat},DenL S l u->l[i]?=some a->∃ t,u[i]?=some t∧Den S a t
 |a::l,t::u,0,b,h,hb=>by
  have:a=b:=by simpa using hb
  subst this;exact ⟨t,rfl,h.1⟩
 |a::l,t::u,i+1,b,h,hb=>by simpa using h.2.get (i:=i) (by simpa using hb)
 |[],[],i,b,_,hb=>by simp at hb
 |[],_::_,_,_,h,_=>h.elim
 |_::_,[],_,_,h,_=>h.elim
theorem DenL.le {S S':Sto} (hS:S.Ok) (hl:S.Le S'):∀ {l:List Nat} {u:List Tr},DenL S l u->DenL S' l u
 |[],[],_=>trivial
 |a::l,t::u,h=>⟨h.1.le hS hl,h.2.le hS hl⟩
 |[],_::_,h=>h.elim
 |_::_,[],h=>h.elim
theorem DenL.append {S:Sto}:∀ {l l':List Nat} {u u':List Tr},DenL S l u->DenL S l' u'->DenL S (l++l') (u++u')
 |[],_,[],_,_,h=>h
 |a::l,_,t::u,_,h,h'=>⟨h.1,h.2.append h'⟩
 |[],_,_::_,_,h,_=>h.elim
 |_::_,_,[],_,h,_=>h.elim
theorem DenL.snoc {S:Sto} {l:List Nat} {u:List Tr} {a:Nat} {t:Tr} (h:DenL S l u) (ha:Den S a t):DenL S (l++[a]) (u++[t]):=h.append ⟨ha,trivial⟩
theorem DenL.drop {S:Sto}:∀ {l:List Nat} {u:List Tr} (n:Nat),DenL S l u->DenL S (l.drop n) (u.drop n)
 |_,_,0,h=>h
 |[],[],n+1,_=>by simp [DenL]
 |a::l,t::u,n+1,h=>by simpa using h.2.drop n
 |[],_::_,_+1,h=>h.elim
 |_::_,[],_+1,h=>h.elim
theorem DenL.take {S:Sto}:∀ {l:List Nat} {u:List Tr} (n:Nat),DenL S l u->DenL S (l.take n) (u.take n)
 |_,_,0,h=>by simp [DenL]
 |[],[],n+1,_=>by simp [DenL]
 |a::l,t::u,n+1,h=>by simpa [DenL] using ⟨h.1,h.2.take n⟩
 |[],_::_,_+1,h=>h.elim
 |_::_,[],_+1,h=>h.elim
end
end Go.Proofs.YtgnppnokkdghcaaGreatDoor
