/-
  Part 2 of the texts behind the statements of this seat: walks and laws If, Ig, Rs, Ro, Rt, Rd, Rb, Il, Im, Ne, Pm, Po, Ta, Tc, Rf, Td, Pp. Conditions: as each states.
-/
import Derived.Test.YtijnhpaafhcndaaGreatEr1
import Derived.Laws.MakeOwn
import Derived.Laws.Small
set_option linter.unusedSimpArgs false
set_option linter.unusedVariables false
set_option maxRecDepth 100000
set_option maxHeartbeats 80000000
namespace Go.Proofs.YtijnhpaafhcndaaGreat
section
open Go.RowKit Go.Maps
attribute [local go_sem] InGr
theorem find_hit {p m:Nat} {lv:Value} {S:Sto} {i:Nat} {x:En} (hx:S.list[i]? = some x) (ha:Apart S.list) (hf:x.r.Fits) (w:World) (hs:(stoA p lv m S).ho w) :
  Calls Tryz.prog 74 #[.pointer (some ⟨p,0,none⟩),ruleV x.r] w fun e w'=>e = .returned (.tuple #[.int .i64 ((i:Int) + 1),.nilIface])∧St w [] [] w':=by
 have HK:=stoA_ks hs
 have HE:=Lib.hid (And.intro hx (And.intro ha hf))
 have hi:=getElem_len hx
 obtain ⟨a,c,rfl,hm⟩:=stoA_shape hs
 unfold maxLen at hm
 have H:=St.nil w []
 clear hs hx ha hf
 unfold ruleV
 go_enter Tryz.func74,Tryz.ntmps74
 go_wp2_with (first | refine sL ?_ | (refine sS ?_;clear H;intros;rename_i H))
 refine wp_region_h H 11 [] [] (by kernel_rfl) (by kernel_rfl) ?_
 apply Exists.intro
 refine ⟨fun w1 hw1 HX=>?_,fun bs wr Hr=>?_⟩
 ·refine sG ?_
  repeat (first | refine sQ ?_ | ((with_reducible refine isQLook ?_);refine QtLook.go (kt:=0) (et:=0) rfl rfl rfl _ (fun y=>look_hit ((HX y).known HK pk) HE.out.2.1 HE.out.1 HE.out.2.2) rfl ?_;simp only [Act.put,puA,puB,puC]) | go_big_quiet_step (fail))
  exact wpQuiet_nil rfl
 clear H
 have H:=Hr
 clear Hr
 replace H:=sH H;refine sT ?_
 go_wp2_with (first | refine sL ?_ | (refine sS ?_;clear H;intros;rename_i H))
 go_ret2
 exact ⟨rfl,H.nix⟩
theorem find_miss {p m:Nat} {lv:Value} {S:Sto} (r:Rl) (hn:∀ x∈S.list,x.r≠r) (hf:r.Fits) (w:World) (hs:(stoA p lv m S).ho w) (hmost:S.most < 9223372036854775808) :
  Calls Tryz.prog 74 #[.pointer (some ⟨p,0,none⟩),ruleV r] w fun e w'=>e = .returned (.tuple #[.int .i64 0,if S.most≤S.list.length then EV 3 else .nilIface])∧St w [] [] w':=by
 have HK:=stoA_ks hs
 have HE:=Lib.hid (And.intro hn hf)
 obtain ⟨a,c,rfl,hm⟩:=stoA_shape hs
 unfold maxLen at hm
 have H:=St.nil w []
 clear hs hn hf
 unfold ruleV
 go_enter Tryz.func74,Tryz.ntmps74
 go_wp2_with (first | refine sL ?_ | (refine sS ?_;clear H;intros;rename_i H))
 refine wp_region_h H 11 [] [] (by kernel_rfl) (by kernel_rfl) ?_
 apply Exists.intro
 refine ⟨fun w1 hw1 HX=>?_,fun bs wr Hr=>?_⟩
 ·refine sG ?_
  repeat (first | refine sQ ?_ | ((with_reducible refine isQLook ?_);refine QtLook.go (kt:=0) (et:=0) rfl rfl rfl _ (fun y=>look_miss ((HX y).known HK pk) HE.out.1 HE.out.2) rfl ?_;simp only [Act.put,puA,puB,puC]) | go_big_quiet_step (fail))
  exact wpQuiet_nil rfl
 clear H
 have H:=Hr
 clear Hr
 replace H:=sH H;refine sT ?_
 by_cases h:S.most≤S.list.length
 ·go_wp2_with (first | refine sL ?_ | (refine sS ?_;clear H;intros;rename_i H))
  refine wp_region_h H 10 [] [] (by kernel_rfl) (by kernel_rfl) ?_
  apply Exists.intro
  refine ⟨fun w1 hw1 HX=>?_,fun bs wr Hr=>?_⟩
  ·refine sG ?_
   repeat (first | refine sQ ?_ | fail | go_big_quiet_step (fail))
   exact wpQuiet_nil rfl
  clear H
  have H:=Hr
  clear Hr
  replace H:=sH H;refine sT ?_
  go_wp2_with (first | refine sL ?_ | (refine sS ?_;clear H;intros;rename_i H))
  go_ret2
  exact ⟨rfl,H.nix⟩
 ·go_wp2_with (first | refine sL ?_ | (refine sS ?_;clear H;intros;rename_i H))
  refine wp_region_h H 10 [] [] (by kernel_rfl) (by kernel_rfl) ?_
  apply Exists.intro
  refine ⟨fun w1 hw1 HX=>?_,fun bs wr Hr=>?_⟩
  ·refine sG ?_
   repeat (first | refine sQ ?_ | fail | go_big_quiet_step (fail))
   exact wpQuiet_nil rfl
  clear H
  have H:=Hr
  clear Hr
  replace H:=sH H;refine sT ?_
  go_wp2_with (first | refine sL ?_ | (refine sS ?_;clear H;intros;rename_i H))
  go_ret2
  exact ⟨rfl,H.nix⟩
theorem stoA_open {p m:Nat} {lv:Value} {S:Sto} {w0 w:World} {M:List Nat} {R:List As} (h:St w0 M (stoA p lv m S :: R) w) :
  St w0 M (blk p (.cells #[.int .i64 S.most,lv,.map (some m)] 94) :: rowsA enL 125 13 lv S.list :: mapA Tryz.prog 110 m (idsL S.list) :: R) w:=by
 have h1:=St.sep (A:=blk p (.cells #[.int .i64 S.most,lv,.map (some m)] 94)) h
 exact (St.sep (h1.perm (List.Perm.swap _ _ _))).perm ((List.Perm.cons _ (List.Perm.swap _ _ _)).trans (List.Perm.swap _ _ _))
theorem stoA_shut {p m n:Nat} {lv:Value} {l:List En} {es:List (Value × Value)} {w0 w:World} {M:List Nat} {R:List As} (h:St w0 M (blk p (.cells #[.int .i64 (n:Nat),lv,.map (some m)] 94) :: rowsA enL 125 13 lv l :: mapA Tryz.prog 110 m es :: R) w) (he:es = idsL l) :
  St w0 M (stoA p lv m ⟨n,l⟩ :: R) w:=by
 subst he
 have h1:=h.perm ((List.Perm.swap _ _ _).trans (List.Perm.cons _ (List.Perm.swap _ _ _)))
 have h2:=(St.join h1).perm (List.Perm.swap _ _ _)
 exact St.join h2
theorem enL_one (x:En):∀ u∈enL x,u.oneCell' = true:=by
 intro u hu
 simp only [enL,List.mem_cons,List.not_mem_nil,or_false] at hu
 rcases hu with rfl | rfl | rfl | rfl | rfl | rfl | rfl | rfl | rfl | rfl | rfl | rfl | rfl <;> rfl
def Added (p m:Nat) (M:List Nat) (S:Sto) (x:En) (w:World) (e:Ending) (w':World):Prop:=∃ lv,e = .returned (.int .i64 ((S.list.length:Int) + 1))∧St w M [stoA p lv m ⟨S.most,S.list ++ [x]⟩] w'
attribute [local go_sem] StStep stAt stUpon in
theorem add_st {p m:Nat} {lv:Value} {S:Sto} (x:En) (hn:∀ y∈S.list,y.r≠x.r) (hf:x.r.Fits) (hl:S.list.length < 1048576) (w:World) (hs:(stoA p lv m S).ho w) :
  Calls Tryz.prog 75 #[.pointer (some ⟨p,0,none⟩),.agg (enL x).toArray] w (Added p m (stoA p lv m S).fp S x w):=by
 have H:=stoA_open (St.one hs)
 generalize (stoA p lv m S).fp = M at H ⊢
 obtain ⟨l,hk⟩:=rule_key x.r hf
 have HN:=Lib.hid (And.intro (show ∀ e∈idsL S.list,e.1≠ruleV x.r from fun e he=>by obtain ⟨i,y,hy,rfl⟩:=ids_all he;exact fun h=>hn y (List.mem_of_getElem? hy) (ruleV_inj h)) hk)
 obtain ⟨a,c,rfl,hm⟩:=stoA_shape hs
 clear hs hn hf hk hm
 go_enter Tryz.func75,Tryz.ntmps75
 go_wp2_with (first | refine sL ?_ | (refine sS ?_;clear H;intros;rename_i H))
 rename_i b3 _ _ _
 replace H:=H.pick (A:=rowsA enL 125 13 (.slice a S.list.length c) S.list) pk
 refine wp_region_rgx H [blk b3 (.cells (enL x).toArray 125),blk p (.cells #[.int .i64 S.most,.slice a S.list.length c,.map (some m)] 94),mapA Tryz.prog 110 m (idsL S.list)] 8 [⟨[],[],[],fun v _=>v = .pointer (some ⟨p,0,none⟩),fun _ _=>[]⟩,⟨[],[],[],fun v _=>v = .pointer (some ⟨p,0,none⟩),fun _ _=>[]⟩,⟨[],[],[1],fun v _=>v = .pointer (some ⟨p,0,none⟩),fun _ _=>[]⟩,⟨[],[],[2],fun v _=>v = .pointer (some ⟨p,1,none⟩),fun _ _=>[]⟩,⟨[],[],[3],fun v _=>v = .slice a S.list.length c,fun _ _=>[]⟩,⟨[],[],[],fun v _=>v = .agg (enL x).toArray,fun _ _=>[]⟩,⟨[],[],[5],fun v _=>True,fun v _=>[rowsA enL 125 13 v [x]]⟩,⟨[8],[6],[4],fun _ _=>True,fun v _=>[rowsA enL 125 13 v (S.list ++ [x])]⟩,⟨[],[],[],fun _ _=>True,fun _ _=>[rowsA enL 125 13 (.slice a S.list.length c) S.list]⟩] (by kernel_rfl)
  [[],[],[(1,7)],[(2,8)],[(3,9)],[],[(5,11)],[(4,10),(6,12)]] [(0,6),(1,7),(2,8),(3,9),(4,10),(5,11),(6,12),(7,13)] [0,1,2,3,4,5,6,7] (by kernel_rfl) (by kernel_rfl) (by kernel_rfl) ⟨?_,?_,?_,?_,?_,?_,?_,?_,trivial⟩ ?_
 ·intro vals wx X hd H
  clear hd
  replace H:=sP H
  simp only [putS,List.foldl_nil]
  go_simp
  first | exact H | exact ⟨rfl,H⟩
 ·intro vals wx X hd H
  clear hd
  replace H:=sP H
  simp only [putS,List.foldl_nil]
  go_simp
  first | exact H | exact ⟨rfl,H⟩
 ·intro vals wx X hd H
  have h1:vals 1 = .pointer (some ⟨p,0,none⟩):=hd.1
  clear hd
  replace H:=sP H
  simp only [putS,List.foldl_nil,List.foldl_cons,Act.put,List.setIfInBounds_toArray,List.set_cons_zero,List.set_cons_succ,h1]
  clear h1
  go_simp
  first | exact H | exact ⟨rfl,H⟩
 ·intro vals wx X hd H
  have h2:vals 2 = .pointer (some ⟨p,0,none⟩):=hd.1
  clear hd
  replace H:=sP H
  simp only [putS,List.foldl_nil,List.foldl_cons,Act.put,List.setIfInBounds_toArray,List.set_cons_zero,List.set_cons_succ,h2]
  clear h2
  go_simp
  first | exact H | exact ⟨rfl,H⟩
 ·intro vals wx X hd H
  have h3:vals 3 = .pointer (some ⟨p,1,none⟩):=hd.1
  clear hd
  replace H:=sP H
  simp only [putS,List.foldl_nil,List.foldl_cons,Act.put,List.setIfInBounds_toArray,List.set_cons_zero,List.set_cons_succ,h3]
  first | refine StStep.cellT rfl rfl rfl gt rfl rfl ⟨rfl,H⟩ | refine StStep.wholeT rfl rfl rfl gt rfl ⟨rfl,H⟩
 ·intro vals wx X hd H
  clear hd
  replace H:=sP H
  simp only [putS,List.foldl_nil]
  first | refine StStep.cellT rfl rfl rfl gt rfl rfl ⟨rfl,H⟩ | refine StStep.wholeT rfl rfl rfl gt rfl ⟨rfl,H⟩
 ·intro vals wx X hd H
  have h5:vals 5 = .agg (enL x).toArray:=hd.1
  clear hd
  replace H:=sP H
  simp only [putS,List.foldl_nil,List.foldl_cons,Act.put,List.setIfInBounds_toArray,List.set_cons_zero,List.set_cons_succ,h5]
  exact StStep.slice1 (enc:=enL) H rfl rfl rfl rfl rfl rfl rfl rfl rfl x rfl enL_len fun b w' H=>⟨trivial,H⟩
 ·intro vals wx X hd H
  have h4:vals 4 = .slice a S.list.length c:=hd.1
  clear hd
  replace H:=sP H
  simp only [putS,List.foldl_nil,List.foldl_cons,Act.put,List.setIfInBounds_toArray,List.set_cons_zero,List.set_cons_succ,h4]
  exact StStep.append (enc:=enL) rfl rfl rfl rfl rfl (by decide) (by decide) rfl rfl H (H.get (A:=rowsA enL 125 13 (vals 6) [x]) pk) enL_len enL_one (by simp;omega) fun v' w' H=>⟨trivial,H⟩
 intro vals wx hd H
 have h0:vals 0 = .pointer (some ⟨p,0,none⟩):=hd.1
 have h1:vals 1 = .pointer (some ⟨p,0,none⟩):=hd.2.1
 have h2:vals 2 = .pointer (some ⟨p,0,none⟩):=hd.2.2.1
 have h3:vals 3 = .pointer (some ⟨p,1,none⟩):=hd.2.2.2.1
 have h4:vals 4 = .slice a S.list.length c:=hd.2.2.2.2.1
 have h5:vals 5 = .agg (enL x).toArray:=hd.2.2.2.2.2.1
 have h6:=hd.2.2.2.2.2.2.1
 clear hd
 replace H:=sP H
 simp only [putS,List.foldl_nil,List.foldl_cons,Act.put,List.setIfInBounds_toArray,List.set_cons_zero,List.set_cons_succ,List.drop_succ_cons,List.drop_zero,h0,h1,h2,h3,h4,h5]
 clear h0 h1 h2 h3 h4 h5
 obtain ⟨ad,cp,e7,_⟩:=rowsA_shape (H.get (A:=rowsA enL 125 13 (vals 7) (S.list ++ [x])) pk)
 rw [List.length_append,List.length_singleton] at e7
 rw [e7] at H
 simp only [e7]
 clear e7
 generalize vals 6 = v6 at H ⊢
 go_wp2_with (first | refine sL ?_ | (refine sS ?_;clear H;intros;rename_i H))
 refine wp_region_h H 7 [] [] (by kernel_rfl) (by kernel_rfl) ?_
 apply Exists.intro
 refine ⟨fun w1 hw1 HX=>?_,fun bs wr Hr=>?_⟩
 ·refine sG ?_
  repeat (first | refine sQ ?_ | fail | go_big_quiet_step (fail))
  exact wpQuiet_nil rfl
 clear H
 have H:=Hr
 clear Hr
 replace H:=sH H;refine sT ?_
 go_wp2_with (first | refine sL ?_ | (refine sS ?_;clear H;intros;rename_i H) | ((with_reducible refine isUpdate ?_);refine AtUpdate.new keyed_110 mt_92 H rfl rfl rfl pk (k:=ruleV x.r) rfl rfl HN.out.2 HN.out.1 ?_;clear H;intro _ H;simp only [Act.put,puA,puB,puC]))
 go_ret
 exact ⟨.slice ad (S.list.length + 1) cp,rfl,(stoA_shut (H.pick3 (A:=blk p (.cells #[.int .i64 S.most,.slice ad (S.list.length + 1) cp,.map (some m)] 94)) pk (B:=rowsA enL 125 13 (.slice ad (S.list.length + 1) cp) (S.list ++ [x])) pk
  (C:=mapA Tryz.prog 110 m (idsL S.list ++ [(ruleV x.r,.int .i64 ((S.list.length:Int) + 1))])) pk) (ids_snoc _ _).symm).onlyHead⟩
end
section
def maxT:Nat:=1152921504606846976
theorem maxT_eq:maxT = 1152921504606846976:=rfl
def letterE (b:Nat):En:=⟨⟨1,b,0,0,0⟩,Wt.letter b,0,true⟩
def pairE (x y:En) (l r:Nat):En:=⟨⟨2,0,l,r,0⟩,x.w.join y.w,1 + max x.depth y.depth,x.even && y.even && (decide (x.depth≤y.depth + 1) && decide (y.depth≤x.depth + 1))⟩
def powerE (x:En) (l k:Nat):En:=⟨⟨3,0,l,0,k⟩,x.w.rep k,1 + x.depth,false⟩
inductive EnOk (L:List En) (i:Nat):En→Prop
 |letter (b:Nat) (h:b < 256):EnOk L i (letterE b)
 |pair (l r:Nat) (x y:En) (hl:l < i) (hr:r < i) (hx:L[l]? = some x) (hy:L[r]? = some y) (h:x.w.len + y.w.len≤maxT):EnOk L i (pairE x y (l + 1) (r + 1))
 |power (l k:Nat) (x:En) (hl:l < i) (hx:L[l]? = some x) (hk:2≤k) (h:x.w.len * k≤maxT):EnOk L i (powerE x (l + 1) k)
structure Sto.Ok (S:Sto):Prop where
 most:S.most≤1048576
 len:S.list.length≤S.most
 apart:Apart S.list
 ents:∀ (i:Nat) (x:En),S.list[i]? = some x→EnOk S.list i x
structure En.Good (x:En) (i:Nat):Prop where
 fits:x.r.Fits
 wok:x.w.Ok
 pos:0 < x.w.len
 depth:x.depth≤i
theorem letter_len (b:Nat):(Wt.letter b).len = 1:=by unfold Wt.letter;split <;> rfl
theorem EnOk.good {L:List En} {i:Nat} {x:En} (hi:i < 1048576) (ih:∀ j y,j < i→L[j]? = some y→y.Good j) (h:EnOk L i x):x.Good i:=by
 cases h with
 |letter b hb=>exact ⟨⟨by simp [letterE],hb,by simp [letterE],by simp [letterE],by simp [letterE]⟩,Wt.letter_ok b hb,by simp [letterE,letter_len],by simp [letterE]⟩
 |pair l r x y hl hr hx hy h =>
  have g1:=ih l x hl hx
  have g2:=ih r y hr hy
  have h1:=g1.depth
  have h2:=g2.depth
  have p1:=g1.pos
  rw [maxT_eq] at h
  refine ⟨⟨by simp [pairE],by simp [pairE],by simp [pairE];omega,by simp [pairE];omega,by simp [pairE]⟩,Wt.join_ok g1.wok g2.wok h,by simp [pairE,Wt.join];omega,by simp [pairE];omega⟩
 |power l k x hl hx hk h =>
  have g1:=ih l x hl hx
  have h1:=g1.depth
  have p1:=g1.pos
  rw [maxT_eq] at h
  have hkm:k≤x.w.len * k:=Nat.le_mul_of_pos_left k p1
  refine ⟨⟨by simp [powerE],by simp [powerE],by simp [powerE];omega,by simp [powerE],by simp [powerE];omega⟩,Wt.rep_ok g1.wok p1 hk h,by simp [powerE,Wt.rep];omega,by simp [powerE];omega⟩
theorem Sto.Ok.good {S:Sto} (h:S.Ok):∀ (i:Nat) (x:En),S.list[i]? = some x→x.Good i:=by
 intro i
 induction i using Nat.strongRecOn with
 |_ i ih =>
  intro x hx
  have hi:=getElem_len hx
  have:=h.len
  have:=h.most
  exact (h.ents i x hx).good (by omega) fun j y hj hy=>ih j hj y hy
theorem EnOk.snoc {L:List En} {i:Nat} {x y:En} (hi:i≤L.length) (h:EnOk L i x):EnOk (L ++ [y]) i x:=by
 cases h with
 |letter b hb=>exact .letter b hb
 |pair l r x y' hl hr hx hy h=>exact .pair l r x y' hl hr (by rw [List.getElem?_append_left (by omega)];exact hx) (by rw [List.getElem?_append_left (by omega)];exact hy) h
 |power l k x hl hx hk h=>exact .power l k x hl (by rw [List.getElem?_append_left (by omega)];exact hx) hk h
def Sto.look (S:Sto) (r:Rl):Option Nat:=S.list.findIdx? fun x=>decide (x.r = r)
theorem look_some {S:Sto} {r:Rl} {i:Nat} (h:S.look r = some i):∃ x,S.list[i]? = some x∧x.r = r:=by
 unfold Sto.look at h
 rw [List.findIdx?_eq_some_iff_getElem] at h
 obtain ⟨h1,h2,_⟩:=h
 exact ⟨S.list[i],by simp,by simpa using h2⟩
theorem look_before {S:Sto} {r:Rl} {i:Nat} (h:S.look r = some i):∀ k,k < i→∀ y,S.list[k]? = some y→y.r≠r:=by
 unfold Sto.look at h
 rw [List.findIdx?_eq_some_iff_getElem] at h
 obtain ⟨h1,_,h3⟩:=h
 intro k hk y hy
 have:=h3 k hk
 have e:S.list[k]'(by omega) = y:=by rw [List.getElem?_eq_getElem (by omega)] at hy;exact Option.some.inj hy
 rw [e] at this
 simpa using this
theorem look_none {S:Sto} {r:Rl} (h:S.look r = none):∀ x∈S.list,x.r≠r:=by
 unfold Sto.look at h
 rw [List.findIdx?_eq_none_iff] at h
 intro x hx
 simpa using h x hx
def Sto.put (S:Sto) (x:En):(Nat × Option Nat) × Sto :=
 match S.look x.r with
 |some i=>((i + 1,none),S)
 |none=>if S.most≤S.list.length then ((0,some 3),S) else ((S.list.length + 1,none),⟨S.most,S.list ++ [x]⟩)
theorem Sto.put_ok {S:Sto} (h:S.Ok) {x:En} (hx:EnOk S.list S.list.length x):(S.put x).2.Ok:=by
 unfold Sto.put
 split
 ·exact h
 ·rename_i hn
  have hn:=look_none hn
  split
  ·exact h
  ·rename_i hf
   refine ⟨h.most,by simp;omega,fun i j y z hy hz he=>?_,fun i y hy=>?_⟩
   ·simp only at hy hz
    rw [List.getElem?_append] at hy hz
    split at hy <;> split at hz
    ·exact h.apart i j y z hy hz he
    ·have:z = x:=by
      rename_i h1 h2
      have:j - S.list.length = 0:=by
       have:=getElem_len hz;simp at this;omega
      rw [this] at hz;simpa using hz.symm
     subst this
     exact absurd he (hn y (List.mem_of_getElem? hy))
    ·have:y = x:=by
      rename_i h1 h2
      have:i - S.list.length = 0:=by
       have:=getElem_len hy;simp at this;omega
      rw [this] at hy;simpa using hy.symm
     subst this
     exact absurd he.symm (hn z (List.mem_of_getElem? hz))
    ·have:=getElem_len hy
     have:=getElem_len hz
     simp at *
     omega
   ·simp only at hy ⊢
    rw [List.getElem?_append] at hy
    split at hy
    ·rename_i h1
     exact (h.ents i y hy).snoc (by omega)
    ·have:=getElem_len hy
     have e:i = S.list.length:=by simp at this;omega
     subst e
     simp at hy
     subst hy
     exact hx.snoc (Nat.le_refl _)
def Sto.letter (S:Sto) (b:Nat):(Nat × Option Nat) × Sto:=S.put (letterE b)
def Sto.pair (S:Sto) (l r:Nat):(Nat × Option Nat) × Sto :=
 match enAt S l,enAt S r with
 |some x,some y=>if l = 0 then ((r,none),S) else if r = 0 then ((l,none),S) else if maxT < x.w.len + y.w.len then ((0,some 2),S) else S.put (pairE x y l r)
 |_,_=>((0,some 1),S)
def Sto.power (S:Sto) (x k:Nat):(Nat × Option Nat) × Sto :=
 match enAt S x with
 |some e=>if k = 0∨x = 0 then ((0,none),S) else if k = 1 then ((x,none),S) else if maxT < e.w.len * k then ((0,some 2),S) else S.put (powerE e x k)
 |none=>((0,some 1),S)
theorem enAt_some {S:Sto} {i:Nat} (h:i≤S.list.length):∃ x,enAt S i = some x:=by
 cases i with
 |zero=>exact ⟨_,rfl⟩
 |succ i=>exact ⟨S.list[i],by simp [enAt]⟩
theorem Sto.letter_ok {S:Sto} (h:S.Ok) {b:Nat} (hb:b < 256):(S.letter b).2.Ok:=Sto.put_ok h (.letter b hb)
theorem Sto.pair_ok {S:Sto} (h:S.Ok) (l r:Nat):(S.pair l r).2.Ok:=by
 unfold Sto.pair
 split
 ·rename_i x y hx hy
  split
  ·exact h
  ·split
   ·exact h
   ·split
    ·exact h
    ·rename_i h1 h2 h3
     obtain ⟨l,rfl⟩:=Nat.exists_eq_succ_of_ne_zero h1
     obtain ⟨r,rfl⟩:=Nat.exists_eq_succ_of_ne_zero h2
     exact Sto.put_ok h (.pair l r x y (getElem_len hx) (getElem_len hy) hx hy (by omega))
 ·exact h
theorem Sto.power_ok {S:Sto} (h:S.Ok) (x k:Nat):(S.power x k).2.Ok:=by
 unfold Sto.power
 split
 ·rename_i e hx
  split
  ·exact h
  ·split
   ·exact h
   ·split
    ·exact h
    ·rename_i h1 h2 h3
     simp at h1
     obtain ⟨x,rfl⟩:=Nat.exists_eq_succ_of_ne_zero h1.2
     exact Sto.put_ok h (.power x k e (getElem_len hx) hx (by omega) (by omega))
 ·exact h
end
section
open Go.RowKit Go.Maps
attribute [local go_sem] InGr
def encR (x:En):List Value:=ruleL x.r
def encN (x:En):List Value:=[.int .i64 x.w.len]
theorem encR_len (x:En):(encR x).length = 5:=rfl
theorem encN_len (x:En):(encN x).length = 1:=rfl
theorem encR_one (x:En):∀ u∈encR x,u.oneCell' = true:=by
 intro u hu
 simp only [encR,ruleL,List.mem_cons,List.not_mem_nil,or_false] at hu
 rcases hu with rfl | rfl | rfl | rfl | rfl <;> rfl
theorem encN_one (x:En):∀ u∈encN x,u.oneCell' = true:=by
 intro u hu
 simp only [encN,List.mem_cons,List.not_mem_nil,or_false] at hu
 subst hu;rfl
theorem rowsA_cell1 {α:Type} {enc:α→List Value} {e g n c i:Nat} {xs:List α} {x:α} {u:Value} {w:World} (h:(rowsA enc e 1 (.slice (some ⟨g,0,none⟩) n c) xs).ho w) (hk:∀ x,(enc x).length = 1) (hx:xs[i]? = some x) (hu:enc x = [u]):w.cell? ⟨g,i,none⟩ = some u:=by
 have:=rowsA_cell h hk hx (j:=0) (u:=u) (by rw [hu];rfl)
 simpa using this
theorem rlen_zero {vr vl:Value} (w:World) :
  Calls Tryz.prog 83 #[.agg #[vr,vl],.int .i64 0] w fun e w'=>e = .returned (.int .i64 0)∧St w [] [] w':=by
 have H:=St.nil w []
 go_enter Tryz.func83,Tryz.ntmps83
 go_wp2_with (first | refine sL ?_ | (refine sS ?_;clear H;intros;rename_i H))
 go_ret
 exact ⟨rfl,H.nix⟩
theorem rlen_in {vr vl:Value} {l:List En} {i:Nat} {x:En} (hx:l[i]? = some x) (w:World) (h:(rowsA encN 3 1 vl l).ho w) :
  Calls Tryz.prog 83 #[.agg #[vr,vl],.int .i64 ((i:Int) + 1)] w fun e w'=>e = .returned (.int .i64 x.w.len)∧St w [] [] w':=by
 have HK:=Ks.one h
 have hi:=getElem_len hx
 obtain ⟨g,c,rfl,hc,hm⟩:=rowsA_cases h (by omega)
 unfold maxLen at hm
 have HE:=Lib.hid hx
 have H:=St.nil w []
 clear h hx
 go_enter Tryz.func83,Tryz.ntmps83
 go_wp2_with (first | refine sL ?_ | (refine sS ?_;clear H;intros;rename_i H) | ((with_reducible refine isLoad ?_);refine AtLoad.cel rfl rfl rfl rfl (rowsA_cell1 (H.known HK pk) encN_len HE.out rfl) ?_;simp only [Act.put,puA,puB,puC]))
 go_ret
 exact ⟨rfl,H.nix⟩
theorem radd_hit {vr vl:Value} {l:List En} {i:Nat} (r:Rl) (n:Int) (hl:(Sto.mk 0 l).look r = some i) (w:World) (h:(rowsA encR 110 5 vr l).ho w) (h2:(rowsA encN 3 1 vl l).ho w) :
  Calls Tryz.prog 82 #[.agg #[vr,vl],ruleV r,.int .i64 n] w fun e w'=>e = .returned (.tuple #[.agg #[vr,vl],.int .i64 ((i:Int) + 1)])∧St w [] [] w':=by
 have HK:=Ks.one h
 have H:=St.nil w []
 obtain ⟨x,hx,hxr⟩:=look_some hl
 have hil:=getElem_len hx
 simp only at hx hil
 obtain ⟨g,c,rfl,hc,hm⟩:=rowsA_cases h (by omega)
 obtain ⟨ad2,c2,rfl,hm2⟩:=rowsA_shape h2
 unfold maxLen at hm
 have HE:=Lib.hid (And.intro hx hxr)
 have HN:Hid (∀ k,k < i→∀ y,l[k]? = some y→y.r≠r):=Lib.hid fun k hk y hy=>look_before hl k hk y hy
 clear h hl hx hxr h2 hm2
 unfold ruleV
 go_enter Tryz.func82,Tryz.ntmps82
 go_wp2_with (first | refine sL ?_ | (refine sS ?_;clear H;intros;rename_i H))
 rename_i b3 _ b2 _ b1 w1 K0 hK0
 go_loopw [8] (fun vi wr=>∃ k:Nat,vi = .int .i64 k∧k≤i∧St w [] [blk b1 (.cells #[.slice none 0 0,.slice none 0 0] 72),blk b2 (.cells #[.int .i64 r.kind,.int .u8 r.letter,.int .i64 r.left,.int .i64 r.right,.int .i64 r.times] 110),blk b3 (.cells #[.slice (some ⟨g,0,none⟩) l.length c,.slice ad2 l.length c2] 72)] wr) (fun vi _=>i - (intOf vi).toNat)
 case atStart=>exact ⟨0,rfl,Nat.zero_le _,H⟩
 case round =>
  clear H
  obtain ⟨k,rfl,hk,H⟩:=hrel
  obtain ⟨x,hx⟩:∃ x,l[k]? = some x:=⟨l[k],by simp⟩
  have HX0:=Lib.hid hx
  clear hx
  by_cases he:k = i
  ·subst he
   have hxx:x.r = r:=by have:=HE.out.1;rw [HX0.out] at this;obtain rfl:=Option.some.inj this;exact HE.out.2
   have HXR:=Lib.hid (decide_eq_true hxx)
   clear hxx
   go_wp2_with (first | refine sL ?_ | (refine sS ?_;clear H;intros;rename_i H))
   refine wp_region_h H 7 [] [] (by kernel_rfl) (by kernel_rfl) ?_
   apply Exists.intro
   refine ⟨fun w1 hw1 HX=>?_,fun bs wr Hr=>?_⟩
   ·refine sG ?_
    repeat (first | refine sQ ?_ | ((with_reducible refine isQLoad ?_);refine QtLoad.rngT (vs:=[.int .i64 x.r.kind,.int .u8 x.r.letter,.int .i64 x.r.left,.int .i64 x.r.right,.int .i64 x.r.times]) rfl rfl rfl (fun y=>(HX y).rng (enc:=encR) HK pk encR_len HX0.out) rfl ?_;simp only [Act.put,puA,puB,puC]) | ((with_reducible refine isQEql ?_);refine QtEql.rule rfl rfl x.r r rfl rfl true HXR.out ?_;simp only [Act.put,puA,puB,puC]) | go_big_quiet_step (fail))
    exact wpQuiet_nil rfl
   clear H
   have H:=Hr
   clear Hr
   replace H:=sH H;refine sT ?_
   go_wp2_with (first | refine sL ?_ | (refine sS ?_;clear H;intros;rename_i H))
   exact bodyPost_ret (res_row_tmp rfl H rfl pk rfl rfl) rfl ⟨rfl,H.nix⟩
  ·have HXR:=Lib.hid (decide_eq_false (HN.out k (by omega) x HX0.out))
   have hlt:k < i:=by omega
   clear he
   go_wp2_with (first | refine sL ?_ | (refine sS ?_;clear H;intros;rename_i H))
   refine wp_region_h H 7 [] [] (by kernel_rfl) (by kernel_rfl) ?_
   apply Exists.intro
   refine ⟨fun w1 hw1 HX=>?_,fun bs wr Hr=>?_⟩
   ·refine sG ?_
    repeat (first | refine sQ ?_ | ((with_reducible refine isQLoad ?_);refine QtLoad.rngT (vs:=[.int .i64 x.r.kind,.int .u8 x.r.letter,.int .i64 x.r.left,.int .i64 x.r.right,.int .i64 x.r.times]) rfl rfl rfl (fun y=>(HX y).rng (enc:=encR) HK pk encR_len HX0.out) rfl ?_;simp only [Act.put,puA,puB,puC]) | ((with_reducible refine isQEql ?_);refine QtEql.rule rfl rfl x.r r rfl rfl false HXR.out ?_;simp only [Act.put,puA,puB,puC]) | go_big_quiet_step (fail))
    exact wpQuiet_nil rfl
   clear H
   have H:=Hr
   clear Hr
   replace H:=sH H;refine sT ?_
   go_wp2_with (first | refine sL ?_ | (refine sS ?_;clear H;intros;rename_i H))
   go_roundw
   case rel=>exact ⟨k + 1,by go_num,by omega,H⟩
   case measure=>simp [intOf];omega
def RAdded (l:List En) (x0:En) (w:World) (e:Ending) (w':World):Prop:=∃ vr vl,e = .returned (.tuple #[.agg #[vr,vl],.int .i64 ((l.length:Int) + 1)])∧St w [] [rowsA encR 110 5 vr (l ++ [x0]),rowsA encN 3 1 vl (l ++ [x0])] w'
attribute [local go_sem] StStep stAt stUpon in
theorem radd_miss {vr vl:Value} {l:List En} (x0:En) (hn:∀ y∈l,y.r≠x0.r) (hlen:l.length≤1048576) (w:World) (h:(rowsA encR 110 5 vr l).ho w) (h2:(rowsA encN 3 1 vl l).ho w) :
  Calls Tryz.prog 82 #[.agg #[vr,vl],ruleV x0.r,.int .i64 x0.w.len] w (RAdded l x0 w):=by
 have HK:=Ks.two h h2
 have H:=St.nil w []
 obtain ⟨ad1,c1,rfl,hm⟩:=rowsA_shape h
 obtain ⟨ad2,c2,rfl,hm2⟩:=rowsA_shape h2
 have HN:=Lib.hid hn
 have HC:Hid (∀ (k:Nat) x,l[k]? = some x→∃ g c,ad1 = some ⟨g,0,none⟩∧c = c1):=Lib.hid fun k x hx=>by
  obtain ⟨g,c,he,_⟩:=rowsA_cases h (by have:=getElem_len hx;omega)
  injection he with e1 e2 e3
  exact ⟨g,c,e1,e3.symm⟩
 clear h hn h2 hm2 hm
 unfold ruleV
 go_enter Tryz.func82,Tryz.ntmps82
 go_wp2_with (first | refine sL ?_ | (refine sS ?_;clear H;intros;rename_i H))
 rename_i b3 _ b2 _ b1 w1 K0 hK0
 go_loopw [8] (fun vi wr=>∃ k:Nat,vi = .int .i64 k∧k≤l.length∧St w [] [blk b1 (.cells #[.slice none 0 0,.slice none 0 0] 72),blk b2 (.cells #[.int .i64 x0.r.kind,.int .u8 x0.r.letter,.int .i64 x0.r.left,.int .i64 x0.r.right,.int .i64 x0.r.times] 110),blk b3 (.cells #[.slice ad1 l.length c1,.slice ad2 l.length c2] 72)] wr) (fun vi _=>l.length - (intOf vi).toNat)
 case atStart=>exact ⟨0,rfl,Nat.zero_le _,H⟩
 case round =>
  clear H
  obtain ⟨k,rfl,hk,H⟩:=hrel
  by_cases he:k < l.length
  ·obtain ⟨x,hx⟩:∃ x,l[k]? = some x:=⟨l[k],by simp⟩
   obtain ⟨g,c,rfl,rfl⟩:=HC.out k x hx
   have HX0:=Lib.hid hx
   have HXR:=Lib.hid (decide_eq_false (HN.out x (List.mem_of_getElem? hx)))
   clear hx HC
   go_wp2_with (first | refine sL ?_ | (refine sS ?_;clear H;intros;rename_i H))
   refine wp_region_h H 7 [] [] (by kernel_rfl) (by kernel_rfl) ?_
   apply Exists.intro
   refine ⟨fun w1 hw1 HX=>?_,fun bs wr Hr=>?_⟩
   ·refine sG ?_
    repeat (first | refine sQ ?_ | ((with_reducible refine isQLoad ?_);refine QtLoad.rngT (vs:=[.int .i64 x.r.kind,.int .u8 x.r.letter,.int .i64 x.r.left,.int .i64 x.r.right,.int .i64 x.r.times]) rfl rfl rfl (fun y=>(HX y).rng (enc:=encR) HK pk encR_len HX0.out) rfl ?_;simp only [Act.put,puA,puB,puC]) | ((with_reducible refine isQEql ?_);refine QtEql.rule rfl rfl x.r x0.r rfl rfl false HXR.out ?_;simp only [Act.put,puA,puB,puC]) | go_big_quiet_step (fail))
    exact wpQuiet_nil rfl
   clear H
   have H:=Hr
   clear Hr
   replace H:=sH H;refine sT ?_
   go_wp2_with (first | refine sL ?_ | (refine sS ?_;clear H;intros;rename_i H))
   go_roundw
   case rel=>exact ⟨k + 1,by go_num,by omega,H⟩
   case measure=>simp [intOf];omega
  ·obtain rfl:k = l.length:=by omega
   clear HC he
   go_wp2_with (first | refine sL ?_ | (refine sS ?_;clear H;intros;rename_i H))
   refine wp_region_rgx H [blk b2 (.cells #[.int .i64 x0.r.kind,.int .u8 x0.r.letter,.int .i64 x0.r.left,.int .i64 x0.r.right,.int .i64 x0.r.times] 110),blk b3 (.cells #[.slice ad1 l.length c1,.slice ad2 l.length c2] 72)] 21 [⟨[],[],[],fun _ _=>True,fun v _=>[rowsA encR 110 5 v []]⟩,⟨[],[],[],fun v _=>v = .pointer (some ⟨b3,0,none⟩),fun _ _=>[]⟩,⟨[],[],[1],fun v _=>v = .slice ad1 l.length c1,fun _ _=>[]⟩,⟨[0],[],[2],fun _ _=>True,fun v _=>[rowsA encR 110 5 v l]⟩,⟨[],[],[],fun v _=>v = ruleV x0.r,fun _ _=>[]⟩,⟨[],[],[4],fun _ _=>True,fun v _=>[rowsA encR 110 5 v [x0]]⟩,⟨[3],[5],[],fun _ _=>True,fun v _=>[rowsA encR 110 5 v (l ++ [x0])]⟩,⟨[],[],[],fun _ _=>True,fun v _=>[rowsA encN 3 1 v []]⟩,⟨[],[],[],fun v _=>v = .pointer (some ⟨b3,1,none⟩),fun _ _=>[]⟩,⟨[],[],[8],fun v _=>v = .slice ad2 l.length c2,fun _ _=>[]⟩,⟨[7],[],[9],fun _ _=>True,fun v _=>[rowsA encN 3 1 v l]⟩,⟨[],[],[],fun v _=>v = .int .i64 x0.w.len,fun _ _=>[]⟩,⟨[],[],[11],fun _ _=>True,fun v _=>[rowsA encN 3 1 v [x0]]⟩,⟨[10],[12],[],fun _ _=>True,fun v _=>[rowsA encN 3 1 v (l ++ [x0])]⟩,⟨[],[6,13],[6,13],fun v ds=>∃ p q,ds = [p,q]∧v = .agg #[p,q],fun _ _=>[]⟩,⟨[],[],[],fun v _=>v = .pointer (some ⟨b3,0,none⟩),fun _ _=>[]⟩,⟨[],[],[15],fun v _=>v = .slice ad1 l.length c1,fun _ _=>[]⟩,⟨[],[],[16],fun v _=>v = .int .i64 l.length,fun _ _=>[]⟩,⟨[],[],[17],fun v _=>v = .int .i64 ((l.length:Int) + 1),fun _ _=>[]⟩,⟨[21],[6,13],[14,6,13],fun _ _=>True,fun _ ds=>match ds with | [_,p,q]=>[blk b1 (.cells #[p,q] 72)] | _=>[]⟩,⟨[],[],[18],fun v _=>v = .int .i64 ((l.length:Int) + 1),fun _ _=>[]⟩,⟨[],[],[],fun _ _=>True,fun _ _=>[blk b1 (.cells #[.slice none 0 0,.slice none 0 0] 72)]⟩] (by kernel_rfl)
    [[],[],[(1,27)],[(0,26),(2,28)],[],[(4,30)],[(3,29),(5,31)],[],[],[(8,34)],[(7,33),(9,35)],[],[(11,37)],[(10,36),(12,38)],[(6,32),(13,39)],[],[(15,41)],[(16,42)],[(17,43)],[(14,40)],[(18,44)]] [(0,26),(1,27),(2,28),(3,29),(4,30),(5,31),(6,32),(7,33),(8,34),(9,35),(10,36),(11,37),(12,38),(13,39),(14,40),(15,41),(16,42),(17,43),(18,44),(20,7)] [1,2,4,5,6,8,9,11,12,13,14,15,16,17,18,19,20] (by kernel_rfl) (by kernel_rfl) (by kernel_rfl) ⟨?o0,?o1,?o2,?o3,?o4,?o5,?o6,?o7,?o8,?o9,?o10,?o11,?o12,?o13,?o14,?o15,?o16,?o17,?o18,?o19,?o20,trivial⟩ ?fin
   case o0 =>
    intro vals wx X hd H
    clear hd
    replace H:=sP H
    simp only [putS,List.foldl_nil]
    exact StStep.slice0 (enc:=encR) H rfl rfl rfl rfl encR_len fun b w' H=>⟨trivial,H⟩
   case o1 =>
    intro vals wx X hd H
    clear hd
    replace H:=sP H
    simp only [putS,List.foldl_nil]
    go_simp
    first | exact H | exact ⟨rfl,H⟩
   case o2 =>
    intro vals wx X hd H
    have h1:vals 1 = .pointer (some ⟨b3,0,none⟩):=hd.1
    clear hd
    replace H:=sP H
    simp only [putS,List.foldl_nil,List.foldl_cons,Act.put,List.setIfInBounds_toArray,List.set_cons_zero,List.set_cons_succ,h1]
    first | refine StStep.cellT rfl rfl rfl gt rfl rfl ⟨rfl,H⟩ | refine StStep.wholeT rfl rfl rfl gt rfl ⟨rfl,H⟩
   case o3 =>
    intro vals wx X hd H
    have h2:vals 2 = .slice ad1 l.length c1:=hd.1
    clear hd
    replace H:=sP H
    simp only [putS,List.foldl_nil,List.foldl_cons,Act.put,List.setIfInBounds_toArray,List.set_cons_zero,List.set_cons_succ,h2]
    exact StStep.append (enc:=encR) rfl rfl rfl rfl rfl (by decide) (by decide) rfl rfl H (H.known HK pk) encR_len encR_one (by simp;omega) fun v' w' H=>⟨trivial,H⟩
   case o4 =>
    intro vals wx X hd H
    clear hd
    replace H:=sP H
    simp only [putS,List.foldl_nil]
    first | refine StStep.cellT rfl rfl rfl gt rfl rfl ⟨rfl,H⟩ | refine StStep.wholeT rfl rfl rfl gt rfl ⟨rfl,H⟩
   case o5 =>
    intro vals wx X hd H
    have h4:vals 4 = ruleV x0.r:=hd.1
    clear hd
    replace H:=sP H
    simp only [putS,List.foldl_nil,List.foldl_cons,Act.put,List.setIfInBounds_toArray,List.set_cons_zero,List.set_cons_succ,h4]
    exact StStep.slice1 (enc:=encR) H rfl rfl rfl rfl rfl rfl rfl rfl rfl x0 rfl encR_len fun b w' H=>⟨trivial,H⟩
   case o6 =>
    intro vals wx X hd H
    clear hd
    replace H:=sP H
    simp only [putS,List.foldl_nil,List.foldl_cons,Act.put,List.setIfInBounds_toArray,List.set_cons_zero,List.set_cons_succ]
    exact StStep.append (enc:=encR) rfl rfl rfl rfl rfl (by decide) (by decide) rfl rfl H (H.get (Pick.there Pick.here)) encR_len encR_one (by simp;omega) fun v' w' H=>⟨trivial,H⟩
   case o7 =>
    intro vals wx X hd H
    clear hd
    replace H:=sP H
    simp only [putS,List.foldl_nil]
    exact StStep.slice0 (enc:=encN) H rfl rfl rfl rfl encN_len fun b w' H=>⟨trivial,H⟩
   case o8 =>
    intro vals wx X hd H
    clear hd
    replace H:=sP H
    simp only [putS,List.foldl_nil]
    go_simp
    first | exact H | exact ⟨rfl,H⟩
   case o9 =>
    intro vals wx X hd H
    have h8:vals 8 = .pointer (some ⟨b3,1,none⟩):=hd.1
    clear hd
    replace H:=sP H
    simp only [putS,List.foldl_nil,List.foldl_cons,Act.put,List.setIfInBounds_toArray,List.set_cons_zero,List.set_cons_succ,h8]
    first | refine StStep.cellT rfl rfl rfl gt rfl rfl ⟨rfl,H⟩ | refine StStep.wholeT rfl rfl rfl gt rfl ⟨rfl,H⟩
   case o10 =>
    intro vals wx X hd H
    have h9:vals 9 = .slice ad2 l.length c2:=hd.1
    clear hd
    replace H:=sP H
    simp only [putS,List.foldl_nil,List.foldl_cons,Act.put,List.setIfInBounds_toArray,List.set_cons_zero,List.set_cons_succ,h9]
    exact StStep.append (enc:=encN) rfl rfl rfl rfl rfl (by decide) (by decide) rfl rfl H (H.known HK pk) encN_len encN_one (by simp;omega) fun v' w' H=>⟨trivial,H⟩
   case o11 =>
    intro vals wx X hd H
    clear hd
    replace H:=sP H
    simp only [putS,List.foldl_nil]
    go_simp
    first | exact H | exact ⟨rfl,H⟩
   case o12 =>
    intro vals wx X hd H
    have h11:vals 11 = .int .i64 x0.w.len:=hd.1
    clear hd
    replace H:=sP H
    simp only [putS,List.foldl_nil,List.foldl_cons,Act.put,List.setIfInBounds_toArray,List.set_cons_zero,List.set_cons_succ,h11]
    exact StStep.slice1 (enc:=encN) H rfl rfl rfl rfl rfl rfl rfl rfl rfl x0 rfl encN_len fun b w' H=>⟨trivial,H⟩
   case o13 =>
    intro vals wx X hd H
    clear hd
    replace H:=sP H
    simp only [putS,List.foldl_nil,List.foldl_cons,Act.put,List.setIfInBounds_toArray,List.set_cons_zero,List.set_cons_succ]
    exact StStep.append (enc:=encN) rfl rfl rfl rfl rfl (by decide) (by decide) rfl rfl H (H.get (Pick.there Pick.here)) encN_len encN_one (by simp;omega) fun v' w' H=>⟨trivial,H⟩
   case o14 =>
    intro vals wx X hd H
    have h6:=hd.1
    have h13:=hd.2.1
    clear hd
    replace H:=sP H
    simp only [putS,List.foldl_nil,List.foldl_cons,Act.put,List.setIfInBounds_toArray,List.set_cons_zero,List.set_cons_succ]
    clear h6 h13
    obtain ⟨pa,pc,hp,_⟩:=rowsA_shape (H.get (A:=rowsA encR 110 5 (vals 6) (l ++ [x0])) pk)
    obtain ⟨qa,qc,hq,_⟩:=rowsA_shape (H.get (A:=rowsA encN 3 1 (vals 13) (l ++ [x0])) pk)
    have HP:=Lib.hid (And.intro hp hq)
    refine StStep.val (v:=.agg #[vals 6,vals 13]) rfl ?_ ⟨⟨_,_,rfl,rfl⟩,H⟩
    clear H
    rw [hp,hq]
    clear hp hq
    go_simp
   case o15 =>
    intro vals wx X hd H
    clear hd
    replace H:=sP H
    simp only [putS,List.foldl_nil]
    go_simp
    first | exact H | exact ⟨rfl,H⟩
   case o16 =>
    intro vals wx X hd H
    have h15:vals 15 = .pointer (some ⟨b3,0,none⟩):=hd.1
    clear hd
    replace H:=sP H
    simp only [putS,List.foldl_nil,List.foldl_cons,Act.put,List.setIfInBounds_toArray,List.set_cons_zero,List.set_cons_succ,h15]
    first | refine StStep.cellT rfl rfl rfl gt rfl rfl ⟨rfl,H⟩ | refine StStep.wholeT rfl rfl rfl gt rfl ⟨rfl,H⟩
   case o17 =>
    intro vals wx X hd H
    have h16:vals 16 = .slice ad1 l.length c1:=hd.1
    clear hd
    replace H:=sP H
    simp only [putS,List.foldl_nil,List.foldl_cons,Act.put,List.setIfInBounds_toArray,List.set_cons_zero,List.set_cons_succ,h16]
    clear h16
    go_simp
    first | exact H | exact ⟨rfl,H⟩
   case o18 =>
    intro vals wx X hd H
    have h17:vals 17 = .int .i64 l.length:=hd.1
    clear hd
    replace H:=sP H
    simp only [putS,List.foldl_nil,List.foldl_cons,Act.put,List.setIfInBounds_toArray,List.set_cons_zero,List.set_cons_succ,h17]
    have hw:=IntWalk.i64_in ((l.length:Int) + 1) (by omega)
    clear h17
    go_simp
    first | exact H | exact ⟨rfl,H⟩
   case o19 =>
    intro vals wx X hd H
    have h14:=hd.1
    have h6:=hd.2.1
    have h13:=hd.2.2.1
    clear hd
    replace H:=sP H
    simp only [putS,List.foldl_nil,List.foldl_cons,Act.put,List.setIfInBounds_toArray,List.set_cons_zero,List.set_cons_succ]
    obtain ⟨p,q,e1,e2⟩:∃ p q,[vals 6,vals 13] = [p,q]∧vals 14 = .agg #[p,q]:=h14
    clear h6 h13
    obtain ⟨pa,pc,hp,_⟩:=rowsA_shape (H.get (A:=rowsA encR 110 5 (vals 6) (l ++ [x0])) pk)
    obtain ⟨qa,qc,hq,_⟩:=rowsA_shape (H.get (A:=rowsA encN 3 1 (vals 13) (l ++ [x0])) pk)
    simp only [List.cons.injEq,and_true] at e1
    obtain ⟨e3,e4⟩:=e1
    subst e3 e4
    refine StStep.storeT (cs':=#[vals 6,vals 13]) rfl rfl rfl (by rw [e2];rfl) rfl (by rw [hp,hq];rfl) H rfl fun w' H=>⟨trivial,H⟩
   case o20 =>
    intro vals wx X hd H
    have h18:vals 18 = .int .i64 ((l.length:Int) + 1):=hd.1
    clear hd
    replace H:=sP H
    simp only [putS,List.foldl_nil,List.foldl_cons,Act.put,List.setIfInBounds_toArray,List.set_cons_zero,List.set_cons_succ,h18]
    clear h18
    go_simp
    first | exact H | exact ⟨rfl,H⟩
   case fin =>
    intro vals wx hd H
    have h1:vals 1 = .pointer (some ⟨b3,0,none⟩):=hd.2.1
    have h2:vals 2 = .slice ad1 l.length c1:=hd.2.2.1
    have h4:vals 4 = ruleV x0.r:=hd.2.2.2.2.1
    have h8:vals 8 = .pointer (some ⟨b3,1,none⟩):=hd.2.2.2.2.2.2.2.2.1
    have h9:vals 9 = .slice ad2 l.length c2:=hd.2.2.2.2.2.2.2.2.2.1
    have h11:vals 11 = .int .i64 x0.w.len:=hd.2.2.2.2.2.2.2.2.2.2.2.1
    have h14:=hd.2.2.2.2.2.2.2.2.2.2.2.2.2.2.1
    have h15:vals 15 = .pointer (some ⟨b3,0,none⟩):=hd.2.2.2.2.2.2.2.2.2.2.2.2.2.2.2.1
    have h16:vals 16 = .slice ad1 l.length c1:=hd.2.2.2.2.2.2.2.2.2.2.2.2.2.2.2.2.1
    have h17:vals 17 = .int .i64 l.length:=hd.2.2.2.2.2.2.2.2.2.2.2.2.2.2.2.2.2.1
    have h18:vals 18 = .int .i64 ((l.length:Int) + 1):=hd.2.2.2.2.2.2.2.2.2.2.2.2.2.2.2.2.2.2.1
    have h20:vals 20 = .int .i64 ((l.length:Int) + 1):=hd.2.2.2.2.2.2.2.2.2.2.2.2.2.2.2.2.2.2.2.2.1
    clear hd
    replace H:=sP H
    simp only [putS,List.foldl_nil,List.foldl_cons,Act.put,List.setIfInBounds_toArray,List.set_cons_zero,List.set_cons_succ,List.drop_succ_cons,List.drop_zero,h1,h2,h4,h8,h9,h11,h15,h16,h17,h18,h20]
    clear h1 h2 h4 h8 h9 h11 h15 h16 h17 h18 h20
    obtain ⟨p,q,e1,e2⟩:∃ p q,[vals 6,vals 13] = [p,q]∧vals 14 = .agg #[p,q]:=h14
    simp only [List.cons.injEq,and_true] at e1
    obtain ⟨e3,e4⟩:=e1
    subst e3 e4
    clear e2
    simp only [List.map_cons,List.map_nil,List.cons_append,List.nil_append] at H
    generalize vals 6 = vp at H ⊢
    generalize vals 13 = vq at H ⊢
    go_wp2_with (first | refine sL ?_ | (refine sS ?_;clear H;intros;rename_i H))
    exact bodyPost_ret (res_row_tmp rfl H rfl pk rfl rfl) rfl ⟨vp,vq,rfl,(H.pick2 (A:=rowsA encR 110 5 vp (l ++ [x0])) (B:=rowsA encN 3 1 vq (l ++ [x0])) pk pk).onlyTwo⟩
end
section
open Go.RowKit Go.Maps
attribute [local go_sem] InGr
def refA (vr vl:Value) (l:List En):As:=(rowsA encR 110 5 vr l).sep (rowsA encN 3 1 vl l)
theorem refA_ks {vr vl:Value} {l:List En} {w:World} (h:(refA vr vl l).ho w):(rowsA encR 110 5 vr l).ho w∧(rowsA encN 3 1 vl l).ho w:=by
 unfold refA at h;rw [sep_ho] at h;exact ⟨h.1,h.2.1⟩
theorem refA_shape {vr vl:Value} {l:List En} {w:World} (h:(refA vr vl l).ho w):∃ a c b d,vr = .slice a l.length c∧vl = .slice b l.length d:=by
 obtain ⟨h1,h2⟩:=refA_ks h
 obtain ⟨a,c,e1,_⟩:=rowsA_shape h1
 obtain ⟨b,d,e2,_⟩:=rowsA_shape h2
 exact ⟨a,c,b,d,e1,e2⟩
theorem refA_of {vr vl:Value} {l:List En} {w0 w:World} {M:List Nat} {R:List As} (h:St w0 M (rowsA encR 110 5 vr l :: rowsA encN 3 1 vl l :: R) w):St w0 M (refA vr vl l :: R) w:=h.join
def RefPost (M:List Nat) (id:Nat) (l':List En) (w:World) (e:Ending) (w':World):Prop:=∃ vr vl,e = .returned (.tuple #[.agg #[vr,vl],.int .i64 id])∧St w M [refA vr vl l'] w'
theorem RefPost.mk' {M:List Nat} {id:Nat} {l':List En} {w:World} {e:Ending} {w':World} (vr vl:Value) (he:e = .returned (.tuple #[.agg #[vr,vl],.int .i64 id])) (h:St w M [refA vr vl l'] w'):RefPost M id l' w e w':=⟨vr,vl,he,h⟩
theorem St.stay {A:As} {w w':World} (hA:A.ho w) (h:St w [] [] w'):St w A.fp [A] w':=by
 have:=(St.one hA).grew h.below
 exact this
theorem radd_some {vr vl:Value} {l:List En} {i:Nat} (x0:En) (hl:(Sto.mk 0 l).look x0.r = some i) (w:World) (h:(refA vr vl l).ho w) :
  Calls Tryz.prog 82 #[.agg #[vr,vl],ruleV x0.r,.int .i64 x0.w.len] w (RefPost (refA vr vl l).fp (i + 1) l w) :=
 (radd_hit x0.r x0.w.len hl w (refA_ks h).1 (refA_ks h).2).mono fun e w' ⟨he,hs⟩=>⟨vr,vl,by rw [he];simp,St.stay h hs⟩
theorem radd_none {vr vl:Value} {l:List En} (x0:En) (hl:(Sto.mk 0 l).look x0.r = none) (hlen:l.length≤1048576) (w:World) (h:(refA vr vl l).ho w) :
  Calls Tryz.prog 82 #[.agg #[vr,vl],ruleV x0.r,.int .i64 x0.w.len] w (RefPost (refA vr vl l).fp (l.length + 1) (l ++ [x0]) w) :=
 (radd_miss x0 (look_none hl) hlen w (refA_ks h).1 (refA_ks h).2).mono fun e w' ⟨vr',vl',he,hs⟩=>⟨vr',vl',by rw [he];simp,(refA_of hs).widen (by simp)⟩
theorem radd_c {vr vl:Value} {S:Sto} (x0:En) (hroom:S.list.length < S.most) (hm:S.most≤1048576) (w:World) (h:(refA vr vl S.list).ho w) :
  Calls Tryz.prog 82 #[.agg #[vr,vl],ruleV x0.r,.int .i64 x0.w.len] w (RefPost (refA vr vl S.list).fp (S.put x0).1.1 (S.put x0).2.list w):=by
 have e:(Sto.mk 0 S.list).look x0.r = S.look x0.r:=rfl
 unfold Sto.put
 cases hl:S.look x0.r with
 |some i=>exact radd_some x0 (by rw [e];exact hl) w h
 |none =>
  simp only [if_neg (show ¬ S.most≤S.list.length by omega)]
  exact radd_none x0 (by rw [e];exact hl) (by omega) w h
def pickN (n:Int) (m:Nat):Nat:=(n % (m:Int)).toNat
theorem pickN_lt {n:Int} {m:Nat} (h:0 < m):pickN n m < m:=by
 unfold pickN
 have:=Int.emod_nonneg n (show (m:Int)≠0 by omega)
 have:=Int.emod_lt_of_pos n (show 0 < (m:Int) by omega)
 omega
theorem tmod_case (n:Int) (m:Nat) (h:0 < m):n % (m:Int) = if n.tmod m < 0 then n.tmod m + m else n.tmod m:=by
 have h0:=Int.mul_tdiv_add_tmod n m
 have h3:=Int.tmod_lt_of_pos n (show 0 < (m:Int) by omega)
 have h4:=Int.lt_tmod_of_pos n (show 0 < (m:Int) by omega)
 generalize n.tmod m = t at *
 have e:n % (m:Int) = t % (m:Int):=by
  rw [← h0,Int.mul_add_emod_self_left]
 rw [e]
 split
 ·rw [← Int.add_emod_right,Int.emod_eq_of_lt (by omega) (by omega)]
 ·rw [Int.emod_eq_of_lt (by omega) (by omega)]
theorem pick_c (n:Int) (m:Nat) (h1:-9223372036854775808≤n) (h2:n≤9223372036854775807) (hm:0 < m) (hm2:m≤1048577) (w:World) :
  Calls Tryz.prog 22 #[.int .i64 n,.int .i64 m] w fun e w'=>e = .returned (.int .i64 (pickN n m))∧w' = w:=by
 have hp:((pickN n m:Nat):Int) = n % (m:Int):=by
  unfold pickN
  have:=Int.emod_nonneg n (show (m:Int)≠0 by omega)
  omega
 have hb1:-(m:Int) < n.tmod m:=Int.lt_tmod_of_pos n (show 0 < (m:Int) by omega)
 have hb2:n.tmod m < m:=Int.tmod_lt_of_pos n (show 0 < (m:Int) by omega)
 rw [tmod_case n m hm] at hp
 have HP:=Lib.hid hp
 clear hp
 go_enter Tryz.func22,Tryz.ntmps22
 go_wp2_with (first | refine sL ?_ | fail)
 ·rename_i hneg
  have e:((pickN n m:Nat):Int) = n.tmod m + m:=by rw [HP.out,if_pos hneg]
  rw [e]
  go_ret
  exact ⟨rfl,rfl⟩
 ·rename_i hneg
  have e:((pickN n m:Nat):Int) = n.tmod m:=by rw [HP.out,if_neg (by omega)]
  rw [e]
  go_ret
  exact ⟨rfl,rfl⟩
end
section
open Go.RowKit Go.Maps
attribute [local go_sem] InGr
structure Mk where
 kind:Int
 letter:Nat
 left:Int
 right:Int
 times:Int
def fits64 (n:Int):Prop:=-9223372036854775808≤n∧n≤9223372036854775807
structure Mk.Fits (m:Mk):Prop where
 kind:fits64 m.kind
 letter:m.letter < 256
 left:fits64 m.left
 right:fits64 m.right
 times:fits64 m.times
def mkL (m:Mk):List Value:=[.int .i64 m.kind,.int .u8 m.letter,.int .i64 m.left,.int .i64 m.right,.int .i64 m.times]
def Sto.make (S:Sto) (ids:List Nat) (m:Mk):(Nat × Option Nat) × Sto :=
 if pickN m.kind 4 = 0 then S.letter m.letter
 else if pickN m.kind 4 = 3 then S.power (ids.getD (pickN m.left ids.length) 0) m.times.toNat
 else S.pair (ids.getD (pickN m.left ids.length) 0) (ids.getD (pickN m.right ids.length) 0)
def encI (i:Nat):List Value:=[.int .i64 i]
theorem encI_len (i:Nat):(encI i).length = 1:=rfl
def OnePost (M:List Nat) (rv:Value) (ids:List Nat) (id:Nat) (l':List En) (w:World) (e:Ending) (w':World):Prop :=
 ∃ vr vl,e = .returned (.tuple #[.agg #[vr,vl],.int .i64 id])∧St w M [refA vr vl l',rowsA encI 32 1 rv ids] w'
theorem OnePost.mk' {M:List Nat} {rv:Value} {ids:List Nat} {id:Nat} {l':List En} {w:World} {e:Ending} {w':World} (vr vl:Value) (he:e = .returned (.tuple #[.agg #[vr,vl],.int .i64 id])) (h:St w M [refA vr vl l',rowsA encI 32 1 rv ids] w'):OnePost M rv ids id l' w e w':=⟨vr,vl,he,h⟩
theorem pick4_c (n:Int) (v:Int) (hv:v = (pickN n 4:Nat)) (h:fits64 n) (w:World) :
  Calls Tryz.prog 22 #[.int .i64 n,.int .i64 4] w fun e w'=>e = .returned (.int .i64 v)∧w' = w:=by
 rw [hv];exact pick_c n 4 h.1 h.2 (by omega) (by omega) w
theorem pickf_c (n:Int) (m a:Nat) (ha:a = pickN n m) (h:fits64 n) (hm:0 < m) (hm2:m≤1048577) (w:World) :
  Calls Tryz.prog 22 #[.int .i64 n,.int .i64 m] w fun e w'=>e = .returned (.int .i64 a)∧w' = w:=by
 rw [ha];exact pick_c n m h.1 h.2 hm hm2 w
def tup1:Value→Value
 |.tuple #[.agg #[p,_],_]=>p
 |_=>undef
def tup2:Value→Value
 |.tuple #[.agg #[_,q],_]=>q
 |_=>undef
theorem quiet_st_x {f:FuncId} {args:Array Value} {v:Value} {w:World} {x:Gr w} (h:Calls Tryz.prog f args x.1 fun e w'=>e = .returned v∧St x.1 [] [] w'):Calls Tryz.prog f args x.1 fun e w''=>e = .returned v∧∃ y:Gr w,w'' = y.1:=quiet_st h
theorem rlen_c {vr vl:Value} {S:Sto} {l:Nat} {x:En} (hx:enAt S l = some x) (w:World) (h:(refA vr vl S.list).ho w) :
  Calls Tryz.prog 83 #[.agg #[vr,vl],.int .i64 l] w fun e w'=>e = .returned (.int .i64 x.w.len)∧St w [] [] w':=by
 cases l with
 |zero =>
  obtain rfl:_ = x:=Option.some.inj hx
  exact rlen_zero w
 |succ l=>exact rlen_in (by simpa [enAt] using hx) w (refA_ks h).2
attribute [local irreducible] refA pickN
attribute [local go_sem] StStep stAt stUpon in
theorem one_letter {vr vl rv:Value} {S:Sto} {ids:List Nat} {m:Mk} (hm:m.Fits) (hO:S.Ok) (h0:0 < ids.length) (hids:ids.length≤1048576) (hroom:S.list.length < S.most) {l r:Nat} (hle:ids[pickN m.left ids.length]? = some l) (hre:ids[pickN m.right ids.length]? = some r) {x y:En} (hx:enAt S l = some x) (hy:enAt S r = some y) (hk:pickN m.kind 4 = 0) (w:World) (h:((refA vr vl S.list).sep (rowsA encI 32 1 rv ids)).ho w) :
  Calls Tryz.prog 55 #[.agg #[vr,vl],.agg (mkL m).toArray,rv] w (OnePost ((refA vr vl S.list).sep (rowsA encI 32 1 rv ids)).fp rv ids (S.put (letterE m.letter)).1.1 (S.put (letterE m.letter)).2.list w):=by
 have H:=(St.one h).sep
 have hv:=refA_shape (H.get Pick.here)
 have hr:=rowsA_cases (H.get (Pick.there Pick.here)) h0
 generalize ((refA vr vl S.list).sep (rowsA encI 32 1 rv ids)).fp = M at H ⊢
 obtain ⟨ad1,c1,ad2,c2,rfl,rfl⟩:=hv
 obtain ⟨g,c,rfl,hc,hcm⟩:=hr
 have hmost:=hO.most
 have HP1:Hid (∀ w,Calls Tryz.prog 22 #[.int .i64 m.left,.int .i64 ids.length] w fun e w'=>e = .returned (.int .i64 (pickN m.left ids.length:Nat))∧w' = w):=Lib.hid fun w=>pickf_c m.left ids.length _ rfl hm.left h0 (by omega) w
 have HP2:Hid (∀ w,Calls Tryz.prog 22 #[.int .i64 m.right,.int .i64 ids.length] w fun e w'=>e = .returned (.int .i64 (pickN m.right ids.length:Nat))∧w' = w):=Lib.hid fun w=>pickf_c m.right ids.length _ rfl hm.right h0 (by omega) w
 have HP3:Hid (∀ w,Calls Tryz.prog 22 #[.int .i64 m.kind,.int .i64 4] w fun e w'=>e = .returned (.int .i64 0)∧w' = w):=Lib.hid fun w=>pick4_c m.kind 0 (by rw [hk];rfl) hm.kind w
 have HL1:Hid (∀ w,(refA (.slice ad1 S.list.length c1) (.slice ad2 S.list.length c2) S.list).ho w→Calls Tryz.prog 83 #[.agg #[.slice ad1 S.list.length c1,.slice ad2 S.list.length c2],.int .i64 l] w fun e w'=>e = .returned (.int .i64 x.w.len)∧St w [] [] w'):=Lib.hid fun w h=>rlen_c hx w h
 have HL2:Hid (∀ w,(refA (.slice ad1 S.list.length c1) (.slice ad2 S.list.length c2) S.list).ho w→Calls Tryz.prog 83 #[.agg #[.slice ad1 S.list.length c1,.slice ad2 S.list.length c2],.int .i64 r] w fun e w'=>e = .returned (.int .i64 y.w.len)∧St w [] [] w'):=Lib.hid fun w h=>rlen_c hy w h
 have hl:=pickN_lt (n:=m.left) h0
 have hri:=pickN_lt (n:=m.right) h0
 have HE:=Lib.hid (And.intro hle hre)
 have HA:Hid (∀ w,(refA (.slice ad1 S.list.length c1) (.slice ad2 S.list.length c2) S.list).ho w→Calls Tryz.prog 82 #[.agg #[.slice ad1 S.list.length c1,.slice ad2 S.list.length c2],.agg #[.int .i64 1,.int .u8 m.letter,.int .i64 0,.int .i64 0,.int .i64 0],.int .i64 1] w (RefPost (refA (.slice ad1 S.list.length c1) (.slice ad2 S.list.length c2) S.list).fp (S.put (letterE m.letter)).1.1 (S.put (letterE m.letter)).2.list w)):=Lib.hid fun w h=>by
  have:=radd_c (letterE m.letter) hroom hmost w h
  rw [show (letterE m.letter).w.len = 1 from letter_len _] at this
  exact this
 have hT:=hm.times
 unfold fits64 at hT
 clear h hk hle hre hx hy hm hroom hO hmost
 generalize pickN m.left ids.length = a at *
 generalize pickN m.right ids.length = b at *
 unfold maxLen at hcm
 unfold mkL
 go_enter Tryz.func55,Tryz.ntmps55
 go_wp2_with (first | refine sL ?_ | (refine sS ?_;clear H;intros;rename_i H) | (go_at_call 22;with_reducible refine same (HP1.out _) ?_) | (go_at_call 22;with_reducible refine same (HP2.out _) ?_) | (go_at_call 22;with_reducible refine same (HP3.out _) ?_) | ((with_reducible refine isLoad ?_);refine AtLoad.cel rfl rfl rfl rfl (rowsA_cell1 (H.get (A:=rowsA encI 32 1 (.slice (some ⟨g,0,none⟩) ids.length c) ids) pk) encI_len HE.out.1 rfl) ?_;simp only [Act.put,puA,puB,puC]) | ((with_reducible refine isLoad ?_);refine AtLoad.cel rfl rfl rfl rfl (rowsA_cell1 (H.get (A:=rowsA encI 32 1 (.slice (some ⟨g,0,none⟩) ids.length c) ids) pk) encI_len HE.out.2 rfl) ?_;simp only [Act.put,puA,puB,puC]) | (go_at_call 83;with_reducible refine Calls.mono (HL1.out _ (H.get (A:=(refA (.slice ad1 S.list.length c1) (.slice ad2 S.list.length c2) S.list)) pk)) ?_;rintro e wc ⟨rfl,hb⟩;replace H:=H.grew hb.below;clear hb))
 refine (HA.out _ (H.get pk)).mono ?_
 rintro e wc ⟨vr',vl',rfl,hb⟩
 replace H:=(H.pick (A:=(refA (.slice ad1 S.list.length c1) (.slice ad2 S.list.length c2) S.list)) pk).call hb
 clear hb
 obtain ⟨ad3,c3,ad4,c4,rfl,rfl⟩:=refA_shape (H.get Pick.here)
 go_wp2_with (first | refine sL ?_ | (refine sS ?_;clear H;intros;rename_i H))
 exact bodyPost_ret (res_row_tmp rfl H rfl pk rfl rfl) rfl (OnePost.mk' _ _ rfl (H.pick2 (A:=refA _ _ (S.put (letterE m.letter)).2.list) (B:=rowsA encI 32 1 (.slice (some ⟨g,0,none⟩) ids.length c) ids) pk pk).onlyTwo)
attribute [local go_sem] StStep stAt stUpon in
theorem one_pow0 {vr vl rv:Value} {S:Sto} {ids:List Nat} {m:Mk} (hm:m.Fits) (hO:S.Ok) (h0:0 < ids.length) (hids:ids.length≤1048576) (hroom:S.list.length < S.most) {l r:Nat} (hle:ids[pickN m.left ids.length]? = some l) (hre:ids[pickN m.right ids.length]? = some r) {x y:En} (hx:enAt S l = some x) (hy:enAt S r = some y) (hk:pickN m.kind 4 = 3) (hl0:((l:Int) == 0) = true) (w:World) (h:((refA vr vl S.list).sep (rowsA encI 32 1 rv ids)).ho w) :
  Calls Tryz.prog 55 #[.agg #[vr,vl],.agg (mkL m).toArray,rv] w (OnePost ((refA vr vl S.list).sep (rowsA encI 32 1 rv ids)).fp rv ids 0 S.list w):=by
 have H:=(St.one h).sep
 have hv:=refA_shape (H.get Pick.here)
 have hr:=rowsA_cases (H.get (Pick.there Pick.here)) h0
 generalize ((refA vr vl S.list).sep (rowsA encI 32 1 rv ids)).fp = M at H ⊢
 obtain ⟨ad1,c1,ad2,c2,rfl,rfl⟩:=hv
 obtain ⟨g,c,rfl,hc,hcm⟩:=hr
 have hmost:=hO.most
 have HP1:Hid (∀ w,Calls Tryz.prog 22 #[.int .i64 m.left,.int .i64 ids.length] w fun e w'=>e = .returned (.int .i64 (pickN m.left ids.length:Nat))∧w' = w):=Lib.hid fun w=>pickf_c m.left ids.length _ rfl hm.left h0 (by omega) w
 have HP2:Hid (∀ w,Calls Tryz.prog 22 #[.int .i64 m.right,.int .i64 ids.length] w fun e w'=>e = .returned (.int .i64 (pickN m.right ids.length:Nat))∧w' = w):=Lib.hid fun w=>pickf_c m.right ids.length _ rfl hm.right h0 (by omega) w
 have HP3:Hid (∀ w,Calls Tryz.prog 22 #[.int .i64 m.kind,.int .i64 4] w fun e w'=>e = .returned (.int .i64 3)∧w' = w):=Lib.hid fun w=>pick4_c m.kind 3 (by rw [hk];rfl) hm.kind w
 have HL1:Hid (∀ w,(refA (.slice ad1 S.list.length c1) (.slice ad2 S.list.length c2) S.list).ho w→Calls Tryz.prog 83 #[.agg #[.slice ad1 S.list.length c1,.slice ad2 S.list.length c2],.int .i64 l] w fun e w'=>e = .returned (.int .i64 x.w.len)∧St w [] [] w'):=Lib.hid fun w h=>rlen_c hx w h
 have HL2:Hid (∀ w,(refA (.slice ad1 S.list.length c1) (.slice ad2 S.list.length c2) S.list).ho w→Calls Tryz.prog 83 #[.agg #[.slice ad1 S.list.length c1,.slice ad2 S.list.length c2],.int .i64 r] w fun e w'=>e = .returned (.int .i64 y.w.len)∧St w [] [] w'):=Lib.hid fun w h=>rlen_c hy w h
 have hl:=pickN_lt (n:=m.left) h0
 have hri:=pickN_lt (n:=m.right) h0
 have HE:=Lib.hid (And.intro hle hre)
 have hT:=hm.times
 unfold fits64 at hT
 clear h hk hle hre hx hy hm hroom hO hmost
 generalize pickN m.left ids.length = a at *
 generalize pickN m.right ids.length = b at *
 unfold maxLen at hcm
 unfold mkL
 go_enter Tryz.func55,Tryz.ntmps55
 go_wp2_with (first | refine sL ?_ | (refine sS ?_;clear H;intros;rename_i H) | (go_at_call 22;with_reducible refine same (HP1.out _) ?_) | (go_at_call 22;with_reducible refine same (HP2.out _) ?_) | (go_at_call 22;with_reducible refine same (HP3.out _) ?_) | ((with_reducible refine isLoad ?_);refine AtLoad.cel rfl rfl rfl rfl (rowsA_cell1 (H.get (A:=rowsA encI 32 1 (.slice (some ⟨g,0,none⟩) ids.length c) ids) pk) encI_len HE.out.1 rfl) ?_;simp only [Act.put,puA,puB,puC]) | ((with_reducible refine isLoad ?_);refine AtLoad.cel rfl rfl rfl rfl (rowsA_cell1 (H.get (A:=rowsA encI 32 1 (.slice (some ⟨g,0,none⟩) ids.length c) ids) pk) encI_len HE.out.2 rfl) ?_;simp only [Act.put,puA,puB,puC]) | (go_at_call 83;with_reducible refine Calls.mono (HL1.out _ (H.get (A:=(refA (.slice ad1 S.list.length c1) (.slice ad2 S.list.length c2) S.list)) pk)) ?_;rintro e wc ⟨rfl,hb⟩;replace H:=H.grew hb.below;clear hb))
 refine wp_region_h H 14 [] [] (by kernel_rfl) (by kernel_rfl) ?_
 apply Exists.intro
 refine ⟨fun w1 hw1 HX=>?_,fun bs wr Hr=>?_⟩
 ·refine sG ?_
  repeat (first | refine sQ ?_ | fail | go_big_quiet_step (fail))
  exact wpQuiet_nil rfl
 clear H
 have H:=Hr
 clear Hr
 replace H:=sH H;refine sT ?_
 go_wp2_with (first | refine sL ?_ | (refine sS ?_;clear H;intros;rename_i H))
 exact bodyPost_ret (res_row_tmp rfl H rfl pk rfl rfl) rfl (OnePost.mk' _ _ rfl (H.pick2 (A:=(refA (.slice ad1 S.list.length c1) (.slice ad2 S.list.length c2) S.list)) (B:=rowsA encI 32 1 (.slice (some ⟨g,0,none⟩) ids.length c) ids) pk pk).onlyTwo)
attribute [local go_sem] StStep stAt stUpon in
theorem one_powt {vr vl rv:Value} {S:Sto} {ids:List Nat} {m:Mk} (hm:m.Fits) (hO:S.Ok) (h0:0 < ids.length) (hids:ids.length≤1048576) (hroom:S.list.length < S.most) {l r:Nat} (hle:ids[pickN m.left ids.length]? = some l) (hre:ids[pickN m.right ids.length]? = some r) {x y:En} (hx:enAt S l = some x) (hy:enAt S r = some y) (hk:pickN m.kind 4 = 3) (hl0:((l:Int) == 0) = false) (ht0:m.times≤0) (w:World) (h:((refA vr vl S.list).sep (rowsA encI 32 1 rv ids)).ho w) :
  Calls Tryz.prog 55 #[.agg #[vr,vl],.agg (mkL m).toArray,rv] w (OnePost ((refA vr vl S.list).sep (rowsA encI 32 1 rv ids)).fp rv ids 0 S.list w):=by
 have H:=(St.one h).sep
 have hv:=refA_shape (H.get Pick.here)
 have hr:=rowsA_cases (H.get (Pick.there Pick.here)) h0
 generalize ((refA vr vl S.list).sep (rowsA encI 32 1 rv ids)).fp = M at H ⊢
 obtain ⟨ad1,c1,ad2,c2,rfl,rfl⟩:=hv
 obtain ⟨g,c,rfl,hc,hcm⟩:=hr
 have hmost:=hO.most
 have HP1:Hid (∀ w,Calls Tryz.prog 22 #[.int .i64 m.left,.int .i64 ids.length] w fun e w'=>e = .returned (.int .i64 (pickN m.left ids.length:Nat))∧w' = w):=Lib.hid fun w=>pickf_c m.left ids.length _ rfl hm.left h0 (by omega) w
 have HP2:Hid (∀ w,Calls Tryz.prog 22 #[.int .i64 m.right,.int .i64 ids.length] w fun e w'=>e = .returned (.int .i64 (pickN m.right ids.length:Nat))∧w' = w):=Lib.hid fun w=>pickf_c m.right ids.length _ rfl hm.right h0 (by omega) w
 have HP3:Hid (∀ w,Calls Tryz.prog 22 #[.int .i64 m.kind,.int .i64 4] w fun e w'=>e = .returned (.int .i64 3)∧w' = w):=Lib.hid fun w=>pick4_c m.kind 3 (by rw [hk];rfl) hm.kind w
 have HL1:Hid (∀ w,(refA (.slice ad1 S.list.length c1) (.slice ad2 S.list.length c2) S.list).ho w→Calls Tryz.prog 83 #[.agg #[.slice ad1 S.list.length c1,.slice ad2 S.list.length c2],.int .i64 l] w fun e w'=>e = .returned (.int .i64 x.w.len)∧St w [] [] w'):=Lib.hid fun w h=>rlen_c hx w h
 have HL2:Hid (∀ w,(refA (.slice ad1 S.list.length c1) (.slice ad2 S.list.length c2) S.list).ho w→Calls Tryz.prog 83 #[.agg #[.slice ad1 S.list.length c1,.slice ad2 S.list.length c2],.int .i64 r] w fun e w'=>e = .returned (.int .i64 y.w.len)∧St w [] [] w'):=Lib.hid fun w h=>rlen_c hy w h
 have hl:=pickN_lt (n:=m.left) h0
 have hri:=pickN_lt (n:=m.right) h0
 have HE:=Lib.hid (And.intro hle hre)
 have hT:=hm.times
 unfold fits64 at hT
 clear h hk hle hre hx hy hm hroom hO hmost
 generalize pickN m.left ids.length = a at *
 generalize pickN m.right ids.length = b at *
 unfold maxLen at hcm
 unfold mkL
 go_enter Tryz.func55,Tryz.ntmps55
 go_wp2_with (first | refine sL ?_ | (refine sS ?_;clear H;intros;rename_i H) | (go_at_call 22;with_reducible refine same (HP1.out _) ?_) | (go_at_call 22;with_reducible refine same (HP2.out _) ?_) | (go_at_call 22;with_reducible refine same (HP3.out _) ?_) | ((with_reducible refine isLoad ?_);refine AtLoad.cel rfl rfl rfl rfl (rowsA_cell1 (H.get (A:=rowsA encI 32 1 (.slice (some ⟨g,0,none⟩) ids.length c) ids) pk) encI_len HE.out.1 rfl) ?_;simp only [Act.put,puA,puB,puC]) | ((with_reducible refine isLoad ?_);refine AtLoad.cel rfl rfl rfl rfl (rowsA_cell1 (H.get (A:=rowsA encI 32 1 (.slice (some ⟨g,0,none⟩) ids.length c) ids) pk) encI_len HE.out.2 rfl) ?_;simp only [Act.put,puA,puB,puC]) | (go_at_call 83;with_reducible refine Calls.mono (HL1.out _ (H.get (A:=(refA (.slice ad1 S.list.length c1) (.slice ad2 S.list.length c2) S.list)) pk)) ?_;rintro e wc ⟨rfl,hb⟩;replace H:=H.grew hb.below;clear hb))
 refine wp_region_h H 14 [] [] (by kernel_rfl) (by kernel_rfl) ?_
 apply Exists.intro
 refine ⟨fun w1 hw1 HX=>?_,fun bs wr Hr=>?_⟩
 ·refine sG ?_
  repeat (first | refine sQ ?_ | fail | go_big_quiet_step (fail))
  exact wpQuiet_nil rfl
 clear H
 have H:=Hr
 clear Hr
 replace H:=sH H;refine sT ?_
 go_wp2_with (first | refine sL ?_ | (refine sS ?_;clear H;intros;rename_i H))
 exact bodyPost_ret (res_row_tmp rfl H rfl pk rfl rfl) rfl (OnePost.mk' _ _ rfl (H.pick2 (A:=(refA (.slice ad1 S.list.length c1) (.slice ad2 S.list.length c2) S.list)) (B:=rowsA encI 32 1 (.slice (some ⟨g,0,none⟩) ids.length c) ids) pk pk).onlyTwo)
attribute [local go_sem] StStep stAt stUpon in
theorem one_powlong {vr vl rv:Value} {S:Sto} {ids:List Nat} {m:Mk} (hm:m.Fits) (hO:S.Ok) (h0:0 < ids.length) (hids:ids.length≤1048576) (hroom:S.list.length < S.most) {l r:Nat} (hle:ids[pickN m.left ids.length]? = some l) (hre:ids[pickN m.right ids.length]? = some r) {x y:En} (hx:enAt S l = some x) (hy:enAt S r = some y) (hk:pickN m.kind 4 = 3) (hl0:((l:Int) == 0) = false) (hp:0 < x.w.len) (ht0:0 < m.times) (hq:decide (1152921504606846976 / (x.w.len:Int) < m.times) = true) (w:World) (h:((refA vr vl S.list).sep (rowsA encI 32 1 rv ids)).ho w) :
  Calls Tryz.prog 55 #[.agg #[vr,vl],.agg (mkL m).toArray,rv] w (OnePost ((refA vr vl S.list).sep (rowsA encI 32 1 rv ids)).fp rv ids 0 S.list w):=by
 have H:=(St.one h).sep
 have hv:=refA_shape (H.get Pick.here)
 have hr:=rowsA_cases (H.get (Pick.there Pick.here)) h0
 generalize ((refA vr vl S.list).sep (rowsA encI 32 1 rv ids)).fp = M at H ⊢
 obtain ⟨ad1,c1,ad2,c2,rfl,rfl⟩:=hv
 obtain ⟨g,c,rfl,hc,hcm⟩:=hr
 have hmost:=hO.most
 have HP1:Hid (∀ w,Calls Tryz.prog 22 #[.int .i64 m.left,.int .i64 ids.length] w fun e w'=>e = .returned (.int .i64 (pickN m.left ids.length:Nat))∧w' = w):=Lib.hid fun w=>pickf_c m.left ids.length _ rfl hm.left h0 (by omega) w
 have HP2:Hid (∀ w,Calls Tryz.prog 22 #[.int .i64 m.right,.int .i64 ids.length] w fun e w'=>e = .returned (.int .i64 (pickN m.right ids.length:Nat))∧w' = w):=Lib.hid fun w=>pickf_c m.right ids.length _ rfl hm.right h0 (by omega) w
 have HP3:Hid (∀ w,Calls Tryz.prog 22 #[.int .i64 m.kind,.int .i64 4] w fun e w'=>e = .returned (.int .i64 3)∧w' = w):=Lib.hid fun w=>pick4_c m.kind 3 (by rw [hk];rfl) hm.kind w
 have HL1:Hid (∀ w,(refA (.slice ad1 S.list.length c1) (.slice ad2 S.list.length c2) S.list).ho w→Calls Tryz.prog 83 #[.agg #[.slice ad1 S.list.length c1,.slice ad2 S.list.length c2],.int .i64 l] w fun e w'=>e = .returned (.int .i64 x.w.len)∧St w [] [] w'):=Lib.hid fun w h=>rlen_c hx w h
 have HL2:Hid (∀ w,(refA (.slice ad1 S.list.length c1) (.slice ad2 S.list.length c2) S.list).ho w→Calls Tryz.prog 83 #[.agg #[.slice ad1 S.list.length c1,.slice ad2 S.list.length c2],.int .i64 r] w fun e w'=>e = .returned (.int .i64 y.w.len)∧St w [] [] w'):=Lib.hid fun w h=>rlen_c hy w h
 have hl:=pickN_lt (n:=m.left) h0
 have hri:=pickN_lt (n:=m.right) h0
 have HE:=Lib.hid (And.intro hle hre)
 have hd0:decide (m.times≤0) = false:=decide_eq_false (by omega)
 have hT:=hm.times
 unfold fits64 at hT
 clear h hk hle hre hx hy hm hroom hO hmost
 generalize pickN m.left ids.length = a at *
 generalize pickN m.right ids.length = b at *
 unfold maxLen at hcm
 unfold mkL
 go_enter Tryz.func55,Tryz.ntmps55
 go_wp2_with (first | refine sL ?_ | (refine sS ?_;clear H;intros;rename_i H) | (go_at_call 22;with_reducible refine same (HP1.out _) ?_) | (go_at_call 22;with_reducible refine same (HP2.out _) ?_) | (go_at_call 22;with_reducible refine same (HP3.out _) ?_) | ((with_reducible refine isLoad ?_);refine AtLoad.cel rfl rfl rfl rfl (rowsA_cell1 (H.get (A:=rowsA encI 32 1 (.slice (some ⟨g,0,none⟩) ids.length c) ids) pk) encI_len HE.out.1 rfl) ?_;simp only [Act.put,puA,puB,puC]) | ((with_reducible refine isLoad ?_);refine AtLoad.cel rfl rfl rfl rfl (rowsA_cell1 (H.get (A:=rowsA encI 32 1 (.slice (some ⟨g,0,none⟩) ids.length c) ids) pk) encI_len HE.out.2 rfl) ?_;simp only [Act.put,puA,puB,puC]) | (go_at_call 83;with_reducible refine Calls.mono (HL1.out _ (H.get (A:=(refA (.slice ad1 S.list.length c1) (.slice ad2 S.list.length c2) S.list)) pk)) ?_;rintro e wc ⟨rfl,hb⟩;replace H:=H.grew hb.below;clear hb))
 refine wp_region_h H 14 [] [] (by kernel_rfl) (by kernel_rfl) ?_
 apply Exists.intro
 refine ⟨fun w1 hw1 HX=>?_,fun bs wr Hr=>?_⟩
 ·refine sG ?_
  repeat (first | refine sQ ?_ | fail | go_big_quiet_step (fail))
  exact wpQuiet_nil rfl
 clear H
 have H:=Hr
 clear Hr
 replace H:=sH H;refine sT ?_
 go_wp2_with (first | refine sL ?_ | (refine sS ?_;clear H;intros;rename_i H))
 exact bodyPost_ret (res_row_tmp rfl H rfl pk rfl rfl) rfl (OnePost.mk' _ _ rfl (H.pick2 (A:=(refA (.slice ad1 S.list.length c1) (.slice ad2 S.list.length c2) S.list)) (B:=rowsA encI 32 1 (.slice (some ⟨g,0,none⟩) ids.length c) ids) pk pk).onlyTwo)
attribute [local go_sem] StStep stAt stUpon in
theorem one_powone {vr vl rv:Value} {S:Sto} {ids:List Nat} {m:Mk} (hm:m.Fits) (hO:S.Ok) (h0:0 < ids.length) (hids:ids.length≤1048576) (hroom:S.list.length < S.most) {l r:Nat} (hle:ids[pickN m.left ids.length]? = some l) (hre:ids[pickN m.right ids.length]? = some r) {x y:En} (hx:enAt S l = some x) (hy:enAt S r = some y) (hk:pickN m.kind 4 = 3) (hl0:((l:Int) == 0) = false) (hp:0 < x.w.len) (ht0:(m.times == 1) = true) (hd0:decide (m.times≤0) = false) (hq:decide (1152921504606846976 / (x.w.len:Int) < m.times) = false) (w:World) (h:((refA vr vl S.list).sep (rowsA encI 32 1 rv ids)).ho w) :
  Calls Tryz.prog 55 #[.agg #[vr,vl],.agg (mkL m).toArray,rv] w (OnePost ((refA vr vl S.list).sep (rowsA encI 32 1 rv ids)).fp rv ids l S.list w):=by
 have H:=(St.one h).sep
 have hv:=refA_shape (H.get Pick.here)
 have hr:=rowsA_cases (H.get (Pick.there Pick.here)) h0
 generalize ((refA vr vl S.list).sep (rowsA encI 32 1 rv ids)).fp = M at H ⊢
 obtain ⟨ad1,c1,ad2,c2,rfl,rfl⟩:=hv
 obtain ⟨g,c,rfl,hc,hcm⟩:=hr
 have hmost:=hO.most
 have HP1:Hid (∀ w,Calls Tryz.prog 22 #[.int .i64 m.left,.int .i64 ids.length] w fun e w'=>e = .returned (.int .i64 (pickN m.left ids.length:Nat))∧w' = w):=Lib.hid fun w=>pickf_c m.left ids.length _ rfl hm.left h0 (by omega) w
 have HP2:Hid (∀ w,Calls Tryz.prog 22 #[.int .i64 m.right,.int .i64 ids.length] w fun e w'=>e = .returned (.int .i64 (pickN m.right ids.length:Nat))∧w' = w):=Lib.hid fun w=>pickf_c m.right ids.length _ rfl hm.right h0 (by omega) w
 have HP3:Hid (∀ w,Calls Tryz.prog 22 #[.int .i64 m.kind,.int .i64 4] w fun e w'=>e = .returned (.int .i64 3)∧w' = w):=Lib.hid fun w=>pick4_c m.kind 3 (by rw [hk];rfl) hm.kind w
 have HL1:Hid (∀ w,(refA (.slice ad1 S.list.length c1) (.slice ad2 S.list.length c2) S.list).ho w→Calls Tryz.prog 83 #[.agg #[.slice ad1 S.list.length c1,.slice ad2 S.list.length c2],.int .i64 l] w fun e w'=>e = .returned (.int .i64 x.w.len)∧St w [] [] w'):=Lib.hid fun w h=>rlen_c hx w h
 have HL2:Hid (∀ w,(refA (.slice ad1 S.list.length c1) (.slice ad2 S.list.length c2) S.list).ho w→Calls Tryz.prog 83 #[.agg #[.slice ad1 S.list.length c1,.slice ad2 S.list.length c2],.int .i64 r] w fun e w'=>e = .returned (.int .i64 y.w.len)∧St w [] [] w'):=Lib.hid fun w h=>rlen_c hy w h
 have hl:=pickN_lt (n:=m.left) h0
 have hri:=pickN_lt (n:=m.right) h0
 have HE:=Lib.hid (And.intro hle hre)
 have hT:=hm.times
 unfold fits64 at hT
 clear h hk hle hre hx hy hm hroom hO hmost
 generalize pickN m.left ids.length = a at *
 generalize pickN m.right ids.length = b at *
 unfold maxLen at hcm
 unfold mkL
 go_enter Tryz.func55,Tryz.ntmps55
 go_wp2_with (first | refine sL ?_ | (refine sS ?_;clear H;intros;rename_i H) | (go_at_call 22;with_reducible refine same (HP1.out _) ?_) | (go_at_call 22;with_reducible refine same (HP2.out _) ?_) | (go_at_call 22;with_reducible refine same (HP3.out _) ?_) | ((with_reducible refine isLoad ?_);refine AtLoad.cel rfl rfl rfl rfl (rowsA_cell1 (H.get (A:=rowsA encI 32 1 (.slice (some ⟨g,0,none⟩) ids.length c) ids) pk) encI_len HE.out.1 rfl) ?_;simp only [Act.put,puA,puB,puC]) | ((with_reducible refine isLoad ?_);refine AtLoad.cel rfl rfl rfl rfl (rowsA_cell1 (H.get (A:=rowsA encI 32 1 (.slice (some ⟨g,0,none⟩) ids.length c) ids) pk) encI_len HE.out.2 rfl) ?_;simp only [Act.put,puA,puB,puC]) | (go_at_call 83;with_reducible refine Calls.mono (HL1.out _ (H.get (A:=(refA (.slice ad1 S.list.length c1) (.slice ad2 S.list.length c2) S.list)) pk)) ?_;rintro e wc ⟨rfl,hb⟩;replace H:=H.grew hb.below;clear hb))
 refine wp_region_h H 14 [] [] (by kernel_rfl) (by kernel_rfl) ?_
 apply Exists.intro
 refine ⟨fun w1 hw1 HX=>?_,fun bs wr Hr=>?_⟩
 ·refine sG ?_
  repeat (first | refine sQ ?_ | fail | go_big_quiet_step (fail))
  exact wpQuiet_nil rfl
 clear H
 have H:=Hr
 clear Hr
 replace H:=sH H;refine sT ?_
 go_wp2_with (first | refine sL ?_ | (refine sS ?_;clear H;intros;rename_i H))
 exact bodyPost_ret (res_row_tmp rfl H rfl pk rfl rfl) rfl (OnePost.mk' _ _ rfl (H.pick2 (A:=(refA (.slice ad1 S.list.length c1) (.slice ad2 S.list.length c2) S.list)) (B:=rowsA encI 32 1 (.slice (some ⟨g,0,none⟩) ids.length c) ids) pk pk).onlyTwo)
attribute [local go_sem] StStep stAt stUpon in
theorem one_powin {vr vl rv:Value} {S:Sto} {ids:List Nat} {m:Mk} (hm:m.Fits) (hO:S.Ok) (h0:0 < ids.length) (hids:ids.length≤1048576) (hroom:S.list.length < S.most) {l r:Nat} (hle:ids[pickN m.left ids.length]? = some l) (hre:ids[pickN m.right ids.length]? = some r) {x y:En} (hx:enAt S l = some x) (hy:enAt S r = some y) (hk:pickN m.kind 4 = 3) (hl0:((l:Int) == 0) = false) (hp:0 < x.w.len) (ht0:(m.times == 1) = false) (k:Nat) (hkt:m.times = k) (hd0:decide (m.times≤0) = false) (hq:decide (1152921504606846976 / (x.w.len:Int) < m.times) = false) (hq2:x.w.len * k≤1152921504606846976) (w:World) (h:((refA vr vl S.list).sep (rowsA encI 32 1 rv ids)).ho w) :
  Calls Tryz.prog 55 #[.agg #[vr,vl],.agg (mkL m).toArray,rv] w (OnePost ((refA vr vl S.list).sep (rowsA encI 32 1 rv ids)).fp rv ids (S.put (powerE x l k)).1.1 (S.put (powerE x l k)).2.list w):=by
 have H:=(St.one h).sep
 have hv:=refA_shape (H.get Pick.here)
 have hr:=rowsA_cases (H.get (Pick.there Pick.here)) h0
 generalize ((refA vr vl S.list).sep (rowsA encI 32 1 rv ids)).fp = M at H ⊢
 obtain ⟨ad1,c1,ad2,c2,rfl,rfl⟩:=hv
 obtain ⟨g,c,rfl,hc,hcm⟩:=hr
 have hmost:=hO.most
 have HP1:Hid (∀ w,Calls Tryz.prog 22 #[.int .i64 m.left,.int .i64 ids.length] w fun e w'=>e = .returned (.int .i64 (pickN m.left ids.length:Nat))∧w' = w):=Lib.hid fun w=>pickf_c m.left ids.length _ rfl hm.left h0 (by omega) w
 have HP2:Hid (∀ w,Calls Tryz.prog 22 #[.int .i64 m.right,.int .i64 ids.length] w fun e w'=>e = .returned (.int .i64 (pickN m.right ids.length:Nat))∧w' = w):=Lib.hid fun w=>pickf_c m.right ids.length _ rfl hm.right h0 (by omega) w
 have HP3:Hid (∀ w,Calls Tryz.prog 22 #[.int .i64 m.kind,.int .i64 4] w fun e w'=>e = .returned (.int .i64 3)∧w' = w):=Lib.hid fun w=>pick4_c m.kind 3 (by rw [hk];rfl) hm.kind w
 have HL1:Hid (∀ w,(refA (.slice ad1 S.list.length c1) (.slice ad2 S.list.length c2) S.list).ho w→Calls Tryz.prog 83 #[.agg #[.slice ad1 S.list.length c1,.slice ad2 S.list.length c2],.int .i64 l] w fun e w'=>e = .returned (.int .i64 x.w.len)∧St w [] [] w'):=Lib.hid fun w h=>rlen_c hx w h
 have HL2:Hid (∀ w,(refA (.slice ad1 S.list.length c1) (.slice ad2 S.list.length c2) S.list).ho w→Calls Tryz.prog 83 #[.agg #[.slice ad1 S.list.length c1,.slice ad2 S.list.length c2],.int .i64 r] w fun e w'=>e = .returned (.int .i64 y.w.len)∧St w [] [] w'):=Lib.hid fun w h=>rlen_c hy w h
 have hl:=pickN_lt (n:=m.left) h0
 have hri:=pickN_lt (n:=m.right) h0
 have HE:=Lib.hid (And.intro hle hre)
 have HA:Hid (∀ w,(refA (.slice ad1 S.list.length c1) (.slice ad2 S.list.length c2) S.list).ho w→Calls Tryz.prog 82 #[.agg #[.slice ad1 S.list.length c1,.slice ad2 S.list.length c2],.agg #[.int .i64 3,.int .u8 0,.int .i64 l,.int .i64 0,.int .i64 m.times],.int .i64 ((x.w.len:Int) * m.times)] w (RefPost (refA (.slice ad1 S.list.length c1) (.slice ad2 S.list.length c2) S.list).fp (S.put (powerE x l k)).1.1 (S.put (powerE x l k)).2.list w)):=Lib.hid fun w h=>by
  have:=radd_c (powerE x l k) hroom hO.most w h
  rw [hkt]
  rw [show ((powerE x l k).w.len:Int) = (x.w.len:Int) * k from by simp [powerE,Wt.rep]] at this
  exact this
 have hmul:wrap64 ((x.w.len:Int) * m.times) = (x.w.len:Int) * m.times:=by
  rw [hkt,← Int.natCast_mul];exact IntWalk.wrap64_in _ (by omega)
 clear hkt
 have hT:=hm.times
 unfold fits64 at hT
 clear h hk hle hre hx hy hm hroom hO hmost
 generalize pickN m.left ids.length = a at *
 generalize pickN m.right ids.length = b at *
 unfold maxLen at hcm
 unfold mkL
 go_enter Tryz.func55,Tryz.ntmps55
 go_wp2_with (first | refine sL ?_ | (refine sS ?_;clear H;intros;rename_i H) | (go_at_call 22;with_reducible refine same (HP1.out _) ?_) | (go_at_call 22;with_reducible refine same (HP2.out _) ?_) | (go_at_call 22;with_reducible refine same (HP3.out _) ?_) | ((with_reducible refine isLoad ?_);refine AtLoad.cel rfl rfl rfl rfl (rowsA_cell1 (H.get (A:=rowsA encI 32 1 (.slice (some ⟨g,0,none⟩) ids.length c) ids) pk) encI_len HE.out.1 rfl) ?_;simp only [Act.put,puA,puB,puC]) | ((with_reducible refine isLoad ?_);refine AtLoad.cel rfl rfl rfl rfl (rowsA_cell1 (H.get (A:=rowsA encI 32 1 (.slice (some ⟨g,0,none⟩) ids.length c) ids) pk) encI_len HE.out.2 rfl) ?_;simp only [Act.put,puA,puB,puC]) | (go_at_call 83;with_reducible refine Calls.mono (HL1.out _ (H.get (A:=(refA (.slice ad1 S.list.length c1) (.slice ad2 S.list.length c2) S.list)) pk)) ?_;rintro e wc ⟨rfl,hb⟩;replace H:=H.grew hb.below;clear hb))
 refine wp_region_h H 14 [] [] (by kernel_rfl) (by kernel_rfl) ?_
 apply Exists.intro
 refine ⟨fun w1 hw1 HX=>?_,fun bs wr Hr=>?_⟩
 ·refine sG ?_
  repeat (first | refine sQ ?_ | fail | go_big_quiet_step (fail))
  exact wpQuiet_nil rfl
 clear H
 have H:=Hr
 clear Hr
 replace H:=sH H;refine sT ?_
 go_wp2_with (first | refine sL ?_ | (refine sS ?_;clear H;intros;rename_i H))
 refine (HA.out _ (H.get pk)).mono ?_
 rintro e wc ⟨vr',vl',rfl,hb⟩
 replace H:=(H.pick (A:=(refA (.slice ad1 S.list.length c1) (.slice ad2 S.list.length c2) S.list)) pk).call hb
 clear hb
 obtain ⟨ad3,c3,ad4,c4,rfl,rfl⟩:=refA_shape (H.get Pick.here)
 go_wp2_with (first | refine sL ?_ | (refine sS ?_;clear H;intros;rename_i H))
 exact bodyPost_ret (res_row_tmp rfl H rfl pk rfl rfl) rfl (OnePost.mk' _ _ rfl (H.pick2 (A:=refA _ _ (S.put (powerE x l k)).2.list) (B:=rowsA encI 32 1 (.slice (some ⟨g,0,none⟩) ids.length c) ids) pk pk).onlyTwo)
attribute [local go_sem] StStep stAt stUpon in
theorem one_left1 {vr vl rv:Value} {S:Sto} {ids:List Nat} {m:Mk} (hm:m.Fits) (hO:S.Ok) (h0:0 < ids.length) (hids:ids.length≤1048576) (hroom:S.list.length < S.most) {l r:Nat} (hle:ids[pickN m.left ids.length]? = some l) (hre:ids[pickN m.right ids.length]? = some r) {x y:En} (hx:enAt S l = some x) (hy:enAt S r = some y) (hk:pickN m.kind 4 = 1) (hl0:((l:Int) == 0) = true) (w:World) (h:((refA vr vl S.list).sep (rowsA encI 32 1 rv ids)).ho w) :
  Calls Tryz.prog 55 #[.agg #[vr,vl],.agg (mkL m).toArray,rv] w (OnePost ((refA vr vl S.list).sep (rowsA encI 32 1 rv ids)).fp rv ids r S.list w):=by
 have H:=(St.one h).sep
 have hv:=refA_shape (H.get Pick.here)
 have hr:=rowsA_cases (H.get (Pick.there Pick.here)) h0
 generalize ((refA vr vl S.list).sep (rowsA encI 32 1 rv ids)).fp = M at H ⊢
 obtain ⟨ad1,c1,ad2,c2,rfl,rfl⟩:=hv
 obtain ⟨g,c,rfl,hc,hcm⟩:=hr
 have hmost:=hO.most
 have HP1:Hid (∀ w,Calls Tryz.prog 22 #[.int .i64 m.left,.int .i64 ids.length] w fun e w'=>e = .returned (.int .i64 (pickN m.left ids.length:Nat))∧w' = w):=Lib.hid fun w=>pickf_c m.left ids.length _ rfl hm.left h0 (by omega) w
 have HP2:Hid (∀ w,Calls Tryz.prog 22 #[.int .i64 m.right,.int .i64 ids.length] w fun e w'=>e = .returned (.int .i64 (pickN m.right ids.length:Nat))∧w' = w):=Lib.hid fun w=>pickf_c m.right ids.length _ rfl hm.right h0 (by omega) w
 have HP3:Hid (∀ w,Calls Tryz.prog 22 #[.int .i64 m.kind,.int .i64 4] w fun e w'=>e = .returned (.int .i64 1)∧w' = w):=Lib.hid fun w=>pick4_c m.kind 1 (by rw [hk];rfl) hm.kind w
 have HL1:Hid (∀ w,(refA (.slice ad1 S.list.length c1) (.slice ad2 S.list.length c2) S.list).ho w→Calls Tryz.prog 83 #[.agg #[.slice ad1 S.list.length c1,.slice ad2 S.list.length c2],.int .i64 l] w fun e w'=>e = .returned (.int .i64 x.w.len)∧St w [] [] w'):=Lib.hid fun w h=>rlen_c hx w h
 have HL2:Hid (∀ w,(refA (.slice ad1 S.list.length c1) (.slice ad2 S.list.length c2) S.list).ho w→Calls Tryz.prog 83 #[.agg #[.slice ad1 S.list.length c1,.slice ad2 S.list.length c2],.int .i64 r] w fun e w'=>e = .returned (.int .i64 y.w.len)∧St w [] [] w'):=Lib.hid fun w h=>rlen_c hy w h
 have hl:=pickN_lt (n:=m.left) h0
 have hri:=pickN_lt (n:=m.right) h0
 have HE:=Lib.hid (And.intro hle hre)
 have hT:=hm.times
 unfold fits64 at hT
 clear h hk hle hre hx hy hm hroom hO hmost
 generalize pickN m.left ids.length = a at *
 generalize pickN m.right ids.length = b at *
 unfold maxLen at hcm
 unfold mkL
 go_enter Tryz.func55,Tryz.ntmps55
 go_wp2_with (first | refine sL ?_ | (refine sS ?_;clear H;intros;rename_i H) | (go_at_call 22;with_reducible refine same (HP1.out _) ?_) | (go_at_call 22;with_reducible refine same (HP2.out _) ?_) | (go_at_call 22;with_reducible refine same (HP3.out _) ?_) | ((with_reducible refine isLoad ?_);refine AtLoad.cel rfl rfl rfl rfl (rowsA_cell1 (H.get (A:=rowsA encI 32 1 (.slice (some ⟨g,0,none⟩) ids.length c) ids) pk) encI_len HE.out.1 rfl) ?_;simp only [Act.put,puA,puB,puC]) | ((with_reducible refine isLoad ?_);refine AtLoad.cel rfl rfl rfl rfl (rowsA_cell1 (H.get (A:=rowsA encI 32 1 (.slice (some ⟨g,0,none⟩) ids.length c) ids) pk) encI_len HE.out.2 rfl) ?_;simp only [Act.put,puA,puB,puC]) | (go_at_call 83;with_reducible refine Calls.mono (HL1.out _ (H.get (A:=(refA (.slice ad1 S.list.length c1) (.slice ad2 S.list.length c2) S.list)) pk)) ?_;rintro e wc ⟨rfl,hb⟩;replace H:=H.grew hb.below;clear hb))
 exact bodyPost_ret (res_row_tmp rfl H rfl pk rfl rfl) rfl (OnePost.mk' _ _ rfl (H.pick2 (A:=(refA (.slice ad1 S.list.length c1) (.slice ad2 S.list.length c2) S.list)) (B:=rowsA encI 32 1 (.slice (some ⟨g,0,none⟩) ids.length c) ids) pk pk).onlyTwo)
attribute [local go_sem] StStep stAt stUpon in
theorem one_right1 {vr vl rv:Value} {S:Sto} {ids:List Nat} {m:Mk} (hm:m.Fits) (hO:S.Ok) (h0:0 < ids.length) (hids:ids.length≤1048576) (hroom:S.list.length < S.most) {l r:Nat} (hle:ids[pickN m.left ids.length]? = some l) (hre:ids[pickN m.right ids.length]? = some r) {x y:En} (hx:enAt S l = some x) (hy:enAt S r = some y) (hk:pickN m.kind 4 = 1) (hl0:((l:Int) == 0) = false) (hr0:((r:Int) == 0) = true) (w:World) (h:((refA vr vl S.list).sep (rowsA encI 32 1 rv ids)).ho w) :
  Calls Tryz.prog 55 #[.agg #[vr,vl],.agg (mkL m).toArray,rv] w (OnePost ((refA vr vl S.list).sep (rowsA encI 32 1 rv ids)).fp rv ids l S.list w):=by
 have H:=(St.one h).sep
 have hv:=refA_shape (H.get Pick.here)
 have hr:=rowsA_cases (H.get (Pick.there Pick.here)) h0
 generalize ((refA vr vl S.list).sep (rowsA encI 32 1 rv ids)).fp = M at H ⊢
 obtain ⟨ad1,c1,ad2,c2,rfl,rfl⟩:=hv
 obtain ⟨g,c,rfl,hc,hcm⟩:=hr
 have hmost:=hO.most
 have HP1:Hid (∀ w,Calls Tryz.prog 22 #[.int .i64 m.left,.int .i64 ids.length] w fun e w'=>e = .returned (.int .i64 (pickN m.left ids.length:Nat))∧w' = w):=Lib.hid fun w=>pickf_c m.left ids.length _ rfl hm.left h0 (by omega) w
 have HP2:Hid (∀ w,Calls Tryz.prog 22 #[.int .i64 m.right,.int .i64 ids.length] w fun e w'=>e = .returned (.int .i64 (pickN m.right ids.length:Nat))∧w' = w):=Lib.hid fun w=>pickf_c m.right ids.length _ rfl hm.right h0 (by omega) w
 have HP3:Hid (∀ w,Calls Tryz.prog 22 #[.int .i64 m.kind,.int .i64 4] w fun e w'=>e = .returned (.int .i64 1)∧w' = w):=Lib.hid fun w=>pick4_c m.kind 1 (by rw [hk];rfl) hm.kind w
 have HL1:Hid (∀ w,(refA (.slice ad1 S.list.length c1) (.slice ad2 S.list.length c2) S.list).ho w→Calls Tryz.prog 83 #[.agg #[.slice ad1 S.list.length c1,.slice ad2 S.list.length c2],.int .i64 l] w fun e w'=>e = .returned (.int .i64 x.w.len)∧St w [] [] w'):=Lib.hid fun w h=>rlen_c hx w h
 have HL2:Hid (∀ w,(refA (.slice ad1 S.list.length c1) (.slice ad2 S.list.length c2) S.list).ho w→Calls Tryz.prog 83 #[.agg #[.slice ad1 S.list.length c1,.slice ad2 S.list.length c2],.int .i64 r] w fun e w'=>e = .returned (.int .i64 y.w.len)∧St w [] [] w'):=Lib.hid fun w h=>rlen_c hy w h
 have hl:=pickN_lt (n:=m.left) h0
 have hri:=pickN_lt (n:=m.right) h0
 have HE:=Lib.hid (And.intro hle hre)
 have hT:=hm.times
 unfold fits64 at hT
 clear h hk hle hre hx hy hm hroom hO hmost
 generalize pickN m.left ids.length = a at *
 generalize pickN m.right ids.length = b at *
 unfold maxLen at hcm
 unfold mkL
 go_enter Tryz.func55,Tryz.ntmps55
 go_wp2_with (first | refine sL ?_ | (refine sS ?_;clear H;intros;rename_i H) | (go_at_call 22;with_reducible refine same (HP1.out _) ?_) | (go_at_call 22;with_reducible refine same (HP2.out _) ?_) | (go_at_call 22;with_reducible refine same (HP3.out _) ?_) | ((with_reducible refine isLoad ?_);refine AtLoad.cel rfl rfl rfl rfl (rowsA_cell1 (H.get (A:=rowsA encI 32 1 (.slice (some ⟨g,0,none⟩) ids.length c) ids) pk) encI_len HE.out.1 rfl) ?_;simp only [Act.put,puA,puB,puC]) | ((with_reducible refine isLoad ?_);refine AtLoad.cel rfl rfl rfl rfl (rowsA_cell1 (H.get (A:=rowsA encI 32 1 (.slice (some ⟨g,0,none⟩) ids.length c) ids) pk) encI_len HE.out.2 rfl) ?_;simp only [Act.put,puA,puB,puC]) | (go_at_call 83;with_reducible refine Calls.mono (HL1.out _ (H.get (A:=(refA (.slice ad1 S.list.length c1) (.slice ad2 S.list.length c2) S.list)) pk)) ?_;rintro e wc ⟨rfl,hb⟩;replace H:=H.grew hb.below;clear hb))
 exact bodyPost_ret (res_row_tmp rfl H rfl pk rfl rfl) rfl (OnePost.mk' _ _ rfl (H.pick2 (A:=(refA (.slice ad1 S.list.length c1) (.slice ad2 S.list.length c2) S.list)) (B:=rowsA encI 32 1 (.slice (some ⟨g,0,none⟩) ids.length c) ids) pk pk).onlyTwo)
attribute [local go_sem] StStep stAt stUpon in
theorem one_long1 {vr vl rv:Value} {S:Sto} {ids:List Nat} {m:Mk} (hm:m.Fits) (hO:S.Ok) (h0:0 < ids.length) (hids:ids.length≤1048576) (hroom:S.list.length < S.most) {l r:Nat} (hle:ids[pickN m.left ids.length]? = some l) (hre:ids[pickN m.right ids.length]? = some r) {x y:En} (hx:enAt S l = some x) (hy:enAt S r = some y) (hk:pickN m.kind 4 = 1) (hl0:((l:Int) == 0) = false) (hr0:((r:Int) == 0) = false) (hxl:x.w.len≤1152921504606846976) (hyl:y.w.len≤1152921504606846976) (hq:decide (1152921504606846976 - (y.w.len:Int) < x.w.len) = true) (w:World) (h:((refA vr vl S.list).sep (rowsA encI 32 1 rv ids)).ho w) :
  Calls Tryz.prog 55 #[.agg #[vr,vl],.agg (mkL m).toArray,rv] w (OnePost ((refA vr vl S.list).sep (rowsA encI 32 1 rv ids)).fp rv ids 0 S.list w):=by
 have H:=(St.one h).sep
 have hv:=refA_shape (H.get Pick.here)
 have hr:=rowsA_cases (H.get (Pick.there Pick.here)) h0
 generalize ((refA vr vl S.list).sep (rowsA encI 32 1 rv ids)).fp = M at H ⊢
 obtain ⟨ad1,c1,ad2,c2,rfl,rfl⟩:=hv
 obtain ⟨g,c,rfl,hc,hcm⟩:=hr
 have hmost:=hO.most
 have HP1:Hid (∀ w,Calls Tryz.prog 22 #[.int .i64 m.left,.int .i64 ids.length] w fun e w'=>e = .returned (.int .i64 (pickN m.left ids.length:Nat))∧w' = w):=Lib.hid fun w=>pickf_c m.left ids.length _ rfl hm.left h0 (by omega) w
 have HP2:Hid (∀ w,Calls Tryz.prog 22 #[.int .i64 m.right,.int .i64 ids.length] w fun e w'=>e = .returned (.int .i64 (pickN m.right ids.length:Nat))∧w' = w):=Lib.hid fun w=>pickf_c m.right ids.length _ rfl hm.right h0 (by omega) w
 have HP3:Hid (∀ w,Calls Tryz.prog 22 #[.int .i64 m.kind,.int .i64 4] w fun e w'=>e = .returned (.int .i64 1)∧w' = w):=Lib.hid fun w=>pick4_c m.kind 1 (by rw [hk];rfl) hm.kind w
 have HL1:Hid (∀ w,(refA (.slice ad1 S.list.length c1) (.slice ad2 S.list.length c2) S.list).ho w→Calls Tryz.prog 83 #[.agg #[.slice ad1 S.list.length c1,.slice ad2 S.list.length c2],.int .i64 l] w fun e w'=>e = .returned (.int .i64 x.w.len)∧St w [] [] w'):=Lib.hid fun w h=>rlen_c hx w h
 have HL2:Hid (∀ w,(refA (.slice ad1 S.list.length c1) (.slice ad2 S.list.length c2) S.list).ho w→Calls Tryz.prog 83 #[.agg #[.slice ad1 S.list.length c1,.slice ad2 S.list.length c2],.int .i64 r] w fun e w'=>e = .returned (.int .i64 y.w.len)∧St w [] [] w'):=Lib.hid fun w h=>rlen_c hy w h
 have hl:=pickN_lt (n:=m.left) h0
 have hri:=pickN_lt (n:=m.right) h0
 have HE:=Lib.hid (And.intro hle hre)
 have hT:=hm.times
 unfold fits64 at hT
 clear h hk hle hre hx hy hm hroom hO hmost
 generalize pickN m.left ids.length = a at *
 generalize pickN m.right ids.length = b at *
 unfold maxLen at hcm
 unfold mkL
 go_enter Tryz.func55,Tryz.ntmps55
 go_wp2_with (first | refine sL ?_ | (refine sS ?_;clear H;intros;rename_i H) | (go_at_call 22;with_reducible refine same (HP1.out _) ?_) | (go_at_call 22;with_reducible refine same (HP2.out _) ?_) | (go_at_call 22;with_reducible refine same (HP3.out _) ?_) | ((with_reducible refine isLoad ?_);refine AtLoad.cel rfl rfl rfl rfl (rowsA_cell1 (H.get (A:=rowsA encI 32 1 (.slice (some ⟨g,0,none⟩) ids.length c) ids) pk) encI_len HE.out.1 rfl) ?_;simp only [Act.put,puA,puB,puC]) | ((with_reducible refine isLoad ?_);refine AtLoad.cel rfl rfl rfl rfl (rowsA_cell1 (H.get (A:=rowsA encI 32 1 (.slice (some ⟨g,0,none⟩) ids.length c) ids) pk) encI_len HE.out.2 rfl) ?_;simp only [Act.put,puA,puB,puC]) | (go_at_call 83;with_reducible refine Calls.mono (HL1.out _ (H.get (A:=(refA (.slice ad1 S.list.length c1) (.slice ad2 S.list.length c2) S.list)) pk)) ?_;rintro e wc ⟨rfl,hb⟩;replace H:=H.grew hb.below;clear hb))
 refine wp_region_h H 8 [] [] (by kernel_rfl) (by kernel_rfl) ?_
 apply Exists.intro
 refine ⟨fun w1 hw1 HX=>?_,fun bs wr Hr=>?_⟩
 ·refine sG ?_
  repeat (first | refine sQ ?_ | go_big_quiet_step ((go_at_call 83;with_reducible exact quiet_st_x (HL1.out _ ((HX _).get (A:=(refA (.slice ad1 S.list.length c1) (.slice ad2 S.list.length c2) S.list)) pk)))) | go_big_quiet_step ((go_at_call 83;with_reducible exact quiet_st_x (HL2.out _ ((HX _).get (A:=(refA (.slice ad1 S.list.length c1) (.slice ad2 S.list.length c2) S.list)) pk)))) | go_big_quiet_step (fail))
  exact wpQuiet_nil rfl
 clear H
 have H:=Hr
 clear Hr
 replace H:=sH H;refine sT ?_
 go_wp2_with (first | refine sL ?_ | (refine sS ?_;clear H;intros;rename_i H))
 exact bodyPost_ret (res_row_tmp rfl H rfl pk rfl rfl) rfl (OnePost.mk' _ _ rfl (H.pick2 (A:=(refA (.slice ad1 S.list.length c1) (.slice ad2 S.list.length c2) S.list)) (B:=rowsA encI 32 1 (.slice (some ⟨g,0,none⟩) ids.length c) ids) pk pk).onlyTwo)
attribute [local go_sem] StStep stAt stUpon in
theorem one_in1 {vr vl rv:Value} {S:Sto} {ids:List Nat} {m:Mk} (hm:m.Fits) (hO:S.Ok) (h0:0 < ids.length) (hids:ids.length≤1048576) (hroom:S.list.length < S.most) {l r:Nat} (hle:ids[pickN m.left ids.length]? = some l) (hre:ids[pickN m.right ids.length]? = some r) {x y:En} (hx:enAt S l = some x) (hy:enAt S r = some y) (hk:pickN m.kind 4 = 1) (hl0:((l:Int) == 0) = false) (hr0:((r:Int) == 0) = false) (hxl:x.w.len≤1152921504606846976) (hyl:y.w.len≤1152921504606846976) (hq:decide (1152921504606846976 - (y.w.len:Int) < x.w.len) = false) (w:World) (h:((refA vr vl S.list).sep (rowsA encI 32 1 rv ids)).ho w) :
  Calls Tryz.prog 55 #[.agg #[vr,vl],.agg (mkL m).toArray,rv] w (OnePost ((refA vr vl S.list).sep (rowsA encI 32 1 rv ids)).fp rv ids (S.put (pairE x y l r)).1.1 (S.put (pairE x y l r)).2.list w):=by
 have H:=(St.one h).sep
 have hv:=refA_shape (H.get Pick.here)
 have hr:=rowsA_cases (H.get (Pick.there Pick.here)) h0
 generalize ((refA vr vl S.list).sep (rowsA encI 32 1 rv ids)).fp = M at H ⊢
 obtain ⟨ad1,c1,ad2,c2,rfl,rfl⟩:=hv
 obtain ⟨g,c,rfl,hc,hcm⟩:=hr
 have hmost:=hO.most
 have HP1:Hid (∀ w,Calls Tryz.prog 22 #[.int .i64 m.left,.int .i64 ids.length] w fun e w'=>e = .returned (.int .i64 (pickN m.left ids.length:Nat))∧w' = w):=Lib.hid fun w=>pickf_c m.left ids.length _ rfl hm.left h0 (by omega) w
 have HP2:Hid (∀ w,Calls Tryz.prog 22 #[.int .i64 m.right,.int .i64 ids.length] w fun e w'=>e = .returned (.int .i64 (pickN m.right ids.length:Nat))∧w' = w):=Lib.hid fun w=>pickf_c m.right ids.length _ rfl hm.right h0 (by omega) w
 have HP3:Hid (∀ w,Calls Tryz.prog 22 #[.int .i64 m.kind,.int .i64 4] w fun e w'=>e = .returned (.int .i64 1)∧w' = w):=Lib.hid fun w=>pick4_c m.kind 1 (by rw [hk];rfl) hm.kind w
 have HL1:Hid (∀ w,(refA (.slice ad1 S.list.length c1) (.slice ad2 S.list.length c2) S.list).ho w→Calls Tryz.prog 83 #[.agg #[.slice ad1 S.list.length c1,.slice ad2 S.list.length c2],.int .i64 l] w fun e w'=>e = .returned (.int .i64 x.w.len)∧St w [] [] w'):=Lib.hid fun w h=>rlen_c hx w h
 have HL2:Hid (∀ w,(refA (.slice ad1 S.list.length c1) (.slice ad2 S.list.length c2) S.list).ho w→Calls Tryz.prog 83 #[.agg #[.slice ad1 S.list.length c1,.slice ad2 S.list.length c2],.int .i64 r] w fun e w'=>e = .returned (.int .i64 y.w.len)∧St w [] [] w'):=Lib.hid fun w h=>rlen_c hy w h
 have hl:=pickN_lt (n:=m.left) h0
 have hri:=pickN_lt (n:=m.right) h0
 have HE:=Lib.hid (And.intro hle hre)
 have HA:Hid (∀ w,(refA (.slice ad1 S.list.length c1) (.slice ad2 S.list.length c2) S.list).ho w→Calls Tryz.prog 82 #[.agg #[.slice ad1 S.list.length c1,.slice ad2 S.list.length c2],.agg #[.int .i64 2,.int .u8 0,.int .i64 l,.int .i64 r,.int .i64 0],.int .i64 ((x.w.len:Int) + y.w.len)] w (RefPost (refA (.slice ad1 S.list.length c1) (.slice ad2 S.list.length c2) S.list).fp (S.put (pairE x y l r)).1.1 (S.put (pairE x y l r)).2.list w)):=Lib.hid fun w h=>by
  have:=radd_c (pairE x y l r) hroom hO.most w h
  rw [show ((pairE x y l r).w.len:Int) = (x.w.len:Int) + y.w.len from by simp [pairE,Wt.join]] at this
  exact this
 have hT:=hm.times
 unfold fits64 at hT
 clear h hk hle hre hx hy hm hroom hO hmost
 generalize pickN m.left ids.length = a at *
 generalize pickN m.right ids.length = b at *
 unfold maxLen at hcm
 unfold mkL
 go_enter Tryz.func55,Tryz.ntmps55
 go_wp2_with (first | refine sL ?_ | (refine sS ?_;clear H;intros;rename_i H) | (go_at_call 22;with_reducible refine same (HP1.out _) ?_) | (go_at_call 22;with_reducible refine same (HP2.out _) ?_) | (go_at_call 22;with_reducible refine same (HP3.out _) ?_) | ((with_reducible refine isLoad ?_);refine AtLoad.cel rfl rfl rfl rfl (rowsA_cell1 (H.get (A:=rowsA encI 32 1 (.slice (some ⟨g,0,none⟩) ids.length c) ids) pk) encI_len HE.out.1 rfl) ?_;simp only [Act.put,puA,puB,puC]) | ((with_reducible refine isLoad ?_);refine AtLoad.cel rfl rfl rfl rfl (rowsA_cell1 (H.get (A:=rowsA encI 32 1 (.slice (some ⟨g,0,none⟩) ids.length c) ids) pk) encI_len HE.out.2 rfl) ?_;simp only [Act.put,puA,puB,puC]) | (go_at_call 83;with_reducible refine Calls.mono (HL1.out _ (H.get (A:=(refA (.slice ad1 S.list.length c1) (.slice ad2 S.list.length c2) S.list)) pk)) ?_;rintro e wc ⟨rfl,hb⟩;replace H:=H.grew hb.below;clear hb))
 rename_i b3 _ b2 _ b1 w1 K0 hK0 K1 hK1
 refine wp_region_h H 8 [] [] (by kernel_rfl) (by kernel_rfl) ?_
 apply Exists.intro
 refine ⟨fun w1 hw1 HX=>?_,fun bs wr Hr=>?_⟩
 ·refine sG ?_
  repeat (first | refine sQ ?_ | go_big_quiet_step ((go_at_call 83;with_reducible exact quiet_st_x (HL1.out _ ((HX _).get (A:=(refA (.slice ad1 S.list.length c1) (.slice ad2 S.list.length c2) S.list)) pk)))) | go_big_quiet_step ((go_at_call 83;with_reducible exact quiet_st_x (HL2.out _ ((HX _).get (A:=(refA (.slice ad1 S.list.length c1) (.slice ad2 S.list.length c2) S.list)) pk)))) | go_big_quiet_step (fail))
  exact wpQuiet_nil rfl
 clear H
 have H:=Hr
 clear Hr
 replace H:=sH H;refine sT ?_
 go_wp2_with (first | refine sL ?_ | (refine sS ?_;clear H;intros;rename_i H))
 replace H:=H.pick (A:=(refA (.slice ad1 S.list.length c1) (.slice ad2 S.list.length c2) S.list)) pk
 refine wp_region_rgx H [blk b1 (.cells #[.slice none 0 0,.slice none 0 0] 72),blk b2 (.cells (mkL m).toArray 118),blk b3 (.cells #[.slice ad1 S.list.length c1,.slice ad2 S.list.length c2] 72),rowsA encI 32 1 (.slice (some ⟨g,0,none⟩) ids.length c) ids] 14 [⟨[],[],[],fun v _=>v = .agg #[.slice ad1 S.list.length c1,.slice ad2 S.list.length c2],fun _ _=>[]⟩,⟨[],[],[],fun v _=>v = .int .i64 l,fun _ _=>[]⟩,⟨[],[],[],fun v _=>v = .int .i64 r,fun _ _=>[]⟩,⟨[],[],[1,2],fun v _=>v = .agg #[.int .i64 2,.int .u8 0,.int .i64 l,.int .i64 r,.int .i64 0],fun _ _=>[]⟩,⟨[],[],[],fun v _=>v = .agg #[.slice ad1 S.list.length c1,.slice ad2 S.list.length c2],fun _ _=>[]⟩,⟨[],[],[],fun v _=>v = .int .i64 l,fun _ _=>[]⟩,⟨[],[14],[4,5],fun v _=>v = .int .i64 x.w.len,fun _ _=>[]⟩,⟨[],[],[],fun v _=>v = .agg #[.slice ad1 S.list.length c1,.slice ad2 S.list.length c2],fun _ _=>[]⟩,⟨[],[],[],fun v _=>v = .int .i64 r,fun _ _=>[]⟩,⟨[],[14],[7,8],fun v _=>v = .int .i64 y.w.len,fun _ _=>[]⟩,⟨[],[],[6,9],fun v _=>v = .int .i64 ((x.w.len:Int) + y.w.len),fun _ _=>[]⟩,⟨[14],[],[0,3,10],fun v _=>v = .tuple #[.agg #[tup1 v,tup2 v],.int .i64 (S.put (pairE x y l r)).1.1],fun v _=>[refA (tup1 v) (tup2 v) (S.put (pairE x y l r)).2.list]⟩,⟨[],[],[11],fun v ds=>∃ d,ds = [d]∧v = .agg #[tup1 d,tup2 d],fun _ _=>[]⟩,⟨[],[],[11],fun v _=>v = .int .i64 (S.put (pairE x y l r)).1.1,fun _ _=>[]⟩,⟨[],[],[],fun _ _=>True,fun _ _=>[(refA (.slice ad1 S.list.length c1) (.slice ad2 S.list.length c2) S.list)]⟩] (by kernel_rfl)
  [[],[],[],[(1,94),(2,95)],[],[],[(4,97),(5,98)],[],[],[(7,100),(8,101)],[(6,99),(9,102)],[(0,93),(3,96),(10,103)],[(11,104)],[(11,104)]] [(0,93),(1,94),(2,95),(3,96),(4,97),(5,98),(6,99),(7,100),(8,101),(9,102),(10,103),(11,104),(12,105),(13,106)] [0,1,2,3,4,5,6,7,8,9,10,11,12,13] (by kernel_rfl) (by kernel_rfl) (by kernel_rfl) ⟨?o0,?o1,?o2,?o3,?o4,?o5,?o6,?o7,?o8,?o9,?o10,?o11,?o12,?o13,trivial⟩ ?fin
 case o0 =>
  intro vals wx X hd H
  clear hd
  replace H:=sP H
  simp only [putS,List.foldl_nil]
  first | refine StStep.cellT rfl rfl rfl gt rfl rfl ⟨rfl,H⟩ | refine StStep.wholeT rfl rfl rfl gt rfl ⟨rfl,H⟩
 case o1 =>
  intro vals wx X hd H
  clear hd
  replace H:=sP H
  simp only [putS,List.foldl_nil]
  go_simp
  first | exact H | exact ⟨rfl,H⟩
 case o2 =>
  intro vals wx X hd H
  clear hd
  replace H:=sP H
  simp only [putS,List.foldl_nil]
  go_simp
  first | exact H | exact ⟨rfl,H⟩
 case o3 =>
  intro vals wx X hd H
  have h1:vals 1 = .int .i64 l:=hd.1
  have h2:vals 2 = .int .i64 r:=hd.2.1
  clear hd
  replace H:=sP H
  simp only [putS,List.foldl_nil,List.foldl_cons,Act.put,List.setIfInBounds_toArray,List.set_cons_zero,List.set_cons_succ,h1,h2]
  clear h1 h2
  go_simp
  first | exact H | exact ⟨rfl,H⟩
 case o4 =>
  intro vals wx X hd H
  clear hd
  replace H:=sP H
  simp only [putS,List.foldl_nil]
  first | refine StStep.cellT rfl rfl rfl gt rfl rfl ⟨rfl,H⟩ | refine StStep.wholeT rfl rfl rfl gt rfl ⟨rfl,H⟩
 case o5 =>
  intro vals wx X hd H
  clear hd
  replace H:=sP H
  simp only [putS,List.foldl_nil]
  go_simp
  first | exact H | exact ⟨rfl,H⟩
 case o6 =>
  intro vals wx X hd H
  have h4:vals 4 = .agg #[.slice ad1 S.list.length c1,.slice ad2 S.list.length c2]:=hd.1
  have h5:vals 5 = .int .i64 l:=hd.2.1
  clear hd
  replace H:=sP H
  simp only [putS,List.foldl_nil,List.foldl_cons,Act.put,List.setIfInBounds_toArray,List.set_cons_zero,List.set_cons_succ,h4,h5]
  go_simp
  with_reducible refine Calls.mono (HL1.out _ (H.get (A:=(refA (.slice ad1 S.list.length c1) (.slice ad2 S.list.length c2) S.list)) pk)) ?_
  rintro e wc ⟨rfl,hb⟩
  exact ⟨_,rfl,rfl,H.grew hb.below⟩
 case o7 =>
  intro vals wx X hd H
  clear hd
  replace H:=sP H
  simp only [putS,List.foldl_nil]
  first | refine StStep.cellT rfl rfl rfl gt rfl rfl ⟨rfl,H⟩ | refine StStep.wholeT rfl rfl rfl gt rfl ⟨rfl,H⟩
 case o8 =>
  intro vals wx X hd H
  clear hd
  replace H:=sP H
  simp only [putS,List.foldl_nil]
  go_simp
  first | exact H | exact ⟨rfl,H⟩
 case o9 =>
  intro vals wx X hd H
  have h7:vals 7 = .agg #[.slice ad1 S.list.length c1,.slice ad2 S.list.length c2]:=hd.1
  have h8:vals 8 = .int .i64 r:=hd.2.1
  clear hd
  replace H:=sP H
  simp only [putS,List.foldl_nil,List.foldl_cons,Act.put,List.setIfInBounds_toArray,List.set_cons_zero,List.set_cons_succ,h7,h8]
  go_simp
  with_reducible refine Calls.mono (HL2.out _ (H.get (A:=(refA (.slice ad1 S.list.length c1) (.slice ad2 S.list.length c2) S.list)) pk)) ?_
  rintro e wc ⟨rfl,hb⟩
  exact ⟨_,rfl,rfl,H.grew hb.below⟩
 case o10 =>
  intro vals wx X hd H
  have h6:vals 6 = .int .i64 x.w.len:=hd.1
  have h9:vals 9 = .int .i64 y.w.len:=hd.2.1
  clear hd
  replace H:=sP H
  simp only [putS,List.foldl_nil,List.foldl_cons,Act.put,List.setIfInBounds_toArray,List.set_cons_zero,List.set_cons_succ,h6,h9]
  have hw:=IntWalk.i64_in ((x.w.len:Int) + y.w.len) (by omega)
  clear h6 h9
  go_simp
  first | exact H | exact ⟨rfl,H⟩
 case o11 =>
  intro vals wx X hd H
  have h0:vals 0 = .agg #[.slice ad1 S.list.length c1,.slice ad2 S.list.length c2]:=hd.1
  have h3:vals 3 = .agg #[.int .i64 2,.int .u8 0,.int .i64 l,.int .i64 r,.int .i64 0]:=hd.2.1
  have h10:vals 10 = .int .i64 ((x.w.len:Int) + y.w.len):=hd.2.2.1
  clear hd
  replace H:=sP H
  simp only [putS,List.foldl_nil,List.foldl_cons,Act.put,List.setIfInBounds_toArray,List.set_cons_zero,List.set_cons_succ,h0,h3,h10]
  clear h0 h3 h10
  go_simp
  with_reducible refine Calls.mono (HA.out _ (H.get (A:=(refA (.slice ad1 S.list.length c1) (.slice ad2 S.list.length c2) S.list)) pk)) ?_
  rintro e wc ⟨vr',vl',rfl,hb⟩
  exact ⟨_,rfl,rfl,(H.pick (A:=(refA (.slice ad1 S.list.length c1) (.slice ad2 S.list.length c2) S.list)) pk).call hb⟩
 case o12 =>
  intro vals wx X hd H
  have h11:=hd.1
  clear hd
  replace H:=sP H
  simp only [putS,List.foldl_nil,List.foldl_cons,Act.put,List.setIfInBounds_toArray,List.set_cons_zero,List.set_cons_succ]
  have e11:vals 11 = .tuple #[.agg #[tup1 (vals 11),tup2 (vals 11)],.int .i64 (S.put (pairE x y l r)).1.1]:=h11
  clear h11
  generalize tup1 (vals 11) = p at e11 H ⊢
  generalize tup2 (vals 11) = q at e11 H ⊢
  simp only [e11]
  go_simp
  exact ⟨⟨rfl,rfl⟩,H⟩
 case o13 =>
  intro vals wx X hd H
  have h11:=hd.1
  clear hd
  replace H:=sP H
  simp only [putS,List.foldl_nil,List.foldl_cons,Act.put,List.setIfInBounds_toArray,List.set_cons_zero,List.set_cons_succ]
  have e11:vals 11 = .tuple #[.agg #[tup1 (vals 11),tup2 (vals 11)],.int .i64 (S.put (pairE x y l r)).1.1]:=h11
  clear h11
  generalize tup1 (vals 11) = p at e11 H ⊢
  generalize tup2 (vals 11) = q at e11 H ⊢
  simp only [e11]
  go_simp
  first | exact H | exact ⟨rfl,H⟩
 case fin =>
  intro vals wx hd H
  have h0:vals 0 = .agg #[.slice ad1 S.list.length c1,.slice ad2 S.list.length c2]:=hd.1
  have h1:vals 1 = .int .i64 l:=hd.2.1
  have h2:vals 2 = .int .i64 r:=hd.2.2.1
  have h3:vals 3 = .agg #[.int .i64 2,.int .u8 0,.int .i64 l,.int .i64 r,.int .i64 0]:=hd.2.2.2.1
  have h4:vals 4 = .agg #[.slice ad1 S.list.length c1,.slice ad2 S.list.length c2]:=hd.2.2.2.2.1
  have h5:vals 5 = .int .i64 l:=hd.2.2.2.2.2.1
  have h6:vals 6 = .int .i64 x.w.len:=hd.2.2.2.2.2.2.1
  have h7:vals 7 = .agg #[.slice ad1 S.list.length c1,.slice ad2 S.list.length c2]:=hd.2.2.2.2.2.2.2.1
  have h8:vals 8 = .int .i64 r:=hd.2.2.2.2.2.2.2.2.1
  have h9:vals 9 = .int .i64 y.w.len:=hd.2.2.2.2.2.2.2.2.2.1
  have h10:vals 10 = .int .i64 ((x.w.len:Int) + y.w.len):=hd.2.2.2.2.2.2.2.2.2.2.1
  have h11:=hd.2.2.2.2.2.2.2.2.2.2.2.1
  have h12:=hd.2.2.2.2.2.2.2.2.2.2.2.2.1
  have h13:=hd.2.2.2.2.2.2.2.2.2.2.2.2.2.1
  clear hd
  replace H:=sP H
  simp only [putS,List.foldl_nil,List.foldl_cons,Act.put,List.setIfInBounds_toArray,List.set_cons_zero,List.set_cons_succ,List.drop_succ_cons,List.drop_zero,h0,h1,h2,h3,h4,h5,h6,h7,h8,h9,h10]
  clear h0 h1 h2 h3 h4 h5 h6 h7 h8 h9 h10
  obtain ⟨d,e1,e2⟩:∃ d,[vals 11] = [d]∧vals 12 = .agg #[tup1 d,tup2 d]:=h12
  have e3:vals 13 = .int .i64 (S.put (pairE x y l r)).1.1:=h13
  clear h11 h13
  try simp only [List.cons.injEq,and_true] at e1
  subst e1
  try simp only [List.map_cons,List.map_nil,List.cons_append,List.nil_append] at H
  generalize tup1 (vals 11) = p at e2 H
  generalize tup2 (vals 11) = q at e2 H
  obtain ⟨ad3,c3,ad4,c4,rfl,rfl⟩:=refA_shape (H.get (A:=refA p q (S.put (pairE x y l r)).2.list) pk)
  simp only [e2,e3]
  clear e2 e3
  go_wp2_with (first | refine sL ?_ | (refine sS ?_;clear H;intros;rename_i H))
  exact bodyPost_ret (res_row_tmp rfl H rfl pk rfl rfl) rfl (OnePost.mk' _ _ rfl (H.pick2 (A:=refA _ _ (S.put (pairE x y l r)).2.list) (B:=rowsA encI 32 1 (.slice (some ⟨g,0,none⟩) ids.length c) ids) pk pk).onlyTwo)
attribute [local go_sem] StStep stAt stUpon in
theorem one_left2 {vr vl rv:Value} {S:Sto} {ids:List Nat} {m:Mk} (hm:m.Fits) (hO:S.Ok) (h0:0 < ids.length) (hids:ids.length≤1048576) (hroom:S.list.length < S.most) {l r:Nat} (hle:ids[pickN m.left ids.length]? = some l) (hre:ids[pickN m.right ids.length]? = some r) {x y:En} (hx:enAt S l = some x) (hy:enAt S r = some y) (hk:pickN m.kind 4 = 2) (hl0:((l:Int) == 0) = true) (w:World) (h:((refA vr vl S.list).sep (rowsA encI 32 1 rv ids)).ho w) :
  Calls Tryz.prog 55 #[.agg #[vr,vl],.agg (mkL m).toArray,rv] w (OnePost ((refA vr vl S.list).sep (rowsA encI 32 1 rv ids)).fp rv ids r S.list w):=by
 have H:=(St.one h).sep
 have hv:=refA_shape (H.get Pick.here)
 have hr:=rowsA_cases (H.get (Pick.there Pick.here)) h0
 generalize ((refA vr vl S.list).sep (rowsA encI 32 1 rv ids)).fp = M at H ⊢
 obtain ⟨ad1,c1,ad2,c2,rfl,rfl⟩:=hv
 obtain ⟨g,c,rfl,hc,hcm⟩:=hr
 have hmost:=hO.most
 have HP1:Hid (∀ w,Calls Tryz.prog 22 #[.int .i64 m.left,.int .i64 ids.length] w fun e w'=>e = .returned (.int .i64 (pickN m.left ids.length:Nat))∧w' = w):=Lib.hid fun w=>pickf_c m.left ids.length _ rfl hm.left h0 (by omega) w
 have HP2:Hid (∀ w,Calls Tryz.prog 22 #[.int .i64 m.right,.int .i64 ids.length] w fun e w'=>e = .returned (.int .i64 (pickN m.right ids.length:Nat))∧w' = w):=Lib.hid fun w=>pickf_c m.right ids.length _ rfl hm.right h0 (by omega) w
 have HP3:Hid (∀ w,Calls Tryz.prog 22 #[.int .i64 m.kind,.int .i64 4] w fun e w'=>e = .returned (.int .i64 2)∧w' = w):=Lib.hid fun w=>pick4_c m.kind 2 (by rw [hk];rfl) hm.kind w
 have HL1:Hid (∀ w,(refA (.slice ad1 S.list.length c1) (.slice ad2 S.list.length c2) S.list).ho w→Calls Tryz.prog 83 #[.agg #[.slice ad1 S.list.length c1,.slice ad2 S.list.length c2],.int .i64 l] w fun e w'=>e = .returned (.int .i64 x.w.len)∧St w [] [] w'):=Lib.hid fun w h=>rlen_c hx w h
 have HL2:Hid (∀ w,(refA (.slice ad1 S.list.length c1) (.slice ad2 S.list.length c2) S.list).ho w→Calls Tryz.prog 83 #[.agg #[.slice ad1 S.list.length c1,.slice ad2 S.list.length c2],.int .i64 r] w fun e w'=>e = .returned (.int .i64 y.w.len)∧St w [] [] w'):=Lib.hid fun w h=>rlen_c hy w h
 have hl:=pickN_lt (n:=m.left) h0
 have hri:=pickN_lt (n:=m.right) h0
 have HE:=Lib.hid (And.intro hle hre)
 have hT:=hm.times
 unfold fits64 at hT
 clear h hk hle hre hx hy hm hroom hO hmost
 generalize pickN m.left ids.length = a at *
 generalize pickN m.right ids.length = b at *
 unfold maxLen at hcm
 unfold mkL
 go_enter Tryz.func55,Tryz.ntmps55
 go_wp2_with (first | refine sL ?_ | (refine sS ?_;clear H;intros;rename_i H) | (go_at_call 22;with_reducible refine same (HP1.out _) ?_) | (go_at_call 22;with_reducible refine same (HP2.out _) ?_) | (go_at_call 22;with_reducible refine same (HP3.out _) ?_) | ((with_reducible refine isLoad ?_);refine AtLoad.cel rfl rfl rfl rfl (rowsA_cell1 (H.get (A:=rowsA encI 32 1 (.slice (some ⟨g,0,none⟩) ids.length c) ids) pk) encI_len HE.out.1 rfl) ?_;simp only [Act.put,puA,puB,puC]) | ((with_reducible refine isLoad ?_);refine AtLoad.cel rfl rfl rfl rfl (rowsA_cell1 (H.get (A:=rowsA encI 32 1 (.slice (some ⟨g,0,none⟩) ids.length c) ids) pk) encI_len HE.out.2 rfl) ?_;simp only [Act.put,puA,puB,puC]) | (go_at_call 83;with_reducible refine Calls.mono (HL1.out _ (H.get (A:=(refA (.slice ad1 S.list.length c1) (.slice ad2 S.list.length c2) S.list)) pk)) ?_;rintro e wc ⟨rfl,hb⟩;replace H:=H.grew hb.below;clear hb))
 exact bodyPost_ret (res_row_tmp rfl H rfl pk rfl rfl) rfl (OnePost.mk' _ _ rfl (H.pick2 (A:=(refA (.slice ad1 S.list.length c1) (.slice ad2 S.list.length c2) S.list)) (B:=rowsA encI 32 1 (.slice (some ⟨g,0,none⟩) ids.length c) ids) pk pk).onlyTwo)
attribute [local go_sem] StStep stAt stUpon in
theorem one_right2 {vr vl rv:Value} {S:Sto} {ids:List Nat} {m:Mk} (hm:m.Fits) (hO:S.Ok) (h0:0 < ids.length) (hids:ids.length≤1048576) (hroom:S.list.length < S.most) {l r:Nat} (hle:ids[pickN m.left ids.length]? = some l) (hre:ids[pickN m.right ids.length]? = some r) {x y:En} (hx:enAt S l = some x) (hy:enAt S r = some y) (hk:pickN m.kind 4 = 2) (hl0:((l:Int) == 0) = false) (hr0:((r:Int) == 0) = true) (w:World) (h:((refA vr vl S.list).sep (rowsA encI 32 1 rv ids)).ho w) :
  Calls Tryz.prog 55 #[.agg #[vr,vl],.agg (mkL m).toArray,rv] w (OnePost ((refA vr vl S.list).sep (rowsA encI 32 1 rv ids)).fp rv ids l S.list w):=by
 have H:=(St.one h).sep
 have hv:=refA_shape (H.get Pick.here)
 have hr:=rowsA_cases (H.get (Pick.there Pick.here)) h0
 generalize ((refA vr vl S.list).sep (rowsA encI 32 1 rv ids)).fp = M at H ⊢
 obtain ⟨ad1,c1,ad2,c2,rfl,rfl⟩:=hv
 obtain ⟨g,c,rfl,hc,hcm⟩:=hr
 have hmost:=hO.most
 have HP1:Hid (∀ w,Calls Tryz.prog 22 #[.int .i64 m.left,.int .i64 ids.length] w fun e w'=>e = .returned (.int .i64 (pickN m.left ids.length:Nat))∧w' = w):=Lib.hid fun w=>pickf_c m.left ids.length _ rfl hm.left h0 (by omega) w
 have HP2:Hid (∀ w,Calls Tryz.prog 22 #[.int .i64 m.right,.int .i64 ids.length] w fun e w'=>e = .returned (.int .i64 (pickN m.right ids.length:Nat))∧w' = w):=Lib.hid fun w=>pickf_c m.right ids.length _ rfl hm.right h0 (by omega) w
 have HP3:Hid (∀ w,Calls Tryz.prog 22 #[.int .i64 m.kind,.int .i64 4] w fun e w'=>e = .returned (.int .i64 2)∧w' = w):=Lib.hid fun w=>pick4_c m.kind 2 (by rw [hk];rfl) hm.kind w
 have HL1:Hid (∀ w,(refA (.slice ad1 S.list.length c1) (.slice ad2 S.list.length c2) S.list).ho w→Calls Tryz.prog 83 #[.agg #[.slice ad1 S.list.length c1,.slice ad2 S.list.length c2],.int .i64 l] w fun e w'=>e = .returned (.int .i64 x.w.len)∧St w [] [] w'):=Lib.hid fun w h=>rlen_c hx w h
 have HL2:Hid (∀ w,(refA (.slice ad1 S.list.length c1) (.slice ad2 S.list.length c2) S.list).ho w→Calls Tryz.prog 83 #[.agg #[.slice ad1 S.list.length c1,.slice ad2 S.list.length c2],.int .i64 r] w fun e w'=>e = .returned (.int .i64 y.w.len)∧St w [] [] w'):=Lib.hid fun w h=>rlen_c hy w h
 have hl:=pickN_lt (n:=m.left) h0
 have hri:=pickN_lt (n:=m.right) h0
 have HE:=Lib.hid (And.intro hle hre)
 have hT:=hm.times
 unfold fits64 at hT
 clear h hk hle hre hx hy hm hroom hO hmost
 generalize pickN m.left ids.length = a at *
 generalize pickN m.right ids.length = b at *
 unfold maxLen at hcm
 unfold mkL
 go_enter Tryz.func55,Tryz.ntmps55
 go_wp2_with (first | refine sL ?_ | (refine sS ?_;clear H;intros;rename_i H) | (go_at_call 22;with_reducible refine same (HP1.out _) ?_) | (go_at_call 22;with_reducible refine same (HP2.out _) ?_) | (go_at_call 22;with_reducible refine same (HP3.out _) ?_) | ((with_reducible refine isLoad ?_);refine AtLoad.cel rfl rfl rfl rfl (rowsA_cell1 (H.get (A:=rowsA encI 32 1 (.slice (some ⟨g,0,none⟩) ids.length c) ids) pk) encI_len HE.out.1 rfl) ?_;simp only [Act.put,puA,puB,puC]) | ((with_reducible refine isLoad ?_);refine AtLoad.cel rfl rfl rfl rfl (rowsA_cell1 (H.get (A:=rowsA encI 32 1 (.slice (some ⟨g,0,none⟩) ids.length c) ids) pk) encI_len HE.out.2 rfl) ?_;simp only [Act.put,puA,puB,puC]) | (go_at_call 83;with_reducible refine Calls.mono (HL1.out _ (H.get (A:=(refA (.slice ad1 S.list.length c1) (.slice ad2 S.list.length c2) S.list)) pk)) ?_;rintro e wc ⟨rfl,hb⟩;replace H:=H.grew hb.below;clear hb))
 exact bodyPost_ret (res_row_tmp rfl H rfl pk rfl rfl) rfl (OnePost.mk' _ _ rfl (H.pick2 (A:=(refA (.slice ad1 S.list.length c1) (.slice ad2 S.list.length c2) S.list)) (B:=rowsA encI 32 1 (.slice (some ⟨g,0,none⟩) ids.length c) ids) pk pk).onlyTwo)
attribute [local go_sem] StStep stAt stUpon in
theorem one_long2 {vr vl rv:Value} {S:Sto} {ids:List Nat} {m:Mk} (hm:m.Fits) (hO:S.Ok) (h0:0 < ids.length) (hids:ids.length≤1048576) (hroom:S.list.length < S.most) {l r:Nat} (hle:ids[pickN m.left ids.length]? = some l) (hre:ids[pickN m.right ids.length]? = some r) {x y:En} (hx:enAt S l = some x) (hy:enAt S r = some y) (hk:pickN m.kind 4 = 2) (hl0:((l:Int) == 0) = false) (hr0:((r:Int) == 0) = false) (hxl:x.w.len≤1152921504606846976) (hyl:y.w.len≤1152921504606846976) (hq:decide (1152921504606846976 - (y.w.len:Int) < x.w.len) = true) (w:World) (h:((refA vr vl S.list).sep (rowsA encI 32 1 rv ids)).ho w) :
  Calls Tryz.prog 55 #[.agg #[vr,vl],.agg (mkL m).toArray,rv] w (OnePost ((refA vr vl S.list).sep (rowsA encI 32 1 rv ids)).fp rv ids 0 S.list w):=by
 have H:=(St.one h).sep
 have hv:=refA_shape (H.get Pick.here)
 have hr:=rowsA_cases (H.get (Pick.there Pick.here)) h0
 generalize ((refA vr vl S.list).sep (rowsA encI 32 1 rv ids)).fp = M at H ⊢
 obtain ⟨ad1,c1,ad2,c2,rfl,rfl⟩:=hv
 obtain ⟨g,c,rfl,hc,hcm⟩:=hr
 have hmost:=hO.most
 have HP1:Hid (∀ w,Calls Tryz.prog 22 #[.int .i64 m.left,.int .i64 ids.length] w fun e w'=>e = .returned (.int .i64 (pickN m.left ids.length:Nat))∧w' = w):=Lib.hid fun w=>pickf_c m.left ids.length _ rfl hm.left h0 (by omega) w
 have HP2:Hid (∀ w,Calls Tryz.prog 22 #[.int .i64 m.right,.int .i64 ids.length] w fun e w'=>e = .returned (.int .i64 (pickN m.right ids.length:Nat))∧w' = w):=Lib.hid fun w=>pickf_c m.right ids.length _ rfl hm.right h0 (by omega) w
 have HP3:Hid (∀ w,Calls Tryz.prog 22 #[.int .i64 m.kind,.int .i64 4] w fun e w'=>e = .returned (.int .i64 2)∧w' = w):=Lib.hid fun w=>pick4_c m.kind 2 (by rw [hk];rfl) hm.kind w
 have HL1:Hid (∀ w,(refA (.slice ad1 S.list.length c1) (.slice ad2 S.list.length c2) S.list).ho w→Calls Tryz.prog 83 #[.agg #[.slice ad1 S.list.length c1,.slice ad2 S.list.length c2],.int .i64 l] w fun e w'=>e = .returned (.int .i64 x.w.len)∧St w [] [] w'):=Lib.hid fun w h=>rlen_c hx w h
 have HL2:Hid (∀ w,(refA (.slice ad1 S.list.length c1) (.slice ad2 S.list.length c2) S.list).ho w→Calls Tryz.prog 83 #[.agg #[.slice ad1 S.list.length c1,.slice ad2 S.list.length c2],.int .i64 r] w fun e w'=>e = .returned (.int .i64 y.w.len)∧St w [] [] w'):=Lib.hid fun w h=>rlen_c hy w h
 have hl:=pickN_lt (n:=m.left) h0
 have hri:=pickN_lt (n:=m.right) h0
 have HE:=Lib.hid (And.intro hle hre)
 have hT:=hm.times
 unfold fits64 at hT
 clear h hk hle hre hx hy hm hroom hO hmost
 generalize pickN m.left ids.length = a at *
 generalize pickN m.right ids.length = b at *
 unfold maxLen at hcm
 unfold mkL
 go_enter Tryz.func55,Tryz.ntmps55
 go_wp2_with (first | refine sL ?_ | (refine sS ?_;clear H;intros;rename_i H) | (go_at_call 22;with_reducible refine same (HP1.out _) ?_) | (go_at_call 22;with_reducible refine same (HP2.out _) ?_) | (go_at_call 22;with_reducible refine same (HP3.out _) ?_) | ((with_reducible refine isLoad ?_);refine AtLoad.cel rfl rfl rfl rfl (rowsA_cell1 (H.get (A:=rowsA encI 32 1 (.slice (some ⟨g,0,none⟩) ids.length c) ids) pk) encI_len HE.out.1 rfl) ?_;simp only [Act.put,puA,puB,puC]) | ((with_reducible refine isLoad ?_);refine AtLoad.cel rfl rfl rfl rfl (rowsA_cell1 (H.get (A:=rowsA encI 32 1 (.slice (some ⟨g,0,none⟩) ids.length c) ids) pk) encI_len HE.out.2 rfl) ?_;simp only [Act.put,puA,puB,puC]) | (go_at_call 83;with_reducible refine Calls.mono (HL1.out _ (H.get (A:=(refA (.slice ad1 S.list.length c1) (.slice ad2 S.list.length c2) S.list)) pk)) ?_;rintro e wc ⟨rfl,hb⟩;replace H:=H.grew hb.below;clear hb))
 refine wp_region_h H 8 [] [] (by kernel_rfl) (by kernel_rfl) ?_
 apply Exists.intro
 refine ⟨fun w1 hw1 HX=>?_,fun bs wr Hr=>?_⟩
 ·refine sG ?_
  repeat (first | refine sQ ?_ | go_big_quiet_step ((go_at_call 83;with_reducible exact quiet_st_x (HL1.out _ ((HX _).get (A:=(refA (.slice ad1 S.list.length c1) (.slice ad2 S.list.length c2) S.list)) pk)))) | go_big_quiet_step ((go_at_call 83;with_reducible exact quiet_st_x (HL2.out _ ((HX _).get (A:=(refA (.slice ad1 S.list.length c1) (.slice ad2 S.list.length c2) S.list)) pk)))) | go_big_quiet_step (fail))
  exact wpQuiet_nil rfl
 clear H
 have H:=Hr
 clear Hr
 replace H:=sH H;refine sT ?_
 go_wp2_with (first | refine sL ?_ | (refine sS ?_;clear H;intros;rename_i H))
 exact bodyPost_ret (res_row_tmp rfl H rfl pk rfl rfl) rfl (OnePost.mk' _ _ rfl (H.pick2 (A:=(refA (.slice ad1 S.list.length c1) (.slice ad2 S.list.length c2) S.list)) (B:=rowsA encI 32 1 (.slice (some ⟨g,0,none⟩) ids.length c) ids) pk pk).onlyTwo)
attribute [local go_sem] StStep stAt stUpon in
theorem one_in2 {vr vl rv:Value} {S:Sto} {ids:List Nat} {m:Mk} (hm:m.Fits) (hO:S.Ok) (h0:0 < ids.length) (hids:ids.length≤1048576) (hroom:S.list.length < S.most) {l r:Nat} (hle:ids[pickN m.left ids.length]? = some l) (hre:ids[pickN m.right ids.length]? = some r) {x y:En} (hx:enAt S l = some x) (hy:enAt S r = some y) (hk:pickN m.kind 4 = 2) (hl0:((l:Int) == 0) = false) (hr0:((r:Int) == 0) = false) (hxl:x.w.len≤1152921504606846976) (hyl:y.w.len≤1152921504606846976) (hq:decide (1152921504606846976 - (y.w.len:Int) < x.w.len) = false) (w:World) (h:((refA vr vl S.list).sep (rowsA encI 32 1 rv ids)).ho w) :
  Calls Tryz.prog 55 #[.agg #[vr,vl],.agg (mkL m).toArray,rv] w (OnePost ((refA vr vl S.list).sep (rowsA encI 32 1 rv ids)).fp rv ids (S.put (pairE x y l r)).1.1 (S.put (pairE x y l r)).2.list w):=by
 have H:=(St.one h).sep
 have hv:=refA_shape (H.get Pick.here)
 have hr:=rowsA_cases (H.get (Pick.there Pick.here)) h0
 generalize ((refA vr vl S.list).sep (rowsA encI 32 1 rv ids)).fp = M at H ⊢
 obtain ⟨ad1,c1,ad2,c2,rfl,rfl⟩:=hv
 obtain ⟨g,c,rfl,hc,hcm⟩:=hr
 have hmost:=hO.most
 have HP1:Hid (∀ w,Calls Tryz.prog 22 #[.int .i64 m.left,.int .i64 ids.length] w fun e w'=>e = .returned (.int .i64 (pickN m.left ids.length:Nat))∧w' = w):=Lib.hid fun w=>pickf_c m.left ids.length _ rfl hm.left h0 (by omega) w
 have HP2:Hid (∀ w,Calls Tryz.prog 22 #[.int .i64 m.right,.int .i64 ids.length] w fun e w'=>e = .returned (.int .i64 (pickN m.right ids.length:Nat))∧w' = w):=Lib.hid fun w=>pickf_c m.right ids.length _ rfl hm.right h0 (by omega) w
 have HP3:Hid (∀ w,Calls Tryz.prog 22 #[.int .i64 m.kind,.int .i64 4] w fun e w'=>e = .returned (.int .i64 2)∧w' = w):=Lib.hid fun w=>pick4_c m.kind 2 (by rw [hk];rfl) hm.kind w
 have HL1:Hid (∀ w,(refA (.slice ad1 S.list.length c1) (.slice ad2 S.list.length c2) S.list).ho w→Calls Tryz.prog 83 #[.agg #[.slice ad1 S.list.length c1,.slice ad2 S.list.length c2],.int .i64 l] w fun e w'=>e = .returned (.int .i64 x.w.len)∧St w [] [] w'):=Lib.hid fun w h=>rlen_c hx w h
 have HL2:Hid (∀ w,(refA (.slice ad1 S.list.length c1) (.slice ad2 S.list.length c2) S.list).ho w→Calls Tryz.prog 83 #[.agg #[.slice ad1 S.list.length c1,.slice ad2 S.list.length c2],.int .i64 r] w fun e w'=>e = .returned (.int .i64 y.w.len)∧St w [] [] w'):=Lib.hid fun w h=>rlen_c hy w h
 have hl:=pickN_lt (n:=m.left) h0
 have hri:=pickN_lt (n:=m.right) h0
 have HE:=Lib.hid (And.intro hle hre)
 have HA:Hid (∀ w,(refA (.slice ad1 S.list.length c1) (.slice ad2 S.list.length c2) S.list).ho w→Calls Tryz.prog 82 #[.agg #[.slice ad1 S.list.length c1,.slice ad2 S.list.length c2],.agg #[.int .i64 2,.int .u8 0,.int .i64 l,.int .i64 r,.int .i64 0],.int .i64 ((x.w.len:Int) + y.w.len)] w (RefPost (refA (.slice ad1 S.list.length c1) (.slice ad2 S.list.length c2) S.list).fp (S.put (pairE x y l r)).1.1 (S.put (pairE x y l r)).2.list w)):=Lib.hid fun w h=>by
  have:=radd_c (pairE x y l r) hroom hO.most w h
  rw [show ((pairE x y l r).w.len:Int) = (x.w.len:Int) + y.w.len from by simp [pairE,Wt.join]] at this
  exact this
 have hT:=hm.times
 unfold fits64 at hT
 clear h hk hle hre hx hy hm hroom hO hmost
 generalize pickN m.left ids.length = a at *
 generalize pickN m.right ids.length = b at *
 unfold maxLen at hcm
 unfold mkL
 go_enter Tryz.func55,Tryz.ntmps55
 go_wp2_with (first | refine sL ?_ | (refine sS ?_;clear H;intros;rename_i H) | (go_at_call 22;with_reducible refine same (HP1.out _) ?_) | (go_at_call 22;with_reducible refine same (HP2.out _) ?_) | (go_at_call 22;with_reducible refine same (HP3.out _) ?_) | ((with_reducible refine isLoad ?_);refine AtLoad.cel rfl rfl rfl rfl (rowsA_cell1 (H.get (A:=rowsA encI 32 1 (.slice (some ⟨g,0,none⟩) ids.length c) ids) pk) encI_len HE.out.1 rfl) ?_;simp only [Act.put,puA,puB,puC]) | ((with_reducible refine isLoad ?_);refine AtLoad.cel rfl rfl rfl rfl (rowsA_cell1 (H.get (A:=rowsA encI 32 1 (.slice (some ⟨g,0,none⟩) ids.length c) ids) pk) encI_len HE.out.2 rfl) ?_;simp only [Act.put,puA,puB,puC]) | (go_at_call 83;with_reducible refine Calls.mono (HL1.out _ (H.get (A:=(refA (.slice ad1 S.list.length c1) (.slice ad2 S.list.length c2) S.list)) pk)) ?_;rintro e wc ⟨rfl,hb⟩;replace H:=H.grew hb.below;clear hb))
 rename_i b3 _ b2 _ b1 w1 K0 hK0 K1 hK1
 refine wp_region_h H 8 [] [] (by kernel_rfl) (by kernel_rfl) ?_
 apply Exists.intro
 refine ⟨fun w1 hw1 HX=>?_,fun bs wr Hr=>?_⟩
 ·refine sG ?_
  repeat (first | refine sQ ?_ | go_big_quiet_step ((go_at_call 83;with_reducible exact quiet_st_x (HL1.out _ ((HX _).get (A:=(refA (.slice ad1 S.list.length c1) (.slice ad2 S.list.length c2) S.list)) pk)))) | go_big_quiet_step ((go_at_call 83;with_reducible exact quiet_st_x (HL2.out _ ((HX _).get (A:=(refA (.slice ad1 S.list.length c1) (.slice ad2 S.list.length c2) S.list)) pk)))) | go_big_quiet_step (fail))
  exact wpQuiet_nil rfl
 clear H
 have H:=Hr
 clear Hr
 replace H:=sH H;refine sT ?_
 go_wp2_with (first | refine sL ?_ | (refine sS ?_;clear H;intros;rename_i H))
 replace H:=H.pick (A:=(refA (.slice ad1 S.list.length c1) (.slice ad2 S.list.length c2) S.list)) pk
 refine wp_region_rgx H [blk b1 (.cells #[.slice none 0 0,.slice none 0 0] 72),blk b2 (.cells (mkL m).toArray 118),blk b3 (.cells #[.slice ad1 S.list.length c1,.slice ad2 S.list.length c2] 72),rowsA encI 32 1 (.slice (some ⟨g,0,none⟩) ids.length c) ids] 14 [⟨[],[],[],fun v _=>v = .agg #[.slice ad1 S.list.length c1,.slice ad2 S.list.length c2],fun _ _=>[]⟩,⟨[],[],[],fun v _=>v = .int .i64 l,fun _ _=>[]⟩,⟨[],[],[],fun v _=>v = .int .i64 r,fun _ _=>[]⟩,⟨[],[],[1,2],fun v _=>v = .agg #[.int .i64 2,.int .u8 0,.int .i64 l,.int .i64 r,.int .i64 0],fun _ _=>[]⟩,⟨[],[],[],fun v _=>v = .agg #[.slice ad1 S.list.length c1,.slice ad2 S.list.length c2],fun _ _=>[]⟩,⟨[],[],[],fun v _=>v = .int .i64 l,fun _ _=>[]⟩,⟨[],[14],[4,5],fun v _=>v = .int .i64 x.w.len,fun _ _=>[]⟩,⟨[],[],[],fun v _=>v = .agg #[.slice ad1 S.list.length c1,.slice ad2 S.list.length c2],fun _ _=>[]⟩,⟨[],[],[],fun v _=>v = .int .i64 r,fun _ _=>[]⟩,⟨[],[14],[7,8],fun v _=>v = .int .i64 y.w.len,fun _ _=>[]⟩,⟨[],[],[6,9],fun v _=>v = .int .i64 ((x.w.len:Int) + y.w.len),fun _ _=>[]⟩,⟨[14],[],[0,3,10],fun v _=>v = .tuple #[.agg #[tup1 v,tup2 v],.int .i64 (S.put (pairE x y l r)).1.1],fun v _=>[refA (tup1 v) (tup2 v) (S.put (pairE x y l r)).2.list]⟩,⟨[],[],[11],fun v ds=>∃ d,ds = [d]∧v = .agg #[tup1 d,tup2 d],fun _ _=>[]⟩,⟨[],[],[11],fun v _=>v = .int .i64 (S.put (pairE x y l r)).1.1,fun _ _=>[]⟩,⟨[],[],[],fun _ _=>True,fun _ _=>[(refA (.slice ad1 S.list.length c1) (.slice ad2 S.list.length c2) S.list)]⟩] (by kernel_rfl)
  [[],[],[],[(1,94),(2,95)],[],[],[(4,97),(5,98)],[],[],[(7,100),(8,101)],[(6,99),(9,102)],[(0,93),(3,96),(10,103)],[(11,104)],[(11,104)]] [(0,93),(1,94),(2,95),(3,96),(4,97),(5,98),(6,99),(7,100),(8,101),(9,102),(10,103),(11,104),(12,105),(13,106)] [0,1,2,3,4,5,6,7,8,9,10,11,12,13] (by kernel_rfl) (by kernel_rfl) (by kernel_rfl) ⟨?o0,?o1,?o2,?o3,?o4,?o5,?o6,?o7,?o8,?o9,?o10,?o11,?o12,?o13,trivial⟩ ?fin
 case o0 =>
  intro vals wx X hd H
  clear hd
  replace H:=sP H
  simp only [putS,List.foldl_nil]
  first | refine StStep.cellT rfl rfl rfl gt rfl rfl ⟨rfl,H⟩ | refine StStep.wholeT rfl rfl rfl gt rfl ⟨rfl,H⟩
 case o1 =>
  intro vals wx X hd H
  clear hd
  replace H:=sP H
  simp only [putS,List.foldl_nil]
  go_simp
  first | exact H | exact ⟨rfl,H⟩
 case o2 =>
  intro vals wx X hd H
  clear hd
  replace H:=sP H
  simp only [putS,List.foldl_nil]
  go_simp
  first | exact H | exact ⟨rfl,H⟩
 case o3 =>
  intro vals wx X hd H
  have h1:vals 1 = .int .i64 l:=hd.1
  have h2:vals 2 = .int .i64 r:=hd.2.1
  clear hd
  replace H:=sP H
  simp only [putS,List.foldl_nil,List.foldl_cons,Act.put,List.setIfInBounds_toArray,List.set_cons_zero,List.set_cons_succ,h1,h2]
  clear h1 h2
  go_simp
  first | exact H | exact ⟨rfl,H⟩
 case o4 =>
  intro vals wx X hd H
  clear hd
  replace H:=sP H
  simp only [putS,List.foldl_nil]
  first | refine StStep.cellT rfl rfl rfl gt rfl rfl ⟨rfl,H⟩ | refine StStep.wholeT rfl rfl rfl gt rfl ⟨rfl,H⟩
 case o5 =>
  intro vals wx X hd H
  clear hd
  replace H:=sP H
  simp only [putS,List.foldl_nil]
  go_simp
  first | exact H | exact ⟨rfl,H⟩
 case o6 =>
  intro vals wx X hd H
  have h4:vals 4 = .agg #[.slice ad1 S.list.length c1,.slice ad2 S.list.length c2]:=hd.1
  have h5:vals 5 = .int .i64 l:=hd.2.1
  clear hd
  replace H:=sP H
  simp only [putS,List.foldl_nil,List.foldl_cons,Act.put,List.setIfInBounds_toArray,List.set_cons_zero,List.set_cons_succ,h4,h5]
  go_simp
  with_reducible refine Calls.mono (HL1.out _ (H.get (A:=(refA (.slice ad1 S.list.length c1) (.slice ad2 S.list.length c2) S.list)) pk)) ?_
  rintro e wc ⟨rfl,hb⟩
  exact ⟨_,rfl,rfl,H.grew hb.below⟩
 case o7 =>
  intro vals wx X hd H
  clear hd
  replace H:=sP H
  simp only [putS,List.foldl_nil]
  first | refine StStep.cellT rfl rfl rfl gt rfl rfl ⟨rfl,H⟩ | refine StStep.wholeT rfl rfl rfl gt rfl ⟨rfl,H⟩
 case o8 =>
  intro vals wx X hd H
  clear hd
  replace H:=sP H
  simp only [putS,List.foldl_nil]
  go_simp
  first | exact H | exact ⟨rfl,H⟩
 case o9 =>
  intro vals wx X hd H
  have h7:vals 7 = .agg #[.slice ad1 S.list.length c1,.slice ad2 S.list.length c2]:=hd.1
  have h8:vals 8 = .int .i64 r:=hd.2.1
  clear hd
  replace H:=sP H
  simp only [putS,List.foldl_nil,List.foldl_cons,Act.put,List.setIfInBounds_toArray,List.set_cons_zero,List.set_cons_succ,h7,h8]
  go_simp
  with_reducible refine Calls.mono (HL2.out _ (H.get (A:=(refA (.slice ad1 S.list.length c1) (.slice ad2 S.list.length c2) S.list)) pk)) ?_
  rintro e wc ⟨rfl,hb⟩
  exact ⟨_,rfl,rfl,H.grew hb.below⟩
 case o10 =>
  intro vals wx X hd H
  have h6:vals 6 = .int .i64 x.w.len:=hd.1
  have h9:vals 9 = .int .i64 y.w.len:=hd.2.1
  clear hd
  replace H:=sP H
  simp only [putS,List.foldl_nil,List.foldl_cons,Act.put,List.setIfInBounds_toArray,List.set_cons_zero,List.set_cons_succ,h6,h9]
  have hw:=IntWalk.i64_in ((x.w.len:Int) + y.w.len) (by omega)
  clear h6 h9
  go_simp
  first | exact H | exact ⟨rfl,H⟩
 case o11 =>
  intro vals wx X hd H
  have h0:vals 0 = .agg #[.slice ad1 S.list.length c1,.slice ad2 S.list.length c2]:=hd.1
  have h3:vals 3 = .agg #[.int .i64 2,.int .u8 0,.int .i64 l,.int .i64 r,.int .i64 0]:=hd.2.1
  have h10:vals 10 = .int .i64 ((x.w.len:Int) + y.w.len):=hd.2.2.1
  clear hd
  replace H:=sP H
  simp only [putS,List.foldl_nil,List.foldl_cons,Act.put,List.setIfInBounds_toArray,List.set_cons_zero,List.set_cons_succ,h0,h3,h10]
  clear h0 h3 h10
  go_simp
  with_reducible refine Calls.mono (HA.out _ (H.get (A:=(refA (.slice ad1 S.list.length c1) (.slice ad2 S.list.length c2) S.list)) pk)) ?_
  rintro e wc ⟨vr',vl',rfl,hb⟩
  exact ⟨_,rfl,rfl,(H.pick (A:=(refA (.slice ad1 S.list.length c1) (.slice ad2 S.list.length c2) S.list)) pk).call hb⟩
 case o12 =>
  intro vals wx X hd H
  have h11:=hd.1
  clear hd
  replace H:=sP H
  simp only [putS,List.foldl_nil,List.foldl_cons,Act.put,List.setIfInBounds_toArray,List.set_cons_zero,List.set_cons_succ]
  have e11:vals 11 = .tuple #[.agg #[tup1 (vals 11),tup2 (vals 11)],.int .i64 (S.put (pairE x y l r)).1.1]:=h11
  clear h11
  generalize tup1 (vals 11) = p at e11 H ⊢
  generalize tup2 (vals 11) = q at e11 H ⊢
  simp only [e11]
  go_simp
  exact ⟨⟨rfl,rfl⟩,H⟩
 case o13 =>
  intro vals wx X hd H
  have h11:=hd.1
  clear hd
  replace H:=sP H
  simp only [putS,List.foldl_nil,List.foldl_cons,Act.put,List.setIfInBounds_toArray,List.set_cons_zero,List.set_cons_succ]
  have e11:vals 11 = .tuple #[.agg #[tup1 (vals 11),tup2 (vals 11)],.int .i64 (S.put (pairE x y l r)).1.1]:=h11
  clear h11
  generalize tup1 (vals 11) = p at e11 H ⊢
  generalize tup2 (vals 11) = q at e11 H ⊢
  simp only [e11]
  go_simp
  first | exact H | exact ⟨rfl,H⟩
 case fin =>
  intro vals wx hd H
  have h0:vals 0 = .agg #[.slice ad1 S.list.length c1,.slice ad2 S.list.length c2]:=hd.1
  have h1:vals 1 = .int .i64 l:=hd.2.1
  have h2:vals 2 = .int .i64 r:=hd.2.2.1
  have h3:vals 3 = .agg #[.int .i64 2,.int .u8 0,.int .i64 l,.int .i64 r,.int .i64 0]:=hd.2.2.2.1
  have h4:vals 4 = .agg #[.slice ad1 S.list.length c1,.slice ad2 S.list.length c2]:=hd.2.2.2.2.1
  have h5:vals 5 = .int .i64 l:=hd.2.2.2.2.2.1
  have h6:vals 6 = .int .i64 x.w.len:=hd.2.2.2.2.2.2.1
  have h7:vals 7 = .agg #[.slice ad1 S.list.length c1,.slice ad2 S.list.length c2]:=hd.2.2.2.2.2.2.2.1
  have h8:vals 8 = .int .i64 r:=hd.2.2.2.2.2.2.2.2.1
  have h9:vals 9 = .int .i64 y.w.len:=hd.2.2.2.2.2.2.2.2.2.1
  have h10:vals 10 = .int .i64 ((x.w.len:Int) + y.w.len):=hd.2.2.2.2.2.2.2.2.2.2.1
  have h11:=hd.2.2.2.2.2.2.2.2.2.2.2.1
  have h12:=hd.2.2.2.2.2.2.2.2.2.2.2.2.1
  have h13:=hd.2.2.2.2.2.2.2.2.2.2.2.2.2.1
  clear hd
  replace H:=sP H
  simp only [putS,List.foldl_nil,List.foldl_cons,Act.put,List.setIfInBounds_toArray,List.set_cons_zero,List.set_cons_succ,List.drop_succ_cons,List.drop_zero,h0,h1,h2,h3,h4,h5,h6,h7,h8,h9,h10]
  clear h0 h1 h2 h3 h4 h5 h6 h7 h8 h9 h10
  obtain ⟨d,e1,e2⟩:∃ d,[vals 11] = [d]∧vals 12 = .agg #[tup1 d,tup2 d]:=h12
  have e3:vals 13 = .int .i64 (S.put (pairE x y l r)).1.1:=h13
  clear h11 h13
  try simp only [List.cons.injEq,and_true] at e1
  subst e1
  try simp only [List.map_cons,List.map_nil,List.cons_append,List.nil_append] at H
  generalize tup1 (vals 11) = p at e2 H
  generalize tup2 (vals 11) = q at e2 H
  obtain ⟨ad3,c3,ad4,c4,rfl,rfl⟩:=refA_shape (H.get (A:=refA p q (S.put (pairE x y l r)).2.list) pk)
  simp only [e2,e3]
  clear e2 e3
  go_wp2_with (first | refine sL ?_ | (refine sS ?_;clear H;intros;rename_i H))
  exact bodyPost_ret (res_row_tmp rfl H rfl pk rfl rfl) rfl (OnePost.mk' _ _ rfl (H.pick2 (A:=refA _ _ (S.put (pairE x y l r)).2.list) (B:=rowsA encI 32 1 (.slice (some ⟨g,0,none⟩) ids.length c) ids) pk pk).onlyTwo)
theorem div_dec (a k:Nat) (ha:0 < a):decide (1152921504606846976 / (a:Int) < (k:Int)) = decide (maxT < a * k):=by
 have h1:1152921504606846976 / a < k ↔ maxT < a * k:=by rw [maxT_eq,Nat.div_lt_iff_lt_mul ha,Nat.mul_comm]
 have h2:(1152921504606846976 / (a:Int) < (k:Int)) ↔ 1152921504606846976 / a < k:=by
  rw [← Int.ofNat_lt];simp [Int.natCast_ediv]
 exact decide_eq_decide.2 (h2.trans h1)
theorem zero_dec (l:Nat) (h:l = 0):((l:Int) == 0) = true:=by subst h;rfl
theorem pos_dec (l:Nat) (h:l≠0):((l:Int) == 0) = false:=by rw [beq_eq_false_iff_ne];omega
theorem enAt_good {S:Sto} (h:S.Ok) {l:Nat} {x:En} (hx:enAt S l = some x) (hl:l≠0):0 < x.w.len∧x.w.len≤1152921504606846976:=by
 cases l with
 |zero=>exact absurd rfl hl
 |succ l=>exact ⟨(h.good l x (by simpa [enAt] using hx)).pos,(h.good l x (by simpa [enAt] using hx)).wok.len⟩
theorem one_c {vr vl rv:Value} {S:Sto} {ids:List Nat} {m:Mk} (hm:m.Fits) (hO:S.Ok) (h0:0 < ids.length) (hids:ids.length≤1048576) (hin:∀ i∈ids,i≤S.list.length) (hroom:S.list.length < S.most) (w:World) (h:((refA vr vl S.list).sep (rowsA encI 32 1 rv ids)).ho w) :
  Calls Tryz.prog 55 #[.agg #[vr,vl],.agg (mkL m).toArray,rv] w (OnePost ((refA vr vl S.list).sep (rowsA encI 32 1 rv ids)).fp rv ids (S.make ids m).1.1 (S.make ids m).2.list w):=by
 have hl:=pickN_lt (n:=m.left) h0
 have hri:=pickN_lt (n:=m.right) h0
 obtain ⟨l,hle⟩:∃ l,ids[pickN m.left ids.length]? = some l:=⟨ids[pickN m.left ids.length],by simp [hl]⟩
 obtain ⟨r,hre⟩:∃ r,ids[pickN m.right ids.length]? = some r:=⟨ids[pickN m.right ids.length],by simp [hri]⟩
 obtain ⟨x,hx⟩:=enAt_some (S:=S) (hin l (List.mem_of_getElem? hle))
 obtain ⟨y,hy⟩:=enAt_some (S:=S) (hin r (List.mem_of_getElem? hre))
 have e1:ids.getD (pickN m.left ids.length) 0 = l:=by rw [List.getD_eq_getElem?_getD,hle];rfl
 have e2:ids.getD (pickN m.right ids.length) 0 = r:=by rw [List.getD_eq_getElem?_getD,hre];rfl
 have hk4:=pickN_lt (n:=m.kind) (m:=4) (by omega)
 have hf:=hm.times
 unfold fits64 at hf
 unfold Sto.make
 rw [e1,e2]
 clear e1 e2
 by_cases k0:pickN m.kind 4 = 0
 ·rw [if_pos k0]
  exact one_letter hm hO h0 hids hroom hle hre hx hy k0 w h
 ·rw [if_neg k0]
  by_cases k3:pickN m.kind 4 = 3
  ·rw [if_pos k3]
   unfold Sto.power
   simp only [hx]
   by_cases hl0:l = 0
   ·rw [if_pos (Or.inr hl0)]
    exact one_pow0 hm hO h0 hids hroom hle hre hx hy k3 (zero_dec l hl0) w h
   ·obtain ⟨hp,hxl⟩:=enAt_good hO hx hl0
    by_cases ht:m.times≤0
    ·rw [if_pos (Or.inl (by omega))]
     exact one_powt hm hO h0 hids hroom hle hre hx hy k3 (pos_dec l hl0) ht w h
    ·obtain ⟨k,hk⟩:∃ k:Nat,m.times = k:=⟨m.times.toNat,by omega⟩
     have hkn:m.times.toNat = k:=by omega
     rw [hkn,if_neg (by omega)]
     have hd:=div_dec x.w.len k hp
     by_cases h1:k = 1
     ·rw [if_pos h1]
      subst h1
      exact one_powone hm hO h0 hids hroom hle hre hx hy k3 (pos_dec l hl0) hp (by rw [hk];rfl) (decide_eq_false ht) (by rw [hk,hd];exact decide_eq_false (by rw [maxT_eq];omega)) w h
     ·rw [if_neg h1]
      by_cases hlong:maxT < x.w.len * k
      ·rw [if_pos hlong]
       exact one_powlong hm hO h0 hids hroom hle hre hx hy k3 (pos_dec l hl0) hp (by omega) (by rw [hk,hd];exact decide_eq_true hlong) w h
      ·rw [if_neg hlong]
       exact one_powin hm hO h0 hids hroom hle hre hx hy k3 (pos_dec l hl0) hp (by rw [hk,beq_eq_false_iff_ne];omega) k hk (decide_eq_false ht) (by rw [hk,hd];exact decide_eq_false hlong) (by rw [maxT_eq] at hlong;omega) w h
  ·rw [if_neg k3]
   unfold Sto.pair
   simp only [hx,hy]
   by_cases hl0:l = 0
   ·rw [if_pos hl0]
    by_cases k1:pickN m.kind 4 = 1
    ·exact one_left1 hm hO h0 hids hroom hle hre hx hy k1 (zero_dec l hl0) w h
    ·exact one_left2 hm hO h0 hids hroom hle hre hx hy (by omega) (zero_dec l hl0) w h
   ·rw [if_neg hl0]
    by_cases hr0:r = 0
    ·rw [if_pos hr0]
     by_cases k1:pickN m.kind 4 = 1
     ·exact one_right1 hm hO h0 hids hroom hle hre hx hy k1 (pos_dec l hl0) (zero_dec r hr0) w h
     ·exact one_right2 hm hO h0 hids hroom hle hre hx hy (by omega) (pos_dec l hl0) (zero_dec r hr0) w h
    ·rw [if_neg hr0]
     have gx:=(enAt_good hO hx hl0).2
     have gy:=(enAt_good hO hy hr0).2
     by_cases hlong:maxT < x.w.len + y.w.len
     ·rw [if_pos hlong]
      rw [maxT_eq] at hlong
      by_cases k1:pickN m.kind 4 = 1
      ·exact one_long1 hm hO h0 hids hroom hle hre hx hy k1 (pos_dec l hl0) (pos_dec r hr0) gx gy (decide_eq_true (by omega)) w h
      ·exact one_long2 hm hO h0 hids hroom hle hre hx hy (by omega) (pos_dec l hl0) (pos_dec r hr0) gx gy (decide_eq_true (by omega)) w h
     ·rw [if_neg hlong]
      rw [maxT_eq] at hlong
      by_cases k1:pickN m.kind 4 = 1
      ·exact one_in1 hm hO h0 hids hroom hle hre hx hy k1 (pos_dec l hl0) (pos_dec r hr0) gx gy (decide_eq_false (by omega)) w h
      ·exact one_in2 hm hO h0 hids hroom hle hre hx hy (by omega) (pos_dec l hl0) (pos_dec r hr0) gx gy (decide_eq_false (by omega)) w h
end
section
open Go.RowKit Go.Maps
abbrev PoolT:=List (Nat × Nat × List Value)
def poolA (P:PoolT):As:=⟨P.map (·.1),fun w=>∀ x∈P,x.1 < w.heap.size∧w.rangeAt x.1 x.2.1 x.2.2,
 fun w w' h hw x hx=>by
  have hb:=h x.1 (List.mem_map.2 ⟨x,hx,rfl⟩)
  obtain ⟨h1,h2⟩:=hw x hx
  refine ⟨?_,fun j v hj=>?_⟩
  ·rw [Array.getElem?_eq_getElem h1] at hb
   exact Array.getElem?_eq_some_iff.1 hb |>.1
  ·rw [← h2 j v hj]
   unfold World.cell?
   simp only [hb],
 fun w hw b hb=>by
  obtain ⟨x,hx,rfl⟩:=List.mem_map.1 hb
  exact (hw x hx).1⟩
theorem poolA_fp (P:PoolT):(poolA P).fp = P.map (·.1):=rfl
theorem poolA_ho (P:PoolT) (w:World):(poolA P).ho w = ∀ x∈P,x.1 < w.heap.size∧w.rangeAt x.1 x.2.1 x.2.2:=rfl
theorem poolA_nil (w:World):(poolA []).ho w:=by rw [poolA_ho];simp
attribute [irreducible] poolA
theorem pool_rng {P:PoolT} {w:World} (h:(poolA P).ho w) {g o:Nat} {vs:List Value} (hx:(g,o,vs)∈P):w.rangeAt g o vs:=by
 rw [poolA_ho] at h
 exact (h _ hx).2
theorem St.pool_add {w0 w:World} {M:List Nat} {P Q:PoolT} {R:List As} (h:St w0 M (poolA P :: poolA Q :: R) w):St w0 M (poolA (P ++ Q) :: R) w:=by
 have h1:=h.ho (poolA P) (by simp)
 have h2:=h.ho (poolA Q) (by simp)
 obtain ⟨d1,d2⟩:=List.pairwise_cons.1 h.dis
 obtain ⟨d3,d4⟩:=List.pairwise_cons.1 d2
 have hfp:∀ b,b∈(poolA (P ++ Q)).fp→b∈(poolA P).fp∨b∈(poolA Q).fp:=fun b hb=>by
  rw [poolA_fp] at hb ⊢
  rw [poolA_fp]
  rw [List.map_append] at hb
  exact List.mem_append.1 hb
 refine ⟨h.os,h.tape,h.output,h.size,h.keep,fun B hB=>?_,fun B hB b hb=>?_,List.pairwise_cons.2 ⟨fun B hB b hb=>?_,d4⟩⟩
 ·rcases List.mem_cons.1 hB with rfl | hB
  ·rw [poolA_ho] at h1 h2 ⊢
   intro x hx
   rcases List.mem_append.1 hx with hx | hx
   ·exact h1 x hx
   ·exact h2 x hx
  ·exact h.ho B (by simp [hB])
 ·rcases List.mem_cons.1 hB with rfl | hB
  ·rcases hfp b hb with hb | hb
   ·exact h.own _ (by simp) b hb
   ·exact h.own (poolA Q) (by simp) b hb
  ·exact h.own B (by simp [hB]) b hb
 ·rcases hfp b hb with hb | hb
  ·exact d1 B (by simp [hB]) b hb
  ·exact d3 B hB b hb
theorem poolA_append {P Q:PoolT} {w:World} (h1:(poolA P).ho w) (h2:(poolA Q).ho w):(poolA (P ++ Q)).ho w:=by
 rw [poolA_ho] at h1 h2 ⊢
 intro x hx
 rcases List.mem_append.1 hx with hx | hx
 ·exact h1 x hx
 ·exact h2 x hx
def RowIn {α:Type} (P:PoolT) (enc:α→List Value) (k:Nat) (v:Value) (xs:List α):Prop :=
 ∃ ad c,v = .slice ad xs.length c∧xs.length≤maxLen∧(0 < xs.length→∃ g o,ad = some ⟨g,o,none⟩∧(g,o,flatG enc xs)∈P)
section
variable {α:Type} {P Q:PoolT} {enc:α→List Value} {k:Nat} {v:Value} {xs:List α} {w:World}
theorem RowIn.shape (h:RowIn P enc k v xs):∃ ad c,v = .slice ad xs.length c∧xs.length≤maxLen:=by
 obtain ⟨ad,c,h1,h2,_⟩:=h
 exact ⟨ad,c,h1,h2⟩
theorem RowIn.has (h:RowIn P enc k v xs) (hx:0 < xs.length):∃ g o c,v = .slice (some ⟨g,o,none⟩) xs.length c∧xs.length≤maxLen:=by
 obtain ⟨ad,c,h1,h2,h3⟩:=h
 obtain ⟨g,o,rfl,_⟩:=h3 hx
 exact ⟨g,o,c,h1,h2⟩
theorem RowIn.mono (h:RowIn P enc k v xs) (hs:∀ x∈P,x∈Q):RowIn Q enc k v xs:=by
 obtain ⟨ad,c,h1,h2,h3⟩:=h
 refine ⟨ad,c,h1,h2,fun hx=>?_⟩
 obtain ⟨g,o,e,hm⟩:=h3 hx
 exact ⟨g,o,e,hs _ hm⟩
theorem RowIn.nil (n:Nat):RowIn P enc k (.slice none 0 n) ([]:List α):=⟨none,n,rfl,by simp,fun h=>by simp at h⟩
theorem RowIn.rng {g o n c i:Nat} {x:α} (h:RowIn P enc k (.slice (some ⟨g,o,none⟩) n c) xs) (hp:(poolA P).ho w) (hk:∀ x,(enc x).length = k) (hx:xs[i]? = some x):w.rangeAt g (o + i * k) (enc x):=by
 obtain ⟨ad,c',h1,h2,h3⟩:=h
 obtain ⟨g',o',rfl,hm⟩:=h3 (by have:=getElem_len hx;omega)
 injection h1 with e1 e2 e3
 injection e1 with e1
 injection e1 with e4 e5
 subst e4 e5
 have hr:=pool_rng hp hm
 intro j u hj
 have hjk:j < k:=by rw [← hk x];exact getElem_len hj
 have:=hr (i * k + j) u (by rw [flatG_get enc k hk xs i x hx j hjk];exact hj)
 rwa [← Nat.add_assoc] at this
theorem RowIn.cell {g o n c i:Nat} {x:α} {u:Value} (h:RowIn P enc 1 (.slice (some ⟨g,o,none⟩) n c) xs) (hp:(poolA P).ho w) (hk:∀ x,(enc x).length = 1) (hx:xs[i]? = some x) (hu:enc x = [u]):w.cell? ⟨g,o + i,none⟩ = some u:=by
 have:=h.rng hp hk hx 0 u (by rw [hu];rfl)
 simpa using this
theorem rowsA_pool {e:TypeId} (h:(rowsA enc e k v xs).ho w) (hk:∀ x,(enc x).length = k):∃ P,RowIn P enc k v xs∧(poolA P).ho w∧∀ b∈(poolA P).fp,b∈(rowsA enc e k v xs).fp:=by
 by_cases h0:0 < xs.length
 ·obtain ⟨g,c,rfl,hc,hm⟩:=rowsA_cases h h0
  refine ⟨[(g,0,flatG enc xs)],⟨_,c,rfl,by omega,fun _=>⟨g,0,rfl,by simp⟩⟩,?_,?_⟩
  ·rw [poolA_ho]
   intro x hx
   simp only [List.mem_singleton] at hx
   subst hx
   refine ⟨(rowsA enc e k _ xs).lt w h g (by rw [rowsA_fp'];simp [Value.ownBlock]),fun j u hj=>?_⟩
   rw [rowsA_ho] at h
   have h1:=World.ownsRow.cells h (g:=g) rfl j u hj
   rwa [Addr.add_mid] at h1
  ·intro b hb
   rw [poolA_fp] at hb
   rw [rowsA_fp']
   simpa [Value.ownBlock] using hb
 ·obtain ⟨ad,c,rfl,hm⟩:=rowsA_shape h
  exact ⟨[],⟨ad,c,rfl,hm,fun h=>absurd h h0⟩,poolA_nil w,by rw [poolA_fp];simp⟩
theorem St.to_pool {e:TypeId} {w0:World} {M:List Nat} {R:List As} (h:St w0 M (rowsA enc e k v xs :: R) w) (hk:∀ x,(enc x).length = k):∃ P,RowIn P enc k v xs∧St w0 M (poolA P :: R) w:=by
 obtain ⟨P,h1,h2,h3⟩:=rowsA_pool (h.ho _ List.mem_cons_self) hk
 obtain ⟨d1,d2⟩:=List.pairwise_cons.1 h.dis
 refine ⟨P,h1,h.os,h.tape,h.output,h.size,h.keep,fun B hB=>?_,fun B hB b hb=>?_,List.pairwise_cons.2 ⟨fun B hB b hb=>d1 B hB b (h3 b hb),d2⟩⟩
 ·rcases List.mem_cons.1 hB with rfl | hB
  ·exact h2
  ·exact h.ho B (by simp [hB])
 ·rcases List.mem_cons.1 hB with rfl | hB
  ·exact h.own _ List.mem_cons_self b (h3 b hb)
  ·exact h.own B (by simp [hB]) b hb
theorem St.blk_pool {e:TypeId} {g:Nat} {cs:Array Value} {w0:World} {M:List Nat} {R:List As} (h:St w0 M (blk g (.cells cs e) :: R) w):St w0 M (poolA [(g,0,cs.toList)] :: R) w:=by
 refine h.conv (by rw [poolA_fp,blk_fp];rfl) fun hb=>?_
 rw [blk_ho] at hb
 rw [poolA_ho]
 intro x hx
 simp only [List.mem_singleton] at hx
 subst hx
 refine ⟨lt_of_block hb,fun j u hj=>?_⟩
 rw [cell_of_row w g (0 + j) cs e (0,0) hb,Nat.zero_add]
 simpa using hj
end
section
variable {P:Program} {ops:Array Oper} {Q:Exit→Act→World→Prop} {rest:List Oper} {a:Act} {w w0:World} {M:List Nat} {L:List As} {dst:Option Tmp} {ty0:TypeId} {pos:String} {aft:Array Edge} {gd:Option (Nat × Bool)}
def AtMakeMap (P:Program) (ops:Array Oper) (Q:Exit→Act→World→Prop) (o:Oper) (_:TypeId) (rest:List Oper) (a:Act) (w:World):Prop:=wpList P ops Q (o :: rest) a w
theorem isMakeMap {t:TypeId} (h:AtMakeMap P ops Q ⟨dst,.makeMap t none,ty0,pos,aft,gd⟩ t rest a w):wpList P ops Q (⟨dst,.makeMap t none,ty0,pos,aft,gd⟩ :: rest) a w:=h
theorem St.new_map (h:St w0 M L w) (P:Program) (kt:TypeId):St w0 M (mapA P kt w.heap.size [] :: L) (w.alloc (.map #[] 0)):=by
 have:=h.alloc (.map #[] 0)
 refine this.conv (by rw [blk_fp];unfold mapA;rfl) fun hb=>?_
 rw [blk_ho] at hb
 exact mapA_of hb
theorem AtMakeMap.go {o1:Oper} {t:TypeId} (kt:TypeId) (H:St w0 M L w) (hw:Region.wanted o1 (yielded ops a.tmps) = true) (ho:o1.op = .makeMap t none)
  (h:∀ m w',St w0 M (mapA P kt m [] :: L) w'→wpList P ops Q rest (a.put o1.dst (.map (some m))) w'):AtMakeMap P ops Q o1 t rest a w :=
 wpList_step fun _ hK=>by
  rw [if_pos hw]
  unfold Oper.wp execOp
  have hr:(Instr.makeMap t none).run P w = .ok (.map (some w.heap.size)) (w.alloc (.map #[] 0)):=rfl
  simp only [ho,Option.map_none,Sem.run_bind,hr,Result.andThen_ok,Sem.run_pure]
  exact hK _ _ (h _ _ (H.new_map P kt))
end
end
section
open Go.RowKit Go.Maps
attribute [local go_sem] InGr
theorem Sto.put_most (S:Sto) (x:En):(S.put x).2.most = S.most:=by
 unfold Sto.put
 split
 ·rfl
 ·split <;> rfl
theorem Sto.put_len (S:Sto) (x:En):S.list.length≤(S.put x).2.list.length∧(S.put x).2.list.length≤S.list.length + 1∧(S.put x).1.1≤(S.put x).2.list.length:=by
 unfold Sto.put
 split
 ·rename_i i hi
  obtain ⟨y,hy,_⟩:=look_some hi
  have:=getElem_len hy
  simp only
  omega
 ·split
  ·simp only;omega
  ·simp
structure StoStep (S:Sto) (r:(Nat × Option Nat) × Sto):Prop where
 most:r.2.most = S.most
 le:S.list.length≤r.2.list.length
 one:r.2.list.length≤S.list.length + 1
 id:r.1.1≤r.2.list.length
theorem StoStep.put (S:Sto) (x:En):StoStep S (S.put x):=⟨Sto.put_most S x,(Sto.put_len S x).1,(Sto.put_len S x).2.1,(Sto.put_len S x).2.2⟩
theorem StoStep.same (S:Sto) (i:Nat) (e:Option Nat) (h:i≤S.list.length):StoStep S ((i,e),S):=⟨rfl,Nat.le_refl _,by simp,h⟩
theorem StoStep.pair (S:Sto) (l r:Nat) (hl:l≤S.list.length) (hr:r≤S.list.length):StoStep S (S.pair l r):=by
 unfold Sto.pair
 split
 ·split
  ·exact .same S _ _ hr
  ·split
   ·exact .same S _ _ hl
   ·split
    ·exact .same S _ _ (Nat.zero_le _)
    ·exact .put S _
 ·exact .same S _ _ (Nat.zero_le _)
theorem StoStep.power (S:Sto) (l k:Nat) (hl:l≤S.list.length):StoStep S (S.power l k):=by
 unfold Sto.power
 split
 ·split
  ·exact .same S _ _ (Nat.zero_le _)
  ·split
   ·exact .same S _ _ hl
   ·split
    ·exact .same S _ _ (Nat.zero_le _)
    ·exact .put S _
 ·exact .same S _ _ (Nat.zero_le _)
theorem getD_le {ids:List Nat} {n:Nat} (h:∀ i∈ids,i≤n) (k:Nat):ids.getD k 0≤n:=by
 rw [List.getD_eq_getElem?_getD]
 cases hk:ids[k]? with
 |none=>simp
 |some i=>exact h i (List.mem_of_getElem? hk)
theorem StoStep.make (S:Sto) (ids:List Nat) (m:Mk) (h:∀ i∈ids,i≤S.list.length):StoStep S (S.make ids m):=by
 unfold Sto.make
 split
 ·exact .put S _
 ·split
  ·exact .power S _ _ (getD_le h _)
  ·exact .pair S _ _ (getD_le h _) (getD_le h _)
theorem Sto.make_ok {S:Sto} (h:S.Ok) (ids:List Nat) (m:Mk) (hm:m.Fits):(S.make ids m).2.Ok:=by
 unfold Sto.make
 split
 ·exact Sto.letter_ok h hm.letter
 ·split
  ·exact Sto.power_ok h _ _
  ·exact Sto.pair_ok h _ _
def Sto.makes (S:Sto) (ids:List Nat):List Mk→Sto × List Nat
 |[]=>(S,ids)
 |m :: ms=>Sto.makes (S.make ids m).2 (ids ++ [(S.make ids m).1.1]) ms
theorem Sto.makes_snoc (S:Sto) (ids:List Nat) (ms:List Mk) (m:Mk) :
  S.makes ids (ms ++ [m]) = (((S.makes ids ms).1.make (S.makes ids ms).2 m).2,(S.makes ids ms).2 ++ [((S.makes ids ms).1.make (S.makes ids ms).2 m).1.1]):=by
 induction ms generalizing S ids with
 |nil=>rfl
 |cons a ms ih=>simp only [List.cons_append,Sto.makes,ih]
theorem Sto.makes_take {S:Sto} {ids:List Nat} {ms:List Mk} {m:Mk} {k:Nat} (h:ms[k]? = some m) :
  S.makes ids (ms.take (k + 1)) = (((S.makes ids (ms.take k)).1.make (S.makes ids (ms.take k)).2 m).2,(S.makes ids (ms.take k)).2 ++ [((S.makes ids (ms.take k)).1.make (S.makes ids (ms.take k)).2 m).1.1]):=by
 rw [← Sto.makes_snoc]
 congr 1
 rw [List.take_add_one,h];rfl
structure Scr (most n:Nat) (S:Sto) (ids:List Nat):Prop where
 ok:S.Ok
 most:S.most = most
 len:S.list.length≤n
 cnt:ids.length = n + 1
 mem:∀ i∈ids,i≤S.list.length
theorem Scr.start {most:Nat} (h:most≤1048576):Scr most 0 ⟨most,[]⟩ [0]:=⟨⟨h,by simp,(by intro i j x y hx;simp at hx),by simp⟩,rfl,by simp,by simp,by simp⟩
theorem Scr.step {most n:Nat} {S:Sto} {ids:List Nat} (h:Scr most n S ids) (m:Mk) (hm:m.Fits):Scr most (n + 1) (S.make ids m).2 (ids ++ [(S.make ids m).1.1]):=by
 have s:=StoStep.make S ids m h.mem
 refine ⟨Sto.make_ok h.ok ids m hm,by rw [s.most,h.most],by have:=s.one;have:=h.len;omega,by simp [h.cnt],?_⟩
 intro i hi
 rw [List.mem_append,List.mem_singleton] at hi
 rcases hi with hi | rfl
 ·exact Nat.le_trans (h.mem i hi) s.le
 ·exact s.id
theorem Scr.makes {most:Nat} (hmost:most≤1048576) {ms:List Mk} (hf:∀ m∈ms,m.Fits) (k:Nat) (hk:k≤ms.length) :
  Scr most k ((Sto.mk most []).makes [0] (ms.take k)).1 ((Sto.mk most []).makes [0] (ms.take k)).2:=by
 induction k with
 |zero=>exact Scr.start hmost
 |succ k ih =>
  have hk':ms[k]? = some ms[k]:=by simp
  rw [Sto.makes_take hk']
  exact (ih (by omega)).step _ (hf _ (List.getElem_mem _))
def BuildPost (ids:List Nat) (l:List En) (w:World) (e:Ending) (w':World):Prop :=
 ∃ vr vl rv,e = .returned (.tuple #[.agg #[vr,vl],rv])∧St w [] [refA vr vl l,rowsA encI 32 1 rv ids] w'
theorem encI_one (x:Nat):∀ u∈encI x,u.oneCell' = true:=by
 intro u hu
 rw [encI,List.mem_singleton] at hu
 subst hu
 rfl
theorem refA_nil (w:World):(refA (.slice none 0 0) (.slice none 0 0) []).ho w∧(refA (.slice none 0 0) (.slice none 0 0) []).fp = []:=by
 unfold refA
 refine ⟨?_,?_⟩
 ·rw [sep_ho]
  exact ⟨rowsA_nil w,rowsA_nil w,by rw [rowsA_fp'];simp [Value.ownBlock]⟩
 ·rw [sep_fp,rowsA_fp',rowsA_fp'];rfl
theorem St.empty {w0 w:World} {M:List Nat} {L:List As} {A:As} (H:St w0 M L w) (h:A.ho w) (he:A.fp = []):St w0 M (A :: L) w :=
 ⟨H.os,H.tape,H.output,H.size,H.keep,fun B hB=>by
  rw [List.mem_cons] at hB
  rcases hB with rfl | hB
  ·exact h
  ·exact H.ho B hB,fun B hB b hb=>by
  rw [List.mem_cons] at hB
  rcases hB with rfl | hB
  ·rw [he] at hb;simp at hb
  ·exact H.own B hB b hb,List.pairwise_cons.2 ⟨fun B _ b hb=>by rw [he] at hb;simp at hb,H.dis⟩⟩
section
variable {ops:Array Oper} {a:Act} {w w0:World} {M:List Nat} {L:List As} {o:Oper} {Rr:Value→World→Prop}
theorem StStep.allocT {ty:TypeId} (H:St w0 M L w) (hw:Region.wanted o (yielded ops a.tmps) = true) (ho:o.op = .alloc ty) {z:Value} (hz:zO ty = some z) {cs:Array Value} (hc:cellsO z = some cs)
  (h:∀ b w',St w0 M (blk b (.cells cs ty) :: L) w'→Rr (.pointer (some ⟨b,0,none⟩)) w'):StStep Tryz.prog ops o a w Rr :=
 StStep.val hw (by unfold execOp;simp only [ho,Instr.alloc,Sem.run_bind,zO_ok hz,Result.andThen_ok,newVar,newRow,cellsO_eq hc,run_newObj_alloc,Sem.run_pure]) (h _ _ (H.alloc (.cells cs ty)))
theorem StStep.rngT {ty:TypeId} {x:Operand} (hw:Region.wanted o (yielded ops a.tmps) = true) (ho:o.op = .load ty x) {g off:Nat} (hx:a.eval x = .pointer (some ⟨g,off,none⟩)) {vs:List Value} (hc:w.rangeAt g off vs)
  (hr:isRowT ty vs.length = true) (h:Rr (.agg vs.toArray) w):StStep Tryz.prog ops o a w Rr :=
 StStep.val hw (by
  have hr:=isRowT_ok hr
  unfold rowTy at hr
  simp only [Bool.and_eq_true,beq_iff_eq] at hr
  unfold execOp
  cases hu:Program.underlying Tryz.prog ty with
  |none=>simp [hu] at hr
  |some d =>
   simp only [ho,hx,Sem.run_bind,run_loadAt_mid w g off ty vs d hc hu (by simp only [hu] at hr;cases d <;> simp_all [TypeDesc.isRow]) hr.2,Result.andThen_ok]
   rfl) h
end
def blockOf:Value→Nat
 |.pointer (some ad)=>ad.block
 |_=>0
theorem mkL_len (m:Mk):(mkL m).length = 5:=rfl
def scr (most:Nat) (ms:List Mk) (k:Nat):Sto × List Nat:=(Sto.mk most []).makes [0] (ms.take k)
theorem scr_step {most:Nat} {ms:List Mk} {k:Nat} {m:Mk} (h:ms[k]? = some m):scr most ms (k + 1) = (((scr most ms k).1.make (scr most ms k).2 m).2,(scr most ms k).2 ++ [((scr most ms k).1.make (scr most ms k).2 m).1.1]):=Sto.makes_take h
theorem scr_ok {most:Nat} (hmost:most≤1048576) {ms:List Mk} (hf:∀ m∈ms,m.Fits) (k:Nat) (hk:k≤ms.length):Scr most k (scr most ms k).1 (scr most ms k).2:=Scr.makes hmost hf k hk
attribute [local go_sem] StStep stAt stUpon in
theorem rbuild_c {lv:Value} {ms:List Mk} {P:PoolT} (most:Nat) (hmost:most≤1048576) (hlen:ms.length < most) (hf:∀ m∈ms,m.Fits) (w:World) (h:(poolA P).ho w) (hrow:RowIn P mkL 5 lv ms) :
  Calls Tryz.prog 24 #[lv] w (BuildPost (scr most ms ms.length).2 (scr most ms ms.length).1.list w):=by
 have HK:=Ks.one h
 have H:=St.nil w []
 obtain ⟨ad,c,rfl,hm⟩:=hrow.shape
 unfold maxLen at hm
 have HS:Hid (∀ k,k≤ms.length→Scr most k (scr most ms k).1 (scr most ms k).2):=Lib.hid fun k hk=>scr_ok hmost hf k hk
 have HF:=Lib.hid hf
 have HC:Hid (∀ (k:Nat) x,ms[k]? = some x→∃ g o,ad = some ⟨g,o,none⟩):=Lib.hid fun k x hx=>by
  obtain ⟨g,o,c',he,_⟩:=hrow.has (by have:=getElem_len hx;omega)
  injection he with e1 e2 e3
  exact ⟨g,o,e1⟩
 have HR:=Lib.hid hrow
 clear h hf hrow
 go_enter Tryz.func24,Tryz.ntmps24
 go_wp2_with (first | refine sL ?_ | (refine sS ?_;clear H;intros;rename_i H) | ((with_reducible refine isSlice ?_);refine AtSlice.one H rfl rfl rfl rfl rfl rfl rfl rfl rfl ?_;clear H;intro b _ H;simp only [Act.put,puA,puB,puC]))
 rename_i b2 _ b4 _ _ wz K0 hK0
 replace H:=H.conv (A':=rowsA encI 32 1 (.slice (some ⟨b,0,none⟩) 1 1) [0]) (by rw [rowsA_fp',blk_fp];rfl) fun hb=>rowsA_of_blk (xs:=[0]) (by rw [blk_ho] at hb;exact hb) (by simp [maxLen]) (by simp [flatG,encI]) encI_len
 replace H:=H.empty (refA_nil wz).1 (refA_nil wz).2
 go_loopw [5,6] (fun v5 v6 wr=>∃ k:Nat,∃ vr vl:Value,v6 = .int .i64 k∧k≤ms.length∧St w [] [refA vr vl (scr most ms k).1.list,rowsA encI 32 1 v5 (scr most ms k).2,blk b4 (.cells #[vr,vl] 72),blk b2 (.cells #[.slice none 0 0,.slice none 0 0] 72)] wr) (fun _ v6 _=>ms.length - (intOf v6).toNat)
 case atStart=>exact ⟨0,_,_,rfl,Nat.zero_le _,H⟩
 case round =>
  clear H
  obtain ⟨k,vr,vl,rfl,hk,H⟩:=hrel
  obtain ⟨ad1,c1,ad2,c2,rfl,rfl⟩:=refA_shape (H.get Pick.here)
  by_cases hlt:k < ms.length
  ·obtain ⟨x,hx⟩:∃ x,ms[k]? = some x:=⟨ms[k],by simp⟩
   obtain ⟨g,og,rfl⟩:=HC.out k x hx
   have HX0:=Lib.hid hx
   have HO:Hid (∀ w,((refA (.slice ad1 (scr most ms k).1.list.length c1) (.slice ad2 (scr most ms k).1.list.length c2) (scr most ms k).1.list).sep (rowsA encI 32 1 u5 (scr most ms k).2)).ho w→Calls Tryz.prog 55 #[.agg #[.slice ad1 (scr most ms k).1.list.length c1,.slice ad2 (scr most ms k).1.list.length c2],.agg #[.int .i64 x.kind,.int .u8 x.letter,.int .i64 x.left,.int .i64 x.right,.int .i64 x.times],u5] w (OnePost ((refA (.slice ad1 (scr most ms k).1.list.length c1) (.slice ad2 (scr most ms k).1.list.length c2) (scr most ms k).1.list).sep (rowsA encI 32 1 u5 (scr most ms k).2)).fp u5 (scr most ms k).2 ((scr most ms k).1.make (scr most ms k).2 x).1.1 ((scr most ms k).1.make (scr most ms k).2 x).2.list w)):=Lib.hid fun w h=>by
    have hs:=HS.out k hk
    exact one_c (HF.out x (List.mem_of_getElem? hx)) hs.ok (by rw [hs.cnt];omega) (by rw [hs.cnt];omega) hs.mem (by have:=hs.len;rw [hs.most];omega) w h
   clear hx HC
   go_wp2_with (first | refine sL ?_ | (refine sS ?_;clear H;intros;rename_i H))
   refine wp_region_rgx H [blk b4 (.cells #[.slice ad1 (scr most ms k).1.list.length c1,.slice ad2 (scr most ms k).1.list.length c2] 72),blk b2 (.cells #[.slice none 0 0,.slice none 0 0] 72)] 12 [⟨[],[],[],fun v _=>v = .agg #[.slice ad1 (scr most ms k).1.list.length c1,.slice ad2 (scr most ms k).1.list.length c2],fun _ _=>[]⟩,⟨[],[],[],fun v _=>v = .slice (some ⟨g,og,none⟩) ms.length c,fun _ _=>[]⟩,⟨[],[],[],fun v _=>v = .int .i64 k,fun _ _=>[]⟩,⟨[],[],[1,2],fun v _=>v = .pointer (some ⟨g,og + k * 5,none⟩),fun _ _=>[]⟩,⟨[],[],[3],fun v _=>v = .agg #[.int .i64 x.kind,.int .u8 x.letter,.int .i64 x.left,.int .i64 x.right,.int .i64 x.times],fun _ _=>[]⟩,⟨[],[],[],fun v _=>v = u5,fun _ _=>[]⟩,⟨[12,13],[],[0,4,5],fun v _=>v = .tuple #[.agg #[tup1 v,tup2 v],.int .i64 (((scr most ms k).1.make (scr most ms k).2 x).1.1:Nat)],fun v _=>[refA (tup1 v) (tup2 v) ((scr most ms k).1.make (scr most ms k).2 x).2.list,rowsA encI 32 1 u5 (scr most ms k).2]⟩,⟨[],[],[6],fun v ds=>ds = [v],fun _ _=>[]⟩,⟨[],[],[6,7],fun v ds=>∃ d e,ds = [d,e]∧v = .agg #[tup1 d,tup2 d],fun _ _=>[]⟩,⟨[],[],[6,7],fun v _=>v = .int .i64 (((scr most ms k).1.make (scr most ms k).2 x).1.1:Nat),fun _ _=>[]⟩,⟨[],[],[],fun v _=>v = .pointer (some ⟨blockOf v,0,none⟩),fun v _=>[blk (blockOf v) (.cells #[.slice none 0 0,.slice none 0 0] 72)]⟩,⟨[10],[6],[6,7,8,10],fun _ _=>True,fun _ ds=>match ds with | [d,_,_,b]=>[blk (blockOf b) (.cells #[tup1 d,tup2 d] 72)] | _=>[]⟩,⟨[],[],[],fun _ _=>True,fun _ _=>[refA (.slice ad1 (scr most ms k).1.list.length c1) (.slice ad2 (scr most ms k).1.list.length c2) (scr most ms k).1.list]⟩,⟨[],[],[],fun _ _=>True,fun _ _=>[rowsA encI 32 1 u5 (scr most ms k).2]⟩] (by kernel_rfl)
    [[],[],[],[(1,19),(2,20)],[(3,21)],[],[(0,18),(4,22),(5,23)],[(6,24)],[(7,17)],[(7,17)],[],[(8,25),(10,7)]] [(0,18),(1,19),(2,20),(3,21),(4,22),(5,23),(6,24),(7,17),(8,25),(9,26),(10,7)] [0,1,2,3,4,5,6,7,8,9,11] (by kernel_rfl) (by kernel_rfl) (by kernel_rfl) ⟨?o0,?o1,?o2,?o3,?o4,?o5,?o6,?o7,?o8,?o9,?o10,?o11,trivial⟩ ?fin
   case o0 =>
    intro vals wx X hd H
    clear hd
    replace H:=sP H
    simp only [putS,List.foldl_nil]
    first | refine StStep.cellT rfl rfl rfl gt rfl rfl ⟨rfl,H⟩ | refine StStep.wholeT rfl rfl rfl gt rfl ⟨rfl,H⟩
   case o1 =>
    intro vals wx X hd H
    clear hd
    replace H:=sP H
    simp only [putS,List.foldl_nil]
    go_simp
    first | exact H | exact ⟨rfl,H⟩
   case o2 =>
    intro vals wx X hd H
    clear hd
    replace H:=sP H
    simp only [putS,List.foldl_nil]
    go_simp
    first | exact H | exact ⟨rfl,H⟩
   case o3 =>
    intro vals wx X hd H
    have h1:vals 1 = .slice (some ⟨g,og,none⟩) ms.length c:=hd.1
    have h2:vals 2 = .int .i64 k:=hd.2.1
    clear hd
    replace H:=sP H
    simp only [putS,List.foldl_nil,List.foldl_cons,Act.put,List.setIfInBounds_toArray,List.set_cons_zero,List.set_cons_succ,h1,h2]
    clear h1 h2
    go_simp
    first | exact H | exact ⟨rfl,H⟩
   case o4 =>
    intro vals wx X hd H
    have h3:vals 3 = .pointer (some ⟨g,og + k * 5,none⟩):=hd.1
    clear hd
    replace H:=sP H
    simp only [putS,List.foldl_nil,List.foldl_cons,Act.put,List.setIfInBounds_toArray,List.set_cons_zero,List.set_cons_succ,h3]
    exact StStep.rngT (vs:=mkL x) rfl rfl rfl (HR.out.rng (H.known HK pk) mkL_len HX0.out) rfl ⟨rfl,H⟩
   case o5 =>
    intro vals wx X hd H
    clear hd
    replace H:=sP H
    simp only [putS,List.foldl_nil]
    go_simp
    first | exact H | exact ⟨rfl,H⟩
   case o6 =>
    intro vals wx X hd H
    have h0:vals 0 = .agg #[.slice ad1 (scr most ms k).1.list.length c1,.slice ad2 (scr most ms k).1.list.length c2]:=hd.1
    have h4:vals 4 = .agg #[.int .i64 x.kind,.int .u8 x.letter,.int .i64 x.left,.int .i64 x.right,.int .i64 x.times]:=hd.2.1
    have h5:vals 5 = u5:=hd.2.2.1
    clear hd
    replace H:=sP H
    simp only [putS,List.foldl_nil,List.foldl_cons,Act.put,List.setIfInBounds_toArray,List.set_cons_zero,List.set_cons_succ,h0,h4,h5]
    clear h0 h4 h5
    go_simp
    replace H:=H.join
    with_reducible refine Calls.mono (HO.out _ (H.get Pick.here)) ?_
    rintro e wc ⟨vr',vl',rfl,hb⟩
    exact ⟨_,rfl,rfl,H.call hb⟩
   case o7 =>
    intro vals wx X hd H
    have h6:=hd.1
    clear hd
    replace H:=sP H
    simp only [putS,List.foldl_nil,List.foldl_cons,Act.put,List.setIfInBounds_toArray,List.set_cons_zero,List.set_cons_succ]
    clear h6
    go_simp
    first | exact H | exact ⟨rfl,H⟩
   case o8 =>
    intro vals wx X hd H
    have h6:=hd.1
    have h7:=hd.2.1
    clear hd
    replace H:=sP H
    simp only [putS,List.foldl_nil,List.foldl_cons,Act.put,List.setIfInBounds_toArray,List.set_cons_zero,List.set_cons_succ]
    have e6:vals 6 = .tuple #[.agg #[tup1 (vals 6),tup2 (vals 6)],.int .i64 (((scr most ms k).1.make (scr most ms k).2 x).1.1:Nat)]:=h6
    have e7:[vals 6] = [vals 7]:=h7
    clear h6 h7
    simp only [List.cons.injEq,and_true] at e7
    simp only [← e7]
    generalize tup1 (vals 6) = p at e6 H ⊢
    generalize tup2 (vals 6) = q at e6 H ⊢
    simp only [e6]
    go_simp
    rw [← e7,e6]
    exact ⟨⟨rfl,rfl⟩,H⟩
   case o9 =>
    intro vals wx X hd H
    have h6:=hd.1
    have h7:=hd.2.1
    clear hd
    replace H:=sP H
    simp only [putS,List.foldl_nil,List.foldl_cons,Act.put,List.setIfInBounds_toArray,List.set_cons_zero,List.set_cons_succ]
    have e6:vals 6 = .tuple #[.agg #[tup1 (vals 6),tup2 (vals 6)],.int .i64 (((scr most ms k).1.make (scr most ms k).2 x).1.1:Nat)]:=h6
    have e7:[vals 6] = [vals 7]:=h7
    clear h6 h7
    simp only [List.cons.injEq,and_true] at e7
    simp only [← e7]
    generalize tup1 (vals 6) = p at e6 H ⊢
    generalize tup2 (vals 6) = q at e6 H ⊢
    simp only [e6]
    go_simp
    first | exact H | exact ⟨rfl,H⟩
   case o10 =>
    intro vals wx X hd H
    clear hd
    replace H:=sP H
    simp only [putS,List.foldl_nil]
    exact StStep.allocT H rfl rfl rfl rfl fun b w' H=>⟨rfl,H⟩
   case o11 =>
    intro vals wx X hd H
    have h6:=hd.1
    have h7:=hd.2.1
    have h8:=hd.2.2.1
    have h10:=hd.2.2.2.1
    clear hd
    replace H:=sP H
    simp only [putS,List.foldl_nil,List.foldl_cons,Act.put,List.setIfInBounds_toArray,List.set_cons_zero,List.set_cons_succ]
    obtain ⟨d,e,e1,e2⟩:∃ d e,[vals 6,vals 7] = [d,e]∧vals 8 = .agg #[tup1 d,tup2 d]:=h8
    have e10:vals 10 = .pointer (some ⟨blockOf (vals 10),0,none⟩):=h10
    clear h6 h7 h10
    simp only [List.cons.injEq,and_true] at e1
    obtain ⟨rfl,rfl⟩:=e1
    obtain ⟨pa,pc,qa,qc,hp,hq⟩:=refA_shape (H.get (A:=refA (tup1 (vals 6)) (tup2 (vals 6)) ((scr most ms k).1.make (scr most ms k).2 x).2.list) pk)
    exact StStep.storeT (cs':=#[tup1 (vals 6),tup2 (vals 6)]) rfl rfl e10 (congrArg some e2) rfl (by rw [hp,hq];rfl) H rfl fun w' H=>⟨trivial,H⟩
   case fin =>
    intro vals wx hd H
    have h0:vals 0 = .agg #[.slice ad1 (scr most ms k).1.list.length c1,.slice ad2 (scr most ms k).1.list.length c2]:=hd.1
    have h1:vals 1 = .slice (some ⟨g,og,none⟩) ms.length c:=hd.2.1
    have h2:vals 2 = .int .i64 k:=hd.2.2.1
    have h3:vals 3 = .pointer (some ⟨g,og + k * 5,none⟩):=hd.2.2.2.1
    have h4:vals 4 = .agg #[.int .i64 x.kind,.int .u8 x.letter,.int .i64 x.left,.int .i64 x.right,.int .i64 x.times]:=hd.2.2.2.2.1
    have h5:vals 5 = u5:=hd.2.2.2.2.2.1
    have h6:=hd.2.2.2.2.2.2.1
    have h7:=hd.2.2.2.2.2.2.2.1
    have h8:=hd.2.2.2.2.2.2.2.2.1
    have h9:=hd.2.2.2.2.2.2.2.2.2.1
    have h10:=hd.2.2.2.2.2.2.2.2.2.2.1
    clear hd
    replace H:=sP H
    simp only [putS,List.foldl_nil,List.foldl_cons,Act.put,List.setIfInBounds_toArray,List.set_cons_zero,List.set_cons_succ,List.drop_succ_cons,List.drop_zero,h0,h1,h2,h3,h4,h5]
    clear h0 h1 h2 h3 h4 h5
    obtain ⟨d,e,e1,e2⟩:∃ d e,[vals 6,vals 7] = [d,e]∧vals 8 = .agg #[tup1 d,tup2 d]:=h8
    have e9:vals 9 = .int .i64 (((scr most ms k).1.make (scr most ms k).2 x).1.1:Nat):=h9
    have e10:vals 10 = .pointer (some ⟨blockOf (vals 10),0,none⟩):=h10
    clear h6 h7 h9 h10
    simp only [List.cons.injEq,and_true] at e1
    obtain ⟨rfl,rfl⟩:=e1
    have hs:=HS.out k hk
    have hcnt:(scr most ms k).2.length = k + 1:=hs.cnt
    clear hs
    try simp only [List.map_cons,List.map_nil,List.cons_append,List.nil_append] at H
    generalize tup1 (vals 6) = p at e2 H
    generalize tup2 (vals 6) = q at e2 H
    generalize blockOf (vals 10) = b7 at e10 H
    obtain ⟨ad3,c3,ad4,c4,rfl,rfl⟩:=refA_shape (H.get (A:=refA p q ((scr most ms k).1.make (scr most ms k).2 x).2.list) pk)
    simp only [e2,e9,e10]
    clear e2 e9 e10
    go_wp2_with (first | refine sL ?_ | (refine sS ?_;clear H;intros;rename_i H) | ((with_reducible refine isSlice ?_);refine AtSlice.one H rfl rfl rfl rfl rfl rfl rfl rfl rfl ?_;clear H;intro b _ H;simp only [Act.put,puA,puB,puC]) | ((with_reducible refine isAppend ?_);refine AtAppend.go (enc:=encI) H rfl rfl rfl rfl rfl (by decide) (by decide) rfl pk rfl (H.at pk) [((scr most ms k).1.make (scr most ms k).2 x).1.1] rfl (by simp [flatG,encI]) encI_len encI_one (by simp;omega) ?_;clear H;intro ad cp _ H;simp only [Act.put,puA,puB,puC]))
    replace H:=H.drop (.there .here)
    replace H:=H.drop (.there (.there .here))
    replace H:=H.pick (.there .here)
    go_roundw
    case rel =>
     have e1:(scr most ms k).2 ++ [((scr most ms k).1.make (scr most ms k).2 x).1.1] = (scr most ms (k + 1)).2:=by rw [scr_step HX0.out]
     have e2:((scr most ms k).1.make (scr most ms k).2 x).2 = (scr most ms (k + 1)).1:=by rw [scr_step HX0.out]
     rw [e1,e2] at H
     exact ⟨k + 1,_,_,by go_num,by omega,H⟩
    case measure=>simp [intOf];omega
  ·obtain rfl:k = ms.length:=by omega
   go_wp2_with (first | refine sL ?_ | (refine sS ?_;clear H;intros;rename_i H))
   exact bodyPost_ret (res_row_tmp rfl H rfl pk rfl rfl) rfl ⟨_,_,_,rfl,(H.pick2 (A:=refA _ _ (scr most ms ms.length).1.list) (B:=rowsA encI 32 1 u5 (scr most ms ms.length).2) pk pk).onlyTwo⟩
end
section
open Go.RowKit Go.Maps
attribute [local go_sem] InGr
def errV:Option Nat→Value
 |none=>.nilIface
 |some c=>EV c
def StoPost (p m:Nat) (M:List Nat) (r:(Nat × Option Nat) × Sto) (w:World) (e:Ending) (w':World):Prop :=
 ∃ lv,e = .returned (.tuple #[.int .i64 r.1.1,errV r.1.2])∧St w M [stoA p lv m r.2] w'
theorem StoPost.mk {p m:Nat} {M:List Nat} {r:(Nat × Option Nat) × Sto} {w:World} {e:Ending} {w':World} (lv:Value) (he:e = .returned (.tuple #[.int .i64 r.1.1,errV r.1.2])) (h:St w M [stoA p lv m r.2] w'):StoPost p m M r w e w':=⟨lv,he,h⟩
theorem find_hit_r {p m:Nat} {lv:Value} {S:Sto} {i:Nat} (r:Rl) (h:S.Ok) (hl:S.look r = some i) (w:World) (hs:(stoA p lv m S).ho w) :
  Calls Tryz.prog 74 #[.pointer (some ⟨p,0,none⟩),ruleV r] w fun e w'=>e = .returned (.tuple #[.int .i64 ((i:Int) + 1),.nilIface])∧St w [] [] w':=by
 obtain ⟨x,hx,rfl⟩:=look_some hl
 exact find_hit hx h.apart (h.good i x hx).fits w hs
theorem find_full_r {p m:Nat} {lv:Value} {S:Sto} (r:Rl) (hf:r.Fits) (h:S.Ok) (hl:S.look r = none) (hm:S.most≤S.list.length) (w:World) (hs:(stoA p lv m S).ho w) :
  Calls Tryz.prog 74 #[.pointer (some ⟨p,0,none⟩),ruleV r] w fun e w'=>e = .returned (.tuple #[.int .i64 0,.iface 42 (.int .i64 3)])∧St w [] [] w':=by
 have:=find_miss r (look_none hl) hf w hs (by have:=h.most;omega)
 rwa [if_pos hm] at this
theorem find_new_r {p m:Nat} {lv:Value} {S:Sto} (r:Rl) (hf:r.Fits) (h:S.Ok) (hl:S.look r = none) (hm:¬ S.most≤S.list.length) (w:World) (hs:(stoA p lv m S).ho w) :
  Calls Tryz.prog 74 #[.pointer (some ⟨p,0,none⟩),ruleV r] w fun e w'=>e = .returned (.tuple #[.int .i64 0,.nilIface])∧St w [] [] w':=by
 have:=find_miss r (look_none hl) hf w hs (by have:=h.most;omega)
 rwa [if_neg hm] at this
theorem wletter_l (b:Nat) (hb:b < 256) (w:World) :
  Calls Tryz.prog 76 #[.int .u8 b] w fun e w'=>e = .returned (.agg #[.int .i64 (Wt.letter b).len,.int .i64 (Wt.letter b).lines,.int .i64 (Wt.letter b).head,.int .i64 (Wt.letter b).tail,.int .u64 (Wt.letter b).val,.int .u64 (Wt.letter b).scale])∧St w [] [] w':=wletter_c b hb w
theorem letter_c {p m:Nat} {lv:Value} {S:Sto} (h:S.Ok) (b:Nat) (hb:b < 256) (w:World) (hs:(stoA p lv m S).ho w) :
  Calls Tryz.prog 50 #[.pointer (some ⟨p,0,none⟩),.int .u8 b] w (StoPost p m (stoA p lv m S).fp (S.letter b) w):=by
 have H:=St.one hs
 generalize (stoA p lv m S).fp = M at H ⊢
 have HF:Hid (Rl.Fits ⟨1,b,0,0,0⟩):=Lib.hid ⟨by simp,hb,by simp,by simp,by simp⟩
 have HB:=Lib.hid hb
 clear hs hb
 have hlen:=h.len
 have hmost:=h.most
 have HO:=Lib.hid h
 cases hl:S.look ⟨1,b,0,0,0⟩ with
 |some i =>
  have HR:Hid (S.letter b = ((i + 1,none),S)):=Lib.hid (by simp [Sto.letter,Sto.put,letterE,hl])
  have HL:=Lib.hid hl
  clear hl h
  go_enter Tryz.func50,Tryz.ntmps50
  go_wp2_with (first | refine sL ?_ | (refine sS ?_;clear H;intros;rename_i H) | (go_at_call 74;refine (find_hit_r ⟨1,b,0,0,0⟩ HO.out HL.out _ (H.get pk)).mono ?_;rintro e wc ⟨rfl,hb⟩;replace H:=H.grew hb.below;clear hb))
  go_ret2
  exact StoPost.mk lv (by rw [HR.out];rfl) (by rw [HR.out];exact H.only pk)
 |none =>
  have HL:=Lib.hid hl
  by_cases hm:S.most≤S.list.length
  ·have HR:Hid (S.letter b = ((0,some 3),S)):=Lib.hid (by simp [Sto.letter,Sto.put,letterE,hl,hm])
   have HM:=Lib.hid hm
   clear hl h hm
   go_enter Tryz.func50,Tryz.ntmps50
   go_wp2_with (first | refine sL ?_ | (refine sS ?_;clear H;intros;rename_i H) | (go_at_call 74;refine (find_full_r ⟨1,b,0,0,0⟩ HF.out HO.out HL.out HM.out _ (H.get pk)).mono ?_;rintro e wc ⟨rfl,hb⟩;replace H:=H.grew hb.below;clear hb))
   go_ret2
   exact StoPost.mk lv (by rw [HR.out];rfl) (by rw [HR.out];exact H.only pk)
  ·have HR:Hid (S.letter b = ((S.list.length + 1,none),⟨S.most,S.list ++ [letterE b]⟩)):=Lib.hid (by simp [Sto.letter,Sto.put,letterE,hl,hm])
   have HM:=Lib.hid hm
   have hlt:S.list.length < 1048576:=by omega
   clear hl h hm
   go_enter Tryz.func50,Tryz.ntmps50
   go_wp2_with (first | refine sL ?_ | (refine sS ?_;clear H;intros;rename_i H) | (go_at_call 74;refine (find_new_r ⟨1,b,0,0,0⟩ HF.out HO.out HL.out HM.out _ (H.get pk)).mono ?_;rintro e wc ⟨rfl,hb⟩;replace H:=H.grew hb.below;clear hb))
   refine wp_region_h H 5 [] [] (by kernel_rfl) (by kernel_rfl) ?_
   apply Exists.intro
   refine ⟨fun w1 hw1 HX=>?_,fun bs wr Hr=>?_⟩
   ·refine sG ?_
    repeat (first | refine sQ ?_ | go_big_quiet_step ((go_at_call 76;exact quiet_st (wletter_l b HB.out _))) | go_big_quiet_step (fail))
    exact wpQuiet_nil rfl
   clear H
   have H:=Hr
   clear Hr
   replace H:=sH H;refine sT ?_
   go_wp2_with (first | refine sL ?_ | (refine sS ?_;clear H;intros;rename_i H))
   refine (add_st (letterE b) (look_none HL.out) HF.out hlt _ (H.get pk)).mono ?_
   rintro e wc ⟨lv2,rfl,hb⟩
   replace H:=(H.pick (A:=stoA p lv m S) pk).call hb
   clear hb
   go_wp2_with (first | refine sL ?_ | (refine sS ?_;clear H;intros;rename_i H))
   go_ret2
   exact StoPost.mk lv2 (by rw [HR.out];rfl) (by rw [HR.out];exact H.onlyHead)
theorem add_ok_e (a b:Nat) (w:World) (h:a + b≤maxT) :
  Calls Tryz.prog 79 #[.int .i64 a,.int .i64 b] w fun e w'=>e = .returned (.tuple #[.int .i64 (a + b:Nat),.nilIface])∧w' = w:=add_ok a b w h
theorem add_long_e (a b:Nat) (w:World) (ha:a≤maxT) (hb:b≤maxT) (h:maxT < a + b) :
  Calls Tryz.prog 79 #[.int .i64 a,.int .i64 b] w fun e w'=>e = .returned (.tuple #[.int .i64 0,.iface 42 (.int .i64 2)])∧w' = w:=add_long a b w ha hb h
theorem mul_ok_e (a k:Nat) (w:World) (ha:0 < a) (ha':a≤maxT) (h:a * k≤maxT) :
  Calls Tryz.prog 77 #[.int .i64 a,.int .i64 k] w fun e w'=>e = .returned (.tuple #[.int .i64 (a * k:Nat),.nilIface])∧w' = w:=mul_ok a k _ rfl w ha ha' h
theorem mul_long_e (a k:Nat) (w:World) (ha:0 < a) (ha':a≤maxT) (h:maxT < a * k) :
  Calls Tryz.prog 77 #[.int .i64 a,.int .i64 k] w fun e w'=>e = .returned (.tuple #[.int .i64 0,.iface 42 (.int .i64 2)])∧w' = w:=mul_long a k _ rfl w ha ha' h
theorem wjoin_l (a b:Wt) (ha:a.Ok) (hb:b.Ok) (hl:a.len + b.len≤maxT) (w:World) :
  Calls Tryz.prog 80 #[.agg #[.int .i64 a.len,.int .i64 a.lines,.int .i64 a.head,.int .i64 a.tail,.int .u64 a.val,.int .u64 a.scale],.agg #[.int .i64 b.len,.int .i64 b.lines,.int .i64 b.head,.int .i64 b.tail,.int .u64 b.val,.int .u64 b.scale]] w
   fun e w'=>e = .returned (.tuple #[.agg #[.int .i64 (a.join b).len,.int .i64 (a.join b).lines,.int .i64 (a.join b).head,.int .i64 (a.join b).tail,.int .u64 (a.join b).val,.int .u64 (a.join b).scale],.nilIface])∧St w [] [] w':=wjoin_c a b ha hb hl w
theorem wrepeat_l (x:Wt) (hx:x.Ok) (hp:0 < x.len) (k:Nat) (hk:0 < k) (hl:x.len * k≤maxT) (w:World) :
  Calls Tryz.prog 78 #[.agg #[.int .i64 x.len,.int .i64 x.lines,.int .i64 x.head,.int .i64 x.tail,.int .u64 x.val,.int .u64 x.scale],.int .i64 k] w
   fun e w'=>e = .returned (.tuple #[.agg #[.int .i64 (x.rep k).len,.int .i64 (x.rep k).lines,.int .i64 (x.rep k).head,.int .i64 (x.rep k).tail,.int .u64 (x.rep k).val,.int .u64 (x.rep k).scale],.nilIface])∧St w [] [] w':=wrepeat_c x hx hp k hk hl _ rfl w
theorem at_in {p m:Nat} {lv:Value} {S:Sto} {i:Nat} {x:En} (hx:S.list[i]? = some x) (w:World) (hs:(stoA p lv m S).ho w) :
  Calls Tryz.prog 54 #[.pointer (some ⟨p,0,none⟩),.int .i64 ((i:Int) + 1)] w fun e w'=>e = .returned (.agg #[.int .i64 x.r.kind,.int .u8 x.r.letter,.int .i64 x.r.left,.int .i64 x.r.right,.int .i64 x.r.times,.int .i64 x.w.len,.int .i64 x.w.lines,.int .i64 x.w.head,.int .i64 x.w.tail,.int .u64 x.w.val,.int .u64 x.w.scale,.int .i64 x.depth,.bool x.even])∧St w [] [] w':=at_c hx _ rfl w hs
theorem calls_arg {P:Program} {f:FuncId} {xs ys:Array Value} {w:World} {Q:Ending→World→Prop} (e:xs = ys) (h:Calls P f ys w Q):Calls P f xs w Q:=e ▸ h
theorem pair_in {p m:Nat} {lv:Value} {S:Sto} (h:S.Ok) (l r:Nat) (x y:En) (hx:S.list[l]? = some x) (hy:S.list[r]? = some y) (hs2:x.w.len + y.w.len≤maxT) (w:World) (hs:(stoA p lv m S).ho w) :
  Calls Tryz.prog 52 #[.pointer (some ⟨p,0,none⟩),.int .i64 ((l:Int) + 1),.int .i64 ((r:Int) + 1)] w (StoPost p m (stoA p lv m S).fp (S.put (pairE x y (l + 1) (r + 1))) w):=by
 have H:=St.one hs
 generalize (stoA p lv m S).fp = M at H ⊢
 have hlen:=h.len
 have hmost:=h.most
 have hli:=getElem_len hx
 have hri:=getElem_len hy
 have gx:=h.good l x hx
 have gy:=h.good r y hy
 have hdx:=gx.depth
 have hdy:=gy.depth
 have HG:=Lib.hid (And.intro gx (And.intro gy hs2))
 have HX0:=Lib.hid (And.intro hx hy)
 have HO:=Lib.hid h
 obtain ⟨rl,hrl⟩:∃ rl,rl = (⟨2,0,l + 1,r + 1,0⟩:Rl):=⟨_,rfl⟩
 have HF:Hid (Rl.Fits ⟨2,0,l + 1,r + 1,0⟩):=Lib.hid ⟨by simp,by simp,by simp;omega,by simp;omega,by simp⟩
 clear hs hx hy gx gy hs2 hrl rl
 cases hl:S.look ⟨2,0,l + 1,r + 1,0⟩ with
 |some i =>
  have HR:Hid (S.put (pairE x y (l + 1) (r + 1)) = ((i + 1,none),S)):=Lib.hid (by simp [Sto.put,pairE,hl])
  have HL:=Lib.hid hl
  clear hl h
  go_enter Tryz.func52,Tryz.ntmps52
  go_wp2_with (first | refine sL ?_ | (refine sS ?_;clear H;intros;rename_i H) | (go_at_call 53;refine same (known_yes _ _ (H.get pk) (by omega) (by omega)) ?_))
  refine (at_in HX0.out.1 _ (H.get pk)).mono ?_
  rintro e wc ⟨rfl,hb⟩
  replace H:=H.grew hb.below
  clear hb
  go_wp2_with (first | refine sL ?_ | (refine sS ?_;clear H;intros;rename_i H))
  refine (at_in HX0.out.2 _ (H.get pk)).mono ?_
  rintro e wc ⟨rfl,hb⟩
  replace H:=H.grew hb.below
  clear hb
  go_wp2_with (first | refine sL ?_ | (refine sS ?_;clear H;intros;rename_i H) | (go_at_call 79;refine same (add_ok_e x.w.len y.w.len _ HG.out.2.2) ?_) | (go_at_call 74;refine (find_hit_r ⟨2,0,l + 1,r + 1,0⟩ HO.out HL.out _ (H.get pk)).mono ?_;rintro e wc ⟨rfl,hb⟩;replace H:=H.grew hb.below;clear hb))
  go_ret2
  exact StoPost.mk lv (by rw [HR.out];rfl) (by rw [HR.out];exact H.only pk)
 |none =>
  have HL:=Lib.hid hl
  by_cases hm:S.most≤S.list.length
  ·have HR:Hid (S.put (pairE x y (l + 1) (r + 1)) = ((0,some 3),S)):=Lib.hid (by simp [Sto.put,pairE,hl,hm])
   have HM:=Lib.hid hm
   clear hl h hm
   go_enter Tryz.func52,Tryz.ntmps52
   go_wp2_with (first | refine sL ?_ | (refine sS ?_;clear H;intros;rename_i H) | (go_at_call 53;refine same (known_yes _ _ (H.get pk) (by omega) (by omega)) ?_))
   refine (at_in HX0.out.1 _ (H.get pk)).mono ?_
   rintro e wc ⟨rfl,hb⟩
   replace H:=H.grew hb.below
   clear hb
   go_wp2_with (first | refine sL ?_ | (refine sS ?_;clear H;intros;rename_i H))
   refine (at_in HX0.out.2 _ (H.get pk)).mono ?_
   rintro e wc ⟨rfl,hb⟩
   replace H:=H.grew hb.below
   clear hb
   go_wp2_with (first | refine sL ?_ | (refine sS ?_;clear H;intros;rename_i H) | (go_at_call 79;refine same (add_ok_e x.w.len y.w.len _ HG.out.2.2) ?_) | (go_at_call 74;refine (find_full_r ⟨2,0,l + 1,r + 1,0⟩ HF.out HO.out HL.out HM.out _ (H.get pk)).mono ?_;rintro e wc ⟨rfl,hb⟩;replace H:=H.grew hb.below;clear hb))
   go_ret2
   exact StoPost.mk lv (by rw [HR.out];rfl) (by rw [HR.out];exact H.only pk)
  ·have HR:Hid (S.put (pairE x y (l + 1) (r + 1)) = ((S.list.length + 1,none),⟨S.most,S.list ++ [pairE x y (l + 1) (r + 1)]⟩)):=Lib.hid (by simp [Sto.put,pairE,hl,hm])
   have HM:=Lib.hid hm
   have hlt:S.list.length < 1048576:=by omega
   clear hl h hm
   go_enter Tryz.func52,Tryz.ntmps52
   go_wp2_with (first | refine sL ?_ | (refine sS ?_;clear H;intros;rename_i H) | (go_at_call 53;refine same (known_yes _ _ (H.get pk) (by omega) (by omega)) ?_))
   refine (at_in HX0.out.1 _ (H.get pk)).mono ?_
   rintro e wc ⟨rfl,hb⟩
   replace H:=H.grew hb.below
   clear hb
   go_wp2_with (first | refine sL ?_ | (refine sS ?_;clear H;intros;rename_i H))
   refine (at_in HX0.out.2 _ (H.get pk)).mono ?_
   rintro e wc ⟨rfl,hb⟩
   replace H:=H.grew hb.below
   clear hb
   go_wp2_with (first | refine sL ?_ | (refine sS ?_;clear H;intros;rename_i H) | (go_at_call 79;refine same (add_ok_e x.w.len y.w.len _ HG.out.2.2) ?_) | (go_at_call 74;refine (find_new_r ⟨2,0,l + 1,r + 1,0⟩ HF.out HO.out HL.out HM.out _ (H.get pk)).mono ?_;rintro e wc ⟨rfl,hb⟩;replace H:=H.grew hb.below;clear hb))
   refine (wjoin_l x.w y.w HG.out.1.wok HG.out.2.1.wok HG.out.2.2 _).mono ?_
   rintro e wc ⟨rfl,hb⟩
   replace H:=H.grew hb.below
   clear hb
   obtain ⟨ex,hex⟩:∃ ex,ex = x.even:=⟨_,rfl⟩
   obtain ⟨ey,hey⟩:∃ ey,ey = y.even:=⟨_,rfl⟩
   rw [← hex,← hey] at H
   have HEX:=Lib.hid hex
   have HEY:=Lib.hid hey
   clear hex hey
   cases ex <;> cases ey <;> by_cases h1:x.depth≤y.depth + 1 <;> by_cases h2:y.depth≤x.depth + 1
   all_goals first
    |(exfalso;omega)
    |skip
   all_goals
    go_wp2_with (first | refine sL ?_ | (refine sS ?_;clear H;intros;rename_i H))
    all_goals
     refine calls_arg (ys:=#[.pointer (some ⟨p,0,none⟩),.agg (enL (pairE x y (l + 1) (r + 1))).toArray]) ?_ ((add_st (pairE x y (l + 1) (r + 1)) (look_none HL.out) HF.out hlt _ (H.get pk)).mono ?_)
     ·simp [enL,pairE,← HEX.out,← HEY.out,h1,h2];try omega
     rintro e wc ⟨lv2,rfl,hb⟩
     replace H:=(H.pick (A:=stoA p lv m S) pk).call hb
     clear hb
     go_wp2_with (first | refine sL ?_ | (refine sS ?_;clear H;intros;rename_i H))
     go_ret2
     exact StoPost.mk lv2 (by rw [HR.out];rfl) (by rw [HR.out];exact H.onlyHead)
end
section
open Go.RowKit Go.Maps
attribute [local go_sem] InGr
theorem pair_long {p m:Nat} {lv:Value} {S:Sto} (h:S.Ok) (l r:Nat) (x y:En) (hx:S.list[l]? = some x) (hy:S.list[r]? = some y) (hs2:maxT < x.w.len + y.w.len) (w:World) (hs:(stoA p lv m S).ho w) :
  Calls Tryz.prog 52 #[.pointer (some ⟨p,0,none⟩),.int .i64 ((l:Int) + 1),.int .i64 ((r:Int) + 1)] w (StoPost p m (stoA p lv m S).fp ((0,some 2),S) w):=by
 have H:=St.one hs
 generalize (stoA p lv m S).fp = M at H ⊢
 have hlen:=h.len
 have hmost:=h.most
 have hli:=getElem_len hx
 have hri:=getElem_len hy
 have gx:=h.good l x hx
 have gy:=h.good r y hy
 have HG:=Lib.hid (And.intro gx.wok.len (And.intro gy.wok.len hs2))
 have HX0:=Lib.hid (And.intro hx hy)
 clear hs hx hy gx gy hs2 h
 go_enter Tryz.func52,Tryz.ntmps52
 go_wp2_with (first | refine sL ?_ | (refine sS ?_;clear H;intros;rename_i H) | (go_at_call 53;refine same (known_yes _ _ (H.get pk) (by omega) (by omega)) ?_))
 refine (at_in HX0.out.1 _ (H.get pk)).mono ?_
 rintro e wc ⟨rfl,hb⟩
 replace H:=H.grew hb.below
 clear hb
 go_wp2_with (first | refine sL ?_ | (refine sS ?_;clear H;intros;rename_i H))
 refine (at_in HX0.out.2 _ (H.get pk)).mono ?_
 rintro e wc ⟨rfl,hb⟩
 replace H:=H.grew hb.below
 clear hb
 go_wp2_with (first | refine sL ?_ | (refine sS ?_;clear H;intros;rename_i H) | (go_at_call 79;refine same (add_long_e x.w.len y.w.len _ HG.out.1 HG.out.2.1 HG.out.2.2) ?_))
 go_ret2
 exact StoPost.mk lv rfl (H.only pk)
theorem pair_left {p m:Nat} {lv:Value} {S:Sto} (h:S.Ok) (r:Nat) (hr:r≤S.list.length) (w:World) (hs:(stoA p lv m S).ho w) :
  Calls Tryz.prog 52 #[.pointer (some ⟨p,0,none⟩),.int .i64 0,.int .i64 (r:Int)] w (StoPost p m (stoA p lv m S).fp ((r,none),S) w):=by
 have H:=St.one hs
 generalize (stoA p lv m S).fp = M at H ⊢
 have hlen:=h.len
 have hmost:=h.most
 clear hs h
 go_enter Tryz.func52,Tryz.ntmps52
 go_wp2_with (first | refine sL ?_ | (refine sS ?_;clear H;intros;rename_i H) | (go_at_call 53;refine same (known_yes _ _ (H.get pk) (by omega) (by omega)) ?_))
 go_ret2
 exact StoPost.mk lv rfl (H.only pk)
theorem pair_right {p m:Nat} {lv:Value} {S:Sto} (h:S.Ok) (l:Nat) (hr:l < S.list.length) (w:World) (hs:(stoA p lv m S).ho w) :
  Calls Tryz.prog 52 #[.pointer (some ⟨p,0,none⟩),.int .i64 ((l:Int) + 1),.int .i64 0] w (StoPost p m (stoA p lv m S).fp ((l + 1,none),S) w):=by
 have H:=St.one hs
 generalize (stoA p lv m S).fp = M at H ⊢
 have hlen:=h.len
 have hmost:=h.most
 clear hs h
 go_enter Tryz.func52,Tryz.ntmps52
 go_wp2_with (first | refine sL ?_ | (refine sS ?_;clear H;intros;rename_i H) | (go_at_call 53;refine same (known_yes _ _ (H.get pk) (by omega) (by omega)) ?_))
 go_ret2
 exact StoPost.mk lv rfl (H.only pk)
theorem pair_c {p m:Nat} {lv:Value} {S:Sto} (h:S.Ok) (l r:Nat) (hl:l≤S.list.length) (hr:r≤S.list.length) (w:World) (hs:(stoA p lv m S).ho w) :
  Calls Tryz.prog 52 #[.pointer (some ⟨p,0,none⟩),.int .i64 (l:Int),.int .i64 (r:Int)] w (StoPost p m (stoA p lv m S).fp (S.pair l r) w):=by
 obtain ⟨x,hx⟩:=enAt_some hl
 obtain ⟨y,hy⟩:=enAt_some hr
 unfold Sto.pair
 simp only [hx,hy]
 cases l with
 |zero=>exact pair_left h r hr w hs
 |succ l =>
  rw [if_neg (by omega)]
  cases r with
  |zero=>exact pair_right h l hl w hs
  |succ r =>
   rw [if_neg (by omega)]
   split
   ·rename_i hlong
    exact pair_long h l r x y hx hy hlong w hs
   ·rename_i hlong
    exact pair_in h l r x y hx hy (by omega) w hs
theorem power_none {p m:Nat} {lv:Value} {S:Sto} (h:S.Ok) (x k:Nat) (hx:x≤S.list.length) (hk:k < 9223372036854775808) (h0:k = 0∨x = 0) (w:World) (hs:(stoA p lv m S).ho w) :
  Calls Tryz.prog 51 #[.pointer (some ⟨p,0,none⟩),.int .i64 (x:Int),.int .i64 (k:Int)] w (StoPost p m (stoA p lv m S).fp ((0,none),S) w):=by
 have H:=St.one hs
 generalize (stoA p lv m S).fp = M at H ⊢
 have hlen:=h.len
 have hmost:=h.most
 clear hs h
 by_cases hk0:k = 0
 ·subst hk0
  clear h0
  go_enter Tryz.func51,Tryz.ntmps51
  go_wp2_with (first | refine sL ?_ | (refine sS ?_;clear H;intros;rename_i H) | (go_at_call 53;refine same (known_yes _ _ (H.get pk) (by omega) (by omega)) ?_))
  go_ret2
  exact StoPost.mk lv rfl (H.only pk)
 ·obtain rfl:x = 0:=by omega
  clear h0
  have hk1:((k:Int) == 0) = false:=by rw [beq_eq_false_iff_ne];omega
  go_enter Tryz.func51,Tryz.ntmps51
  go_wp2_with (first | refine sL ?_ | (refine sS ?_;clear H;intros;rename_i H) | (go_at_call 53;refine same (known_yes _ _ (H.get pk) (by omega) (by omega)) ?_))
  go_ret2
  exact StoPost.mk lv rfl (H.only pk)
theorem power_one {p m:Nat} {lv:Value} {S:Sto} (h:S.Ok) (x:Nat) (hx:x < S.list.length) (w:World) (hs:(stoA p lv m S).ho w) :
  Calls Tryz.prog 51 #[.pointer (some ⟨p,0,none⟩),.int .i64 ((x:Int) + 1),.int .i64 1] w (StoPost p m (stoA p lv m S).fp ((x + 1,none),S) w):=by
 have H:=St.one hs
 generalize (stoA p lv m S).fp = M at H ⊢
 have hlen:=h.len
 have hmost:=h.most
 clear hs h
 go_enter Tryz.func51,Tryz.ntmps51
 go_wp2_with (first | refine sL ?_ | (refine sS ?_;clear H;intros;rename_i H) | (go_at_call 53;refine same (known_yes _ _ (H.get pk) (by omega) (by omega)) ?_))
 go_ret2
 exact StoPost.mk lv rfl (H.only pk)
theorem power_long {p m:Nat} {lv:Value} {S:Sto} (h:S.Ok) (l k:Nat) (x:En) (hx:S.list[l]? = some x) (hk2:2≤k) (hk:k < 9223372036854775808) (hs2:maxT < x.w.len * k) (w:World) (hs:(stoA p lv m S).ho w) :
  Calls Tryz.prog 51 #[.pointer (some ⟨p,0,none⟩),.int .i64 ((l:Int) + 1),.int .i64 (k:Int)] w (StoPost p m (stoA p lv m S).fp ((0,some 2),S) w):=by
 have H:=St.one hs
 generalize (stoA p lv m S).fp = M at H ⊢
 have hlen:=h.len
 have hmost:=h.most
 have hli:=getElem_len hx
 have gx:=h.good l x hx
 have HG:=Lib.hid (And.intro gx.pos (And.intro gx.wok.len hs2))
 have HX0:=Lib.hid hx
 have hk0:((k:Int) == 0) = false:=by rw [beq_eq_false_iff_ne];omega
 have hk1:((k:Int) == 1) = false:=by rw [beq_eq_false_iff_ne];omega
 clear hs hx gx hs2 h
 go_enter Tryz.func51,Tryz.ntmps51
 go_wp2_with (first | refine sL ?_ | (refine sS ?_;clear H;intros;rename_i H) | (go_at_call 53;refine same (known_yes _ _ (H.get pk) (by omega) (by omega)) ?_))
 refine (at_in HX0.out _ (H.get pk)).mono ?_
 rintro e wc ⟨rfl,hb⟩
 replace H:=H.grew hb.below
 clear hb
 go_wp2_with (first | refine sL ?_ | (refine sS ?_;clear H;intros;rename_i H) | (go_at_call 77;refine same (mul_long_e x.w.len k _ HG.out.1 HG.out.2.1 HG.out.2.2) ?_))
 go_ret2
 exact StoPost.mk lv rfl (H.only pk)
theorem power_in {p m:Nat} {lv:Value} {S:Sto} (h:S.Ok) (l k:Nat) (x:En) (hx:S.list[l]? = some x) (hk2:2≤k) (hs2:x.w.len * k≤maxT) (w:World) (hs:(stoA p lv m S).ho w) :
  Calls Tryz.prog 51 #[.pointer (some ⟨p,0,none⟩),.int .i64 ((l:Int) + 1),.int .i64 (k:Int)] w (StoPost p m (stoA p lv m S).fp (S.put (powerE x (l + 1) k)) w):=by
 have H:=St.one hs
 generalize (stoA p lv m S).fp = M at H ⊢
 have hlen:=h.len
 have hmost:=h.most
 have hli:=getElem_len hx
 have gx:=h.good l x hx
 have hdx:=gx.depth
 have hkm:k≤1152921504606846976:=Nat.le_trans (Nat.le_mul_of_pos_left k gx.pos) hs2
 have HG:=Lib.hid (And.intro gx hs2)
 have HX0:=Lib.hid hx
 have HO:=Lib.hid h
 have HF:Hid (Rl.Fits ⟨3,0,l + 1,0,k⟩):=Lib.hid ⟨by simp,by simp,by simp;omega,by simp,by simp;omega⟩
 have hk0:((k:Int) == 0) = false:=by rw [beq_eq_false_iff_ne];omega
 have hk1:((k:Int) == 1) = false:=by rw [beq_eq_false_iff_ne];omega
 clear hs hx gx hs2
 cases hl:S.look ⟨3,0,l + 1,0,k⟩ with
 |some i =>
  have HR:Hid (S.put (powerE x (l + 1) k) = ((i + 1,none),S)):=Lib.hid (by simp [Sto.put,powerE,hl])
  have HL:=Lib.hid hl
  clear hl h
  go_enter Tryz.func51,Tryz.ntmps51
  go_wp2_with (first | refine sL ?_ | (refine sS ?_;clear H;intros;rename_i H) | (go_at_call 53;refine same (known_yes _ _ (H.get pk) (by omega) (by omega)) ?_))
  refine (at_in HX0.out _ (H.get pk)).mono ?_
  rintro e wc ⟨rfl,hb⟩
  replace H:=H.grew hb.below
  clear hb
  go_wp2_with (first | refine sL ?_ | (refine sS ?_;clear H;intros;rename_i H) | (go_at_call 77;refine same (mul_ok_e x.w.len k _ HG.out.1.pos HG.out.1.wok.len HG.out.2) ?_) | (go_at_call 74;refine (find_hit_r ⟨3,0,l + 1,0,k⟩ HO.out HL.out _ (H.get pk)).mono ?_;rintro e wc ⟨rfl,hb⟩;replace H:=H.grew hb.below;clear hb))
  go_ret2
  exact StoPost.mk lv (by rw [HR.out];rfl) (by rw [HR.out];exact H.only pk)
 |none =>
  have HL:=Lib.hid hl
  by_cases hm:S.most≤S.list.length
  ·have HR:Hid (S.put (powerE x (l + 1) k) = ((0,some 3),S)):=Lib.hid (by simp [Sto.put,powerE,hl,hm])
   have HM:=Lib.hid hm
   clear hl h hm
   go_enter Tryz.func51,Tryz.ntmps51
   go_wp2_with (first | refine sL ?_ | (refine sS ?_;clear H;intros;rename_i H) | (go_at_call 53;refine same (known_yes _ _ (H.get pk) (by omega) (by omega)) ?_))
   refine (at_in HX0.out _ (H.get pk)).mono ?_
   rintro e wc ⟨rfl,hb⟩
   replace H:=H.grew hb.below
   clear hb
   go_wp2_with (first | refine sL ?_ | (refine sS ?_;clear H;intros;rename_i H) | (go_at_call 77;refine same (mul_ok_e x.w.len k _ HG.out.1.pos HG.out.1.wok.len HG.out.2) ?_) | (go_at_call 74;refine (find_full_r ⟨3,0,l + 1,0,k⟩ HF.out HO.out HL.out HM.out _ (H.get pk)).mono ?_;rintro e wc ⟨rfl,hb⟩;replace H:=H.grew hb.below;clear hb))
   go_ret2
   exact StoPost.mk lv (by rw [HR.out];rfl) (by rw [HR.out];exact H.only pk)
  ·have HR:Hid (S.put (powerE x (l + 1) k) = ((S.list.length + 1,none),⟨S.most,S.list ++ [powerE x (l + 1) k]⟩)):=Lib.hid (by simp [Sto.put,powerE,hl,hm])
   have HM:=Lib.hid hm
   have hlt:S.list.length < 1048576:=by omega
   clear hl h hm
   go_enter Tryz.func51,Tryz.ntmps51
   go_wp2_with (first | refine sL ?_ | (refine sS ?_;clear H;intros;rename_i H) | (go_at_call 53;refine same (known_yes _ _ (H.get pk) (by omega) (by omega)) ?_))
   refine (at_in HX0.out _ (H.get pk)).mono ?_
   rintro e wc ⟨rfl,hb⟩
   replace H:=H.grew hb.below
   clear hb
   go_wp2_with (first | refine sL ?_ | (refine sS ?_;clear H;intros;rename_i H) | (go_at_call 77;refine same (mul_ok_e x.w.len k _ HG.out.1.pos HG.out.1.wok.len HG.out.2) ?_) | (go_at_call 74;refine (find_new_r ⟨3,0,l + 1,0,k⟩ HF.out HO.out HL.out HM.out _ (H.get pk)).mono ?_;rintro e wc ⟨rfl,hb⟩;replace H:=H.grew hb.below;clear hb))
   refine (wrepeat_l x.w HG.out.1.wok HG.out.1.pos k (by omega) HG.out.2 _).mono ?_
   rintro e wc ⟨rfl,hb⟩
   replace H:=H.grew hb.below
   clear hb
   go_wp2_with (first | refine sL ?_ | (refine sS ?_;clear H;intros;rename_i H))
   refine calls_arg (ys:=#[.pointer (some ⟨p,0,none⟩),.agg (enL (powerE x (l + 1) k)).toArray]) ?_ ((add_st (powerE x (l + 1) k) (look_none HL.out) HF.out hlt _ (H.get pk)).mono ?_)
   ·simp [enL,powerE]
   rintro e wc ⟨lv2,rfl,hb⟩
   replace H:=(H.pick (A:=stoA p lv m S) pk).call hb
   clear hb
   go_wp2_with (first | refine sL ?_ | (refine sS ?_;clear H;intros;rename_i H))
   go_ret2
   exact StoPost.mk lv2 (by rw [HR.out];rfl) (by rw [HR.out];exact H.onlyHead)
theorem power_c {p m:Nat} {lv:Value} {S:Sto} (h:S.Ok) (x k:Nat) (hx:x≤S.list.length) (hk:k < 9223372036854775808) (w:World) (hs:(stoA p lv m S).ho w) :
  Calls Tryz.prog 51 #[.pointer (some ⟨p,0,none⟩),.int .i64 (x:Int),.int .i64 (k:Int)] w (StoPost p m (stoA p lv m S).fp (S.power x k) w):=by
 obtain ⟨e,he⟩:=enAt_some hx
 unfold Sto.power
 simp only [he]
 by_cases h0:k = 0∨x = 0
 ·rw [if_pos h0]
  exact power_none h x k hx hk h0 w hs
 ·rw [if_neg h0]
  simp at h0
  obtain ⟨l,rfl⟩:=Nat.exists_eq_succ_of_ne_zero h0.2
  by_cases h1:k = 1
  ·rw [if_pos h1]
   subst h1
   exact power_one h l hx w hs
  ·rw [if_neg h1]
   split
   ·rename_i h2
    exact power_long h l k e he (by omega) hk h2 w hs
   ·rename_i h2
    exact power_in h l k e he (by omega) (by omega) w hs
end
section
open Go.RowKit Go.Maps
attribute [local go_sem] InGr
theorem quiet_same_x {f:FuncId} {args:Array Value} {v:Value} {w:World} {x:Gr w} (h:Calls Tryz.prog f args x.1 fun e w'=>e = .returned v∧w' = x.1):Calls Tryz.prog f args x.1 fun e w''=>e = .returned v∧∃ y:Gr w,w'' = y.1:=quiet_gr_same h
theorem stoA_new {p m:Nat} {n:Nat} {w0 w:World} {M:List Nat} {R:List As} (h:St w0 M (blk p (.cells #[.int .i64 (n:Nat),.slice none 0 0,.map (some m)] 94) :: mapA Tryz.prog 110 m [] :: R) w):St w0 M (stoA p (.slice none 0 0) m ⟨n,[]⟩ :: R) w:=by
 have h1:=h.empty (A:=rowsA enL 125 13 (.slice none 0 0) []) (rowsA_nil w) (by rw [rowsA_fp'];rfl)
 exact stoA_shut (h1.pick (.there .here)) rfl
theorem new_c (n:Nat) (hn:n≤1048576) (z:Int) (hz:z = n) (w:World) :
  Calls Tryz.prog 19 #[.int .i64 z] w fun e w'=>∃ p m,e = .returned (.pointer (some ⟨p,0,none⟩))∧St w [] [stoA p (.slice none 0 0) m ⟨n,[]⟩] w':=by
 subst hz
 have H:=St.nil w []
 go_enter Tryz.func19,Tryz.ntmps19
 go_wp2_with (first | refine sL ?_ | (refine sS ?_;clear H;intros;rename_i H) | (go_at_call 49;refine same (clip_c n _ (by omega) (by omega)) ?_) | ((with_reducible refine isMakeMap ?_);refine AtMakeMap.go 110 H rfl rfl ?_;clear H;intro m _ H;simp only [Act.put,puA,puB,puC]))
 go_ret
 exact ⟨_,_,rfl,stoA_new H⟩
theorem St.only3 {w0 w:World} {M:List Nat} {L R R' R'':List As} {A B C:As} (h:St w0 M L w) (h1:Pick L A R) (h2:Pick R B R') (h3:Pick R' C R''):St w0 M [A,B,C] w:=by
 have h:=h.pick3 h1 h2 h3
 refine ⟨h.os,h.tape,h.output,h.size,h.keep,fun D hD=>h.ho D ?_,fun D hD=>h.own D ?_,?_⟩
 ·simp at hD ⊢;rcases hD with h | h | h <;> simp [h]
 ·simp at hD ⊢;rcases hD with h | h | h <;> simp [h]
 ·have:=h.dis
  simp only [List.pairwise_cons,List.mem_cons] at this ⊢
  obtain ⟨d1,d2,_⟩:=this
  refine ⟨fun D hD=>d1 D ?_,fun D hD=>d2 D ?_,by simp,List.Pairwise.nil⟩
  ·simp at hD;rcases hD with h | h <;> simp [h]
  ·simp at hD;simp [hD]
def LBPost (p m:Nat) (M:List Nat) (S:Sto) (ids:List Nat) (w:World) (e:Ending) (w':World):Prop :=
 ∃ rv lv,e = .returned (.tuple #[rv,.bool true])∧St w M [stoA p lv m S,rowsA encI 32 1 rv ids] w'
theorem makes_pre (S:Sto) (ids:List Nat) (ms:List Mk):∃ l,(S.makes ids ms).2 = ids ++ l:=by
 induction ms generalizing S ids with
 |nil=>exact ⟨[],by simp [Sto.makes]⟩
 |cons a ms ih =>
  simp only [Sto.makes]
  obtain ⟨l,hl⟩:=ih (S.make ids a).2 (ids ++ [(S.make ids a).1.1])
  exact ⟨[(S.make ids a).1.1] ++ l,by rw [hl,List.append_assoc]⟩
theorem makes_app (S:Sto) (ids:List Nat) (a b:List Mk):S.makes ids (a ++ b) = (S.makes ids a).1.makes (S.makes ids a).2 b:=by
 induction a generalizing S ids with
 |nil=>rfl
 |cons x a ih=>simp only [List.cons_append,Sto.makes,ih]
theorem scr_pre (most:Nat) (ms:List Mk) (k:Nat):∃ l,(scr most ms ms.length).2 = (scr most ms k).2 ++ l:=by
 have e:ms.take ms.length = ms.take k ++ ms.drop k:=by rw [List.take_length,List.take_append_drop]
 unfold scr
 rw [e,makes_app]
 exact makes_pre _ _ _
theorem scr_want {most:Nat} (hmost:most≤1048576) {ms:List Mk} (hf:∀ m∈ms,m.Fits) {k:Nat} {x:Mk} (hx:ms[k]? = some x):(scr most ms ms.length).2[k + 1]? = some ((scr most ms k).1.make (scr most ms k).2 x).1.1:=by
 obtain ⟨l,hl⟩:=scr_pre most ms (k + 1)
 have hk:=getElem_len hx
 have hc:=(scr_ok hmost hf k (by omega)).cnt
 rw [hl,scr_step hx]
 simp [hc]
theorem lbuild_c {p m:Nat} {sv:Value} {lvs:Value} {ms:List Mk} {P:PoolT} (most:Nat) (hmost:most≤1048576) (hlen:ms.length < most) (hf:∀ m∈ms,m.Fits) (w:World) (hs:(stoA p sv m ⟨most,[]⟩).ho w) (h:(poolA P).ho w) (hap:∀ b∈(poolA P).fp,b ∉ (stoA p sv m ⟨most,[]⟩).fp) (hrow:RowIn P mkL 5 lvs ms) :
  Calls Tryz.prog 20 #[.pointer (some ⟨p,0,none⟩),lvs] w (LBPost p m (stoA p sv m ⟨most,[]⟩).fp (scr most ms ms.length).1 (scr most ms ms.length).2 w):=by
 have H:=St.one hs
 have HK:Ks w (stoA p sv m ⟨most,[]⟩).fp [poolA P]:=⟨by simpa using h,by simpa using hap⟩
 generalize (stoA p sv m ⟨most,[]⟩).fp = M at *
 obtain ⟨ad,c,rfl,hm⟩:=hrow.shape
 unfold maxLen at hm
 have HS:Hid (∀ k,k≤ms.length→Scr most k (scr most ms k).1 (scr most ms k).2):=Lib.hid fun k hk=>scr_ok hmost hf k hk
 have HW:Hid (∀ (k:Nat) x,ms[k]? = some x→(scr most ms ms.length).2[k + 1]? = some ((scr most ms k).1.make (scr most ms k).2 x).1.1):=Lib.hid fun k x hx=>scr_want hmost hf hx
 have HF:=Lib.hid hf
 have HC:Hid (∀ (k:Nat) x,ms[k]? = some x→∃ g o,ad = some ⟨g,o,none⟩):=Lib.hid fun k x hx=>by
  obtain ⟨g,o,c',he,_⟩:=hrow.has (by have:=getElem_len hx;omega)
  injection he with e1 e2 e3
  exact ⟨g,o,e1⟩
 have HR:=Lib.hid hrow
 have HB:Hid (∀ w,(poolA P).ho w→Calls Tryz.prog 24 #[.slice ad ms.length c] w fun e w'=>∃ vr vl rv,e = .returned (.tuple #[.agg #[vr,vl],rv])∧St w [] [refA vr vl (scr most ms ms.length).1.list,rowsA encI 32 1 rv (scr most ms ms.length).2] w'):=Lib.hid fun w h=>rbuild_c most hmost hlen hf w h hrow
 clear h hf hrow hs hap
 go_enter Tryz.func20,Tryz.ntmps20
 go_wp2_with (first | refine sL ?_ | (refine sS ?_;clear H;intros;rename_i H) | (go_at_call 24;go_loud (with_reducible refine Calls.mono (HB.out _ (H.known HK pk)) ?_;rintro e wc ⟨vr,vl,rv,rfl,hb⟩;replace H:=H.call0 hb;clear hb;simp only [List.cons_append,List.nil_append] at H;obtain ⟨qa,qb,qc,qd,rfl,rfl⟩:=refA_shape (H.get Pick.here);obtain ⟨qe,qf,rfl,_⟩:=rowsA_shape (H.get (Pick.there Pick.here)))) | ((with_reducible refine isSlice ?_);refine AtSlice.one H rfl rfl rfl rfl rfl rfl rfl rfl rfl ?_;clear H;intro b _ H;simp only [Act.put,puA,puB,puC]))
 have hids:[0] = (scr most ms 0).2:=rfl
 have hsto:(⟨most,[]⟩:Sto) = (scr most ms 0).1:=rfl
 replace H:=H.conv (A':=rowsA encI 32 1 (.slice (some ⟨b,0,none⟩) 1 1) [0]) (by rw [rowsA_fp',blk_fp];rfl) fun hb=>rowsA_of_blk (xs:=[0]) (by rw [blk_ho] at hb;exact hb) (by simp [maxLen]) (by simp [flatG,encI]) encI_len
 replace H:=(H.drop (.there .here)).drop (.there .here)
 rw [hids,hsto] at H
 clear hids hsto
 have hwc:=(HS.out ms.length (Nat.le_refl _)).cnt
 obtain ⟨g2,qf',hqe,_,hl2⟩:=rowsA_cases (H.get (A:=rowsA encI 32 1 (.slice qe (scr most ms ms.length).2.length qf) (scr most ms ms.length).2) pk) (by omega)
 injection hqe with e1 e2 e3
 subst e1 e3
 unfold maxLen at hl2
 generalize hwn:(scr most ms ms.length).2 = want at *
 have HWC:=Lib.hid hwc
 clear hwc
 go_loopw [8,22] (fun v8 v22 wr=>∃ k:Nat,∃ lv:Value,v22 = .int .i64 k∧k≤ms.length∧St w M [rowsA encI 32 1 v8 (scr most ms k).2,rowsA encI 32 1 (.slice (some ⟨g2,0,none⟩) want.length qf) want,stoA p lv m (scr most ms k).1] wr) (fun _ v22 _=>ms.length - (intOf v22).toNat)
 case atStart=>exact ⟨0,_,rfl,Nat.zero_le _,H⟩
 case round =>
  clear H
  obtain ⟨k,lv,rfl,hk,H⟩:=hrel
  have hcnt0:=(HS.out k hk).cnt
  obtain ⟨g1,c1,rfl,_,hl1⟩:=rowsA_cases (H.get Pick.here) (by omega)
  unfold maxLen at hl1
  by_cases hlt:k < ms.length
  ·obtain ⟨x,hx⟩:∃ x,ms[k]? = some x:=⟨ms[k],by simp⟩
   obtain ⟨g,og,rfl⟩:=HC.out k x hx
   have HX0:=Lib.hid hx
   have hs:=HS.out k hk
   have hcnt:=hs.cnt
   have hFx:=HF.out x (List.mem_of_getElem? hx)
   obtain ⟨l,hl⟩:∃ l,(scr most ms k).2[pickN x.left (scr most ms k).2.length]? = some l:=⟨_,List.getElem?_eq_getElem (pickN_lt (by omega))⟩
   obtain ⟨r,hr⟩:∃ r,(scr most ms k).2[pickN x.right (scr most ms k).2.length]? = some r:=⟨_,List.getElem?_eq_getElem (pickN_lt (by omega))⟩
   have HL:=Lib.hid hl
   have HRr:=Lib.hid hr
   have hpl:=getElem_len hl
   have hpr:=getElem_len hr
   have HP1:Hid (∀ w,Calls Tryz.prog 22 #[.int .i64 x.left,.int .i64 (scr most ms k).2.length] w fun e w'=>e = .returned (.int .i64 (pickN x.left (scr most ms k).2.length))∧w' = w):=Lib.hid fun w=>pickf_c _ _ _ rfl hFx.left (by omega) (by omega) w
   have HP2:Hid (∀ w,Calls Tryz.prog 22 #[.int .i64 x.right,.int .i64 (scr most ms k).2.length] w fun e w'=>e = .returned (.int .i64 (pickN x.right (scr most ms k).2.length))∧w' = w):=Lib.hid fun w=>pickf_c _ _ _ rfl hFx.right (by omega) (by omega) w
   have HCN:=Lib.hid hcnt
   have hcl:(scr most ms k).2.length≤1048577:=by omega
   clear hcnt hcnt0
   generalize hpla:pickN x.left (scr most ms k).2.length = pl at *
   generalize hpra:pickN x.right (scr most ms k).2.length = pr at *
   clear hx hl hr
   go_wp2_with (first | refine sL ?_ | (refine sS ?_;clear H;intros;rename_i H) | ((with_reducible refine isLoad ?_);refine AtLoad.rngT (vs:=mkL x) rfl rfl rfl (HR.out.rng (H.known HK pk) mkL_len HX0.out) rfl ?_;simp only [Act.put,puA,puB,puC]))
   refine wp_region_h H 18 [] [] (by kernel_rfl) (by kernel_rfl) ?_
   apply Exists.intro
   refine ⟨fun w1 hw1 HX=>?_,fun bs wr Hr=>?_⟩
   ·refine sG ?_
    repeat (first | refine sQ ?_ | ((with_reducible refine isQLoad ?_);refine QtLoad.cel rfl rfl rfl rfl (fun y=>rowsA_cell1 ((HX y).get (A:=rowsA encI 32 1 (.slice (some ⟨g1,0,none⟩) (scr most ms k).2.length c1) (scr most ms k).2) pk) encI_len HL.out rfl) ?_;simp only [Act.put,puA,puB,puC]) | ((with_reducible refine isQLoad ?_);refine QtLoad.cel rfl rfl rfl rfl (fun y=>rowsA_cell1 ((HX y).get (A:=rowsA encI 32 1 (.slice (some ⟨g1,0,none⟩) (scr most ms k).2.length c1) (scr most ms k).2) pk) encI_len HRr.out rfl) ?_;simp only [Act.put,puA,puB,puC]) | go_big_quiet_step ((go_at_call 22;with_reducible exact quiet_same_x (HP1.out _))) | go_big_quiet_step ((go_at_call 22;with_reducible exact quiet_same_x (HP2.out _))) | go_big_quiet_step (fail))
    exact wpQuiet_nil rfl
   clear H
   have H:=Hr
   clear Hr
   replace H:=sH H;refine sT ?_
   have hwk:k + 1 < want.length:=by rw [HWC.out];omega
   have HWk:=Lib.hid (HW.out k x HX0.out)
   have hidl:=(StoStep.make (scr most ms k).1 (scr most ms k).2 x hs.mem)
   have hin1:l≤(scr most ms k).1.list.length:=hs.mem _ (List.mem_of_getElem? HL.out)
   have hin2:r≤(scr most ms k).1.list.length:=hs.mem _ (List.mem_of_getElem? HRr.out)
   have hge1:(scr most ms k).2.getD (pickN x.left (scr most ms k).2.length) 0 = l:=by rw [hpla,List.getD_eq_getElem?_getD,HL.out];rfl
   have hge2:(scr most ms k).2.getD (pickN x.right (scr most ms k).2.length) 0 = r:=by rw [hpra,List.getD_eq_getElem?_getD,HRr.out];rfl
   have hk4:=pickN_lt (n:=x.kind) (m:=4) (by omega)
   have hokk:=hs.ok
   have hlet:=hFx.letter
   have htim:=hFx.times
   unfold fits64 at htim
   by_cases k0:pickN x.kind 4 = 0
   ·have HPk:Hid (∀ w,Calls Tryz.prog 22 #[.int .i64 x.kind,.int .i64 4] w fun e w'=>e = .returned (.int .i64 0)∧w' = w):=Lib.hid fun w=>pick4_c _ 0 (by rw [k0];rfl) hFx.kind w
    have HO:Hid (∀ w,(stoA p lv m (scr most ms k).1).ho w→Calls Tryz.prog 50 #[.pointer (some ⟨p,0,none⟩),.int .u8 x.letter] w (fun e w'=>∃ lv',e = .returned (.tuple #[.int .i64 ((scr most ms k).1.make (scr most ms k).2 x).1.1,errV ((scr most ms k).1.make (scr most ms k).2 x).1.2])∧St w (stoA p lv m (scr most ms k).1).fp [stoA p lv' m ((scr most ms k).1.make (scr most ms k).2 x).2] w')):=Lib.hid fun w h=>by
     have e:(scr most ms k).1.make (scr most ms k).2 x = (scr most ms k).1.letter x.letter:=by unfold Sto.make;rw [if_pos k0]
     rw [e]
     exact letter_c hokk x.letter hlet w h
    generalize hmk:(scr most ms k).1.make (scr most ms k).2 x = rr at *
    obtain ⟨⟨rid,rerr⟩,rsto⟩:=rr
    have HMK:=Lib.hid hmk
    clear hs hidl hge1 hge2 hokk hmk k0
    go_wp2_with (first | refine sL ?_ | (refine sS ?_;clear H;intros;rename_i H) | (go_at_call 22;with_reducible refine same (HPk.out _) ?_) | (go_at_call 50;with_reducible refine Calls.mono (HO.out _ (H.get (A:=stoA p lv m (scr most ms k).1) pk)) ?_;rintro e wc ⟨lv2,rfl,hb⟩;replace H:=(H.pick (A:=stoA p lv m (scr most ms k).1) pk).call hb;clear hb;simp only [List.cons_append,List.nil_append] at H) | ((with_reducible refine isLoad ?_);refine AtLoad.cel rfl rfl rfl rfl (rowsA_cell1 (H.get (A:=rowsA encI 32 1 (.slice (some ⟨g2,0,none⟩) want.length qf) want) pk) encI_len HWk.out rfl) ?_;simp only [Act.put,puA,puB,puC]) | ((with_reducible refine isSlice ?_);refine AtSlice.one H rfl rfl rfl rfl rfl rfl rfl rfl rfl ?_;clear H;intro b _ H;simp only [Act.put,puA,puB,puC]) | ((with_reducible refine isAppend ?_);refine AtAppend.go (enc:=encI) H rfl rfl rfl rfl rfl (by decide) (by decide) rfl pk rfl (H.at pk) [rid] rfl (by simp [flatG,encI]) encI_len encI_one (by simp;omega) ?_;clear H;intro ad cp _ H;simp only [Act.put,puA,puB,puC]))
    have H2:=St.only3 H (A:=rowsA encI 32 1 (.slice ad ((scr most ms k).2.length + 1) cp) ((scr most ms k).2 ++ [rid])) (B:=rowsA encI 32 1 (.slice (some ⟨g2,0,none⟩) want.length qf) want) (C:=stoA p lv2 m rsto) pk pk pk
    have e1:(scr most ms (k + 1)).2 = (scr most ms k).2 ++ [rid]:=by rw [scr_step HX0.out,HMK.out]
    have e3:(scr most ms (k + 1)).1 = rsto:=by rw [scr_step HX0.out,HMK.out]
    refine ⟨⟨k + 1,lv2,by go_num,by omega,?_⟩,by simp [intOf];omega⟩
    rw [e1,e3]
    exact H2
   ·by_cases k3:pickN x.kind 4 = 3
    ·have HPk:Hid (∀ w,Calls Tryz.prog 22 #[.int .i64 x.kind,.int .i64 4] w fun e w'=>e = .returned (.int .i64 3)∧w' = w):=Lib.hid fun w=>pick4_c _ 3 (by rw [k3];rfl) hFx.kind w
     have HO:Hid (∀ w,(stoA p lv m (scr most ms k).1).ho w→Calls Tryz.prog 51 #[.pointer (some ⟨p,0,none⟩),.int .i64 (l:Int),.int .i64 (max x.times 0)] w (fun e w'=>∃ lv',e = .returned (.tuple #[.int .i64 ((scr most ms k).1.make (scr most ms k).2 x).1.1,errV ((scr most ms k).1.make (scr most ms k).2 x).1.2])∧St w (stoA p lv m (scr most ms k).1).fp [stoA p lv' m ((scr most ms k).1.make (scr most ms k).2 x).2] w')):=Lib.hid fun w h=>by
      have e:(scr most ms k).1.make (scr most ms k).2 x = (scr most ms k).1.power l x.times.toNat:=by unfold Sto.make;rw [if_neg k0,if_pos k3,hge1]
      rw [e]
      have h9:=power_c hokk l x.times.toNat hin1 (by omega) w h
      rw [show ((x.times.toNat:Nat):Int) = max x.times 0 by omega] at h9
      exact h9
     generalize hmk:(scr most ms k).1.make (scr most ms k).2 x = rr at *
     obtain ⟨⟨rid,rerr⟩,rsto⟩:=rr
     have HMK:=Lib.hid hmk
     clear hs hidl hge1 hge2 hokk hmk k0 k3
     go_wp2_with (first | refine sL ?_ | (refine sS ?_;clear H;intros;rename_i H) | (go_at_call 22;with_reducible refine same (HPk.out _) ?_) | (go_at_call 51;with_reducible refine Calls.mono (HO.out _ (H.get (A:=stoA p lv m (scr most ms k).1) pk)) ?_;rintro e wc ⟨lv2,rfl,hb⟩;replace H:=(H.pick (A:=stoA p lv m (scr most ms k).1) pk).call hb;clear hb;simp only [List.cons_append,List.nil_append] at H) | ((with_reducible refine isLoad ?_);refine AtLoad.cel rfl rfl rfl rfl (rowsA_cell1 (H.get (A:=rowsA encI 32 1 (.slice (some ⟨g2,0,none⟩) want.length qf) want) pk) encI_len HWk.out rfl) ?_;simp only [Act.put,puA,puB,puC]) | ((with_reducible refine isSlice ?_);refine AtSlice.one H rfl rfl rfl rfl rfl rfl rfl rfl rfl ?_;clear H;intro b _ H;simp only [Act.put,puA,puB,puC]) | ((with_reducible refine isAppend ?_);refine AtAppend.go (enc:=encI) H rfl rfl rfl rfl rfl (by decide) (by decide) rfl pk rfl (H.at pk) [rid] rfl (by simp [flatG,encI]) encI_len encI_one (by simp;omega) ?_;clear H;intro ad cp _ H;simp only [Act.put,puA,puB,puC]))
     have H2:=St.only3 H (A:=rowsA encI 32 1 (.slice ad ((scr most ms k).2.length + 1) cp) ((scr most ms k).2 ++ [rid])) (B:=rowsA encI 32 1 (.slice (some ⟨g2,0,none⟩) want.length qf) want) (C:=stoA p lv2 m rsto) pk pk pk
     have e1:(scr most ms (k + 1)).2 = (scr most ms k).2 ++ [rid]:=by rw [scr_step HX0.out,HMK.out]
     have e3:(scr most ms (k + 1)).1 = rsto:=by rw [scr_step HX0.out,HMK.out]
     refine ⟨⟨k + 1,lv2,by go_num,by omega,?_⟩,by simp [intOf];omega⟩
     rw [e1,e3]
     exact H2
    ·obtain ⟨kk,hkk,hk0,hk3⟩:∃ kk:Int,(pickN x.kind 4:Nat) = kk∧kk≠0∧kk≠3:=⟨_,rfl,by omega,by omega⟩
     have HPk:Hid (∀ w,Calls Tryz.prog 22 #[.int .i64 x.kind,.int .i64 4] w fun e w'=>e = .returned (.int .i64 kk)∧w' = w):=Lib.hid fun w=>pick4_c _ kk (by rw [hkk]) hFx.kind w
     have HO:Hid (∀ w,(stoA p lv m (scr most ms k).1).ho w→Calls Tryz.prog 52 #[.pointer (some ⟨p,0,none⟩),.int .i64 (l:Int),.int .i64 (r:Int)] w (fun e w'=>∃ lv',e = .returned (.tuple #[.int .i64 ((scr most ms k).1.make (scr most ms k).2 x).1.1,errV ((scr most ms k).1.make (scr most ms k).2 x).1.2])∧St w (stoA p lv m (scr most ms k).1).fp [stoA p lv' m ((scr most ms k).1.make (scr most ms k).2 x).2] w')):=Lib.hid fun w h=>by
      have e:(scr most ms k).1.make (scr most ms k).2 x = (scr most ms k).1.pair l r:=by unfold Sto.make;rw [if_neg k0,if_neg k3,hge1,hge2]
      rw [e]
      exact pair_c hokk l r hin1 hin2 w h
     generalize hmk:(scr most ms k).1.make (scr most ms k).2 x = rr at *
     obtain ⟨⟨rid,rerr⟩,rsto⟩:=rr
     have HMK:=Lib.hid hmk
     clear hkk hs hidl hge1 hge2 hokk hmk k0 k3
     go_wp2_with (first | refine sL ?_ | (refine sS ?_;clear H;intros;rename_i H) | (go_at_call 22;with_reducible refine same (HPk.out _) ?_) | (go_at_call 52;with_reducible refine Calls.mono (HO.out _ (H.get (A:=stoA p lv m (scr most ms k).1) pk)) ?_;rintro e wc ⟨lv2,rfl,hb⟩;replace H:=(H.pick (A:=stoA p lv m (scr most ms k).1) pk).call hb;clear hb;simp only [List.cons_append,List.nil_append] at H) | ((with_reducible refine isLoad ?_);refine AtLoad.cel rfl rfl rfl rfl (rowsA_cell1 (H.get (A:=rowsA encI 32 1 (.slice (some ⟨g2,0,none⟩) want.length qf) want) pk) encI_len HWk.out rfl) ?_;simp only [Act.put,puA,puB,puC]) | ((with_reducible refine isSlice ?_);refine AtSlice.one H rfl rfl rfl rfl rfl rfl rfl rfl rfl ?_;clear H;intro b _ H;simp only [Act.put,puA,puB,puC]) | ((with_reducible refine isAppend ?_);refine AtAppend.go (enc:=encI) H rfl rfl rfl rfl rfl (by decide) (by decide) rfl pk rfl (H.at pk) [rid] rfl (by simp [flatG,encI]) encI_len encI_one (by simp;omega) ?_;clear H;intro ad cp _ H;simp only [Act.put,puA,puB,puC]))
     have H2:=St.only3 H (A:=rowsA encI 32 1 (.slice ad ((scr most ms k).2.length + 1) cp) ((scr most ms k).2 ++ [rid])) (B:=rowsA encI 32 1 (.slice (some ⟨g2,0,none⟩) want.length qf) want) (C:=stoA p lv2 m rsto) pk pk pk
     have e1:(scr most ms (k + 1)).2 = (scr most ms k).2 ++ [rid]:=by rw [scr_step HX0.out,HMK.out]
     have e3:(scr most ms (k + 1)).1 = rsto:=by rw [scr_step HX0.out,HMK.out]
     refine ⟨⟨k + 1,lv2,by go_num,by omega,?_⟩,by simp [intOf];omega⟩
     rw [e1,e3]
     exact H2
  ·have hke:k = ms.length:=by omega
   have H2:St w M [stoA p lv m (scr most ms k).1,rowsA encI 32 1 (.slice (some ⟨g1,0,none⟩) (scr most ms k).2.length c1) (scr most ms k).2] wr:=(H.pick2 (A:=stoA p lv m (scr most ms k).1) (B:=rowsA encI 32 1 (.slice (some ⟨g1,0,none⟩) (scr most ms k).2.length c1) (scr most ms k).2) pk pk).onlyTwo
   go_wp2_with (first | refine sL ?_ | (refine sS ?_;clear H;intros;rename_i H))
   subst hke
   rw [hwn] at H2
   go_ret2
   exact ⟨_,_,rfl,H2⟩
end
end Go.Proofs.YtijnhpaafhcndaaGreat
section
namespace Go.Proofs.YtijnhpaafhcndaaGreat
set_option linter.unusedSimpArgs false
set_option linter.unusedVariables false
structure Mc where
 start:Nat
 cls:List Nat
 next:List (List Nat)
 acc:List Bool
 wts:List Nat
def Mc.n (m:Mc):Nat:=m.next.length
def Mc.step (m:Mc) (q b:Nat):Nat:=(m.next.getD q []).getD (m.cls.getD b 0) 0
def Mc.wt (m:Mc) (q:Nat):Nat:=m.wts.getD q 0
structure Mc.Ok (m:Mc) (c:Nat):Prop where
 n1:1≤m.n
 n256:m.n≤256
 start:m.start < m.n
 cls:m.cls.length = 256
 c1:1≤c
 c256:c≤256
 clsLt:∀ (i x:Nat),m.cls[i]? = some x→x < c
 row:∀ (i:Nat) (r:List Nat),m.next[i]? = some r→r.length = c
 rowLt:∀ (i j x:Nat) (r:List Nat),m.next[i]? = some r→r[j]? = some x→x < m.n
 acc:m.acc.length = m.n
 wts:m.wts.length = m.n
 wtLe:∀ (i x:Nat),m.wts[i]? = some x→x≤1048576
namespace Mc
variable {m:Mc} {c:Nat}
theorem Ok.cls_get (h:m.Ok c) {b:Nat} (hb:b < 256):∃ x,m.cls[b]? = some x∧x < c:=by
 have hl:b < m.cls.length:=by rw [h.cls];exact hb
 exact ⟨m.cls[b],by simp,h.clsLt b _ (by simp)⟩
theorem Ok.row_get (h:m.Ok c) {q:Nat} (hq:q < m.n):∃ r,m.next[q]? = some r∧r.length = c:=by
 have hl:q < m.next.length:=hq
 exact ⟨m.next[q],by simp,h.row q _ (by simp)⟩
theorem Ok.step_get (h:m.Ok c) {q b:Nat} (hq:q < m.n) (hb:b < 256):∃ r x,m.next[q]? = some r∧m.cls[b]? = some x∧r[x]? = some (m.step q b)∧m.step q b < m.n∧x < c∧r.length = c:=by
 obtain ⟨r,hr,hrl⟩:=h.row_get hq
 obtain ⟨x,hx,hxc⟩:=h.cls_get hb
 have hl:x < r.length:=by omega
 have e:m.step q b = r[x]:=by
  unfold step
  rw [List.getD_eq_getElem?_getD,List.getD_eq_getElem?_getD,List.getD_eq_getElem?_getD,hr,hx]
  simp [hl]
 exact ⟨r,x,hr,hx,by rw [e];simp,by rw [e];exact h.rowLt q x _ r hr (by simp),hxc,hrl⟩
theorem Ok.step_lt (h:m.Ok c) {q b:Nat} (hq:q < m.n) (hb:b < 256):m.step q b < m.n:=by
 obtain ⟨_,_,_,_,_,h5,_⟩:=h.step_get hq hb
 exact h5
theorem Ok.wt_get (h:m.Ok c) {q:Nat} (hq:q < m.n):m.wts[q]? = some (m.wt q)∧m.wt q≤1048576:=by
 have hl:q < m.wts.length:=by rw [h.wts];exact hq
 have e:m.wt q = m.wts[q]:=by unfold wt;rw [List.getD_eq_getElem?_getD];simp [hl]
 have e2:m.wts[q]? = some (m.wt q):=by rw [e];simp
 exact ⟨e2,h.wtLe q _ e2⟩
def ends (m:Mc) (q:Nat) (l:List Nat):Nat:=l.foldl m.step q
def sum (m:Mc):Nat→List Nat→Nat
 |_,[]=>0
 |q,b :: l=>m.wt (m.step q b) + sum m (m.step q b) l
theorem ends_cons (q b:Nat) (l:List Nat):m.ends q (b :: l) = m.ends (m.step q b) l:=rfl
theorem ends_append (q:Nat) (a b:List Nat):m.ends q (a ++ b) = m.ends (m.ends q a) b:=by simp [ends]
theorem sum_append (q:Nat) (a b:List Nat):m.sum q (a ++ b) = m.sum q a + m.sum (m.ends q a) b:=by
 induction a generalizing q with
 |nil=>simp [sum,ends]
 |cons x a ih=>simp only [List.cons_append,sum,ih,ends_cons];omega
theorem Ok.ends_lt (h:m.Ok c):∀ {q:Nat} {l:List Nat},q < m.n→(∀ b∈l,b < 256)→m.ends q l < m.n:=by
 intro q l
 induction l generalizing q with
 |nil=>intro hq _;exact hq
 |cons b l ih=>intro hq hl;rw [ends_cons];exact ih (h.step_lt hq (hl b (by simp))) fun x hx=>hl x (by simp [hx])
end Mc
def rep (k:Nat) (l:List Nat):List Nat:=(List.replicate k l).flatten
theorem rep_zero (l:List Nat):rep 0 l = []:=rfl
theorem rep_one (l:List Nat):rep 1 l = l:=by simp [rep]
theorem rep_add (j k:Nat) (l:List Nat):rep (j + k) l = rep j l ++ rep k l:=by simp [rep,← List.replicate_append_replicate]
theorem rep_succ (k:Nat) (l:List Nat):rep (k + 1) l = l ++ rep k l:=by rw [Nat.add_comm,rep_add,rep_one]
theorem rep_len (k:Nat) (l:List Nat):(rep k l).length = k * l.length:=by
 induction k with
 |zero=>simp [rep_zero]
 |succ k ih=>rw [rep_succ,List.length_append,ih,Nat.succ_mul,Nat.add_comm]
theorem rep_mem {k:Nat} {l:List Nat} {b:Nat} (h:b∈rep k l):b∈l:=by
 unfold rep at h
 obtain ⟨a,ha,hb⟩:=List.mem_flatten.1 h
 rw [List.eq_of_mem_replicate ha] at hb
 exact hb
theorem rep_drop (j k:Nat) (l:List Nat):(rep (j + k) l).drop (j * l.length) = rep k l:=by
 rw [rep_add,← rep_len j l]
 simp
theorem rep_drop_le {j k:Nat} (h:j≤k) (l:List Nat):(rep k l).drop (j * l.length) = rep (k - j) l:=by
 have:=rep_drop j (k - j) l
 rwa [show j + (k - j) = k by omega] at this
theorem rep_take {j k:Nat} (h:j≤k) (l:List Nat):(rep k l).take (j * l.length) = rep j l:=by
 have e:rep k l = rep j l ++ rep (k - j) l:=by rw [← rep_add];congr 1;omega
 rw [e,← rep_len j l]
 simp
attribute [irreducible] rep
def beyond:Nat:=1152921504606846977
def capN (x:Nat):Nat:=min x beyond
theorem capN_le (a:Nat):capN a≤beyond:=by unfold capN;omega
theorem capN_small {a:Nat} (h:a≤beyond):capN a = a:=by unfold capN;omega
def effE (m:Mc) (l:List Nat):List Nat:=(List.range m.n).map fun q=>m.ends q l
def effH (m:Mc) (l:List Nat):List Nat:=(List.range m.n).map fun q=>capN (m.sum q l)
theorem effE_len (m:Mc) (l:List Nat):(effE m l).length = m.n:=by simp [effE]
theorem effH_len (m:Mc) (l:List Nat):(effH m l).length = m.n:=by simp [effH]
theorem effE_get {m:Mc} {q:Nat} (h:q < m.n) (l:List Nat):(effE m l)[q]? = some (m.ends q l):=by simp [effE,h]
theorem effH_get {m:Mc} {q:Nat} (h:q < m.n) (l:List Nat):(effH m l)[q]? = some (capN (m.sum q l)):=by simp [effH,h]
theorem effH_le (m:Mc) (l:List Nat) (x:Nat) (h:x∈effH m l):x≤beyond:=by
 unfold effH at h
 obtain ⟨q,_,rfl⟩:=List.mem_map.1 h
 exact capN_le _
def txtE (T:List (List Nat)) (x:En):List Nat :=
 if x.r.kind = 1 then [x.r.letter] else if x.r.kind = 2 then T.getD (x.r.left - 1) [] ++ T.getD (x.r.right - 1) [] else rep x.r.times (T.getD (x.r.left - 1) [])
def txts (L:List En):List (List Nat):=L.foldl (fun T x=>T ++ [txtE T x]) []
theorem txts_snoc (L:List En) (x:En):txts (L ++ [x]) = txts L ++ [txtE (txts L) x]:=by simp [txts]
theorem snoc_ind {α:Type} {p:List α→Prop} (h0:p []) (h1:∀ l x,p l→p (l ++ [x])) (l:List α):p l:=by
 have key:∀ n (l:List α),l.length = n→p l:=by
  intro n
  induction n with
  |zero=>intro l hl;rw [List.eq_nil_of_length_eq_zero hl];exact h0
  |succ n ih =>
   intro l hl
   have hne:l≠[]:=by intro h;rw [h] at hl;simp at hl
   rw [← List.dropLast_concat_getLast hne]
   exact h1 _ _ (ih _ (by simp [hl]))
 exact key l.length l rfl
theorem txts_len (L:List En):(txts L).length = L.length:=by
 induction L using snoc_ind with
 |h0=>rfl
 |h1 l x ih=>rw [txts_snoc];simp [ih]
theorem txts_pre (L:List En) (k:Nat) (hk:k≤L.length):∃ T,txts L = txts (L.take k) ++ T:=by
 induction L using snoc_ind with
 |h0=>exact ⟨[],by simp⟩
 |h1 l x ih =>
  by_cases h:k≤l.length
  ·obtain ⟨T,hT⟩:=ih h
   refine ⟨T ++ [txtE (txts l) x],?_⟩
   rw [txts_snoc,List.take_append_of_le_length h]
   conv=>lhs;rw [hT]
   rw [List.append_assoc,← hT]
  ·have:k = l.length + 1:=by simp at hk;omega
   subst this
   exact ⟨[],by rw [List.take_of_length_le (by simp)];simp⟩
theorem txts_get (L:List En) (i:Nat) (x:En) (h:L[i]? = some x):(txts L)[i]? = some (txtE (txts (L.take i)) x):=by
 have hi:=getElem_len h
 obtain ⟨T,hT⟩:=txts_pre L (i + 1) (by omega)
 have e:L.take (i + 1) = L.take i ++ [x]:=by rw [List.take_add_one,h];rfl
 have hl:(txts (L.take i)).length = i:=by rw [txts_len,List.length_take,Nat.min_eq_left (Nat.le_of_lt hi)]
 rw [hT,e,txts_snoc,List.getElem?_append_left (by simp [hl]),List.getElem?_append_right (by simp [hl])]
 simp [hl]
theorem txts_low (L:List En) (i l:Nat) (hl:l < i) (hi:i≤L.length):(txts (L.take i)).getD l [] = (txts L).getD l []:=by
 obtain ⟨T,hT⟩:=txts_pre L i hi
 rw [List.getD_eq_getElem?_getD,List.getD_eq_getElem?_getD,hT,List.getElem?_append_left (by simp [txts_len];omega)]
def Sto.txt (S:Sto):Nat→List Nat
 |0=>[]
 |i + 1=>(txts S.list).getD i []
theorem Sto.txt_zero (S:Sto):S.txt 0 = []:=rfl
theorem Sto.txt_get {S:Sto} {i:Nat} {x:En} (h:S.list[i]? = some x):S.txt (i + 1) = txtE (txts (S.list.take i)) x:=by
 show (txts S.list).getD i [] = _
 rw [List.getD_eq_getElem?_getD,txts_get S.list i x h];rfl
theorem Sto.txt_low {S:Sto} {i l:Nat} (hl:l < i) (hi:i≤S.list.length):(txts (S.list.take i)).getD l [] = S.txt (l + 1):=txts_low S.list i l hl hi
theorem Sto.txt_letter {S:Sto} {i b:Nat} (h:S.list[i]? = some (letterE b)):S.txt (i + 1) = [b]:=by
 rw [S.txt_get h];simp [txtE,letterE]
theorem Sto.txt_pair {S:Sto} {i l r:Nat} {x y:En} (hl:l < i) (hr:r < i) (h:S.list[i]? = some (pairE x y (l + 1) (r + 1))):S.txt (i + 1) = S.txt (l + 1) ++ S.txt (r + 1):=by
 have hi:=getElem_len h
 rw [S.txt_get h]
 simp only [txtE,pairE,Nat.add_sub_cancel]
 rw [if_neg (by decide),if_pos trivial,S.txt_low hl (by omega),S.txt_low hr (by omega)]
theorem Sto.txt_power {S:Sto} {i l k:Nat} {x:En} (hl:l < i) (h:S.list[i]? = some (powerE x (l + 1) k)):S.txt (i + 1) = rep k (S.txt (l + 1)):=by
 have hi:=getElem_len h
 rw [S.txt_get h]
 simp only [txtE,powerE,Nat.add_sub_cancel]
 rw [if_neg (by decide),if_neg (by decide),S.txt_low hl (by omega)]
theorem Sto.txt_ok {S:Sto} (h:S.Ok):∀ (i:Nat) (x:En),S.list[i]? = some x→(S.txt (i + 1)).length = x.w.len∧∀ b∈S.txt (i + 1),b < 256:=by
 intro i
 induction i using Nat.strongRecOn with
 |_ i ih =>
  intro x hx
  cases h.ents i x hx with
  |letter b hb=>rw [S.txt_letter hx];exact ⟨by simp [letterE,letter_len],by simpa using hb⟩
  |pair l r y z hl hr hy hz hs =>
   obtain ⟨h1,h2⟩:=ih l hl y hy
   obtain ⟨h3,h4⟩:=ih r hr z hz
   rw [S.txt_pair hl hr hx]
   refine ⟨by rw [List.length_append,h1,h3];simp [pairE,Wt.join],fun b hb=>?_⟩
   rcases List.mem_append.1 hb with hb | hb
   ·exact h2 b hb
   ·exact h4 b hb
  |power l k y hl hy hk hs =>
   obtain ⟨h1,h2⟩:=ih l hl y hy
   rw [S.txt_power hl hx]
   exact ⟨by rw [rep_len,h1];simp [powerE,Wt.rep,Nat.mul_comm],fun b hb=>h2 b (rep_mem hb)⟩
theorem Sto.txt_len {S:Sto} (h:S.Ok) {i:Nat} {x:En} (hx:enAt S i = some x):(S.txt i).length = x.w.len:=by
 cases i with
 |zero=>simp only [enAt,Option.some.injEq] at hx;subst hx;rfl
 |succ i=>exact (S.txt_ok h i x hx).1
theorem Sto.txt_lt {S:Sto} (h:S.Ok) {i:Nat} (hi:i≤S.list.length):∀ b∈S.txt i,b < 256:=by
 cases i with
 |zero=>simp [S.txt_zero]
 |succ i=>exact (S.txt_ok h i S.list[i] (by simp)).2
end Go.Proofs.YtijnhpaafhcndaaGreat
end
namespace Go.Proofs.YtijnhpaafhcndaaGreat
section
def itr (f:Nat→Nat):Nat→Nat→Nat
 |0,q=>q
 |k + 1,q=>itr f k (f q)
theorem itr_add (f:Nat→Nat) (j k q:Nat):itr f (j + k) q = itr f k (itr f j q):=by
 induction j generalizing q with
 |zero=>simp [itr]
 |succ j ih=>rw [Nat.succ_add];simp only [itr];exact ih _
theorem itr_succ (f:Nat→Nat) (k q:Nat):itr f (k + 1) q = f (itr f k q):=by rw [itr_add];rfl
theorem ends_rep (m:Mc) (k q:Nat) (l:List Nat):m.ends q (rep k l) = itr (fun q=>m.ends q l) k q:=by
 induction k generalizing q with
 |zero=>rw [rep_zero];rfl
 |succ k ih=>rw [rep_succ,Mc.ends_append,ih];rfl
theorem itr_lt {f:Nat→Nat} {n:Nat} (hf:∀ q,q < n→f q < n):∀ {k q:Nat},q < n→itr f k q < n:=by
 intro k
 induction k with
 |zero=>intro q hq;exact hq
 |succ k ih=>intro q hq;exact ih (hf q hq)
theorem itr_cycle {f:Nat→Nat} {q t p:Nat} (h:itr f (t + p) q = itr f t q) (d j:Nat):itr f (t + (p * j + d)) q = itr f (t + d) q:=by
 induction j with
 |zero=>simp
 |succ j ih =>
  rw [show t + (p * (j + 1) + d) = (t + p) + (p * j + d) by rw [Nat.mul_succ];omega,itr_add,h,← itr_add,ih]
theorem itr_mod {f:Nat→Nat} {q t p:Nat} (h:itr f (t + p) q = itr f t q) {c:Nat} (hc:t≤c):itr f c q = itr f (t + (c - t) % p) q:=by
 have e:c = t + (p * ((c - t) / p) + (c - t) % p):=by have:=Nat.div_add_mod (c - t) p;omega
 conv=>lhs;rw [e]
 exact itr_cycle h _ _
structure Orb (f:Nat→Nat) (q times:Nat) (xs:List Nat) (tail:Nat):Prop where
 get:∀ (i x:Nat),xs[i]? = some x→x = itr f i q
 pos:1≤xs.length
 le:xs.length≤256
 ends:(tail = xs.length∧times < xs.length)∨(tail < xs.length∧itr f xs.length q = itr f tail q)
theorem Orb.at_low {f:Nat→Nat} {q times:Nat} {xs:List Nat} {tail:Nat} (h:Orb f q times xs tail) {c:Nat} (hc:c < xs.length):xs[c]? = some (itr f c q):=by
 have:=h.get c xs[c] (by simp)
 rw [← this];simp
theorem Orb.at_high {f:Nat→Nat} {q times:Nat} {xs:List Nat} {tail:Nat} (h:Orb f q times xs tail) {c:Nat} (hc:¬ c < xs.length) (ht:c≤times):tail < xs.length∧tail≤c∧xs[tail + (c - tail) % (xs.length - tail)]? = some (itr f c q):=by
 rcases h.ends with ⟨h1,h2⟩ | ⟨h1,h2⟩
 ·omega
 ·refine ⟨h1,by omega,?_⟩
  have hm:(c - tail) % (xs.length - tail) < xs.length - tail:=Nat.mod_lt _ (by omega)
  rw [h.at_low (by omega)]
  congr 1
  refine (itr_mod ?_ (by omega)).symm
  rw [show tail + (xs.length - tail) = xs.length by omega];exact h2
structure Way (f:Nat→Nat) (q:Nat) (xs seen:List Nat):Prop where
 get:∀ (i x:Nat),xs[i]? = some x→x = itr f i q
 lt:∀ (i x:Nat),xs[i]? = some x→x < 256
 size:seen.length = 256
 at_:∀ (s k:Nat),seen[s]? = some (k + 1)→xs[k]? = some s
 zero:xs.length + seen.count 0 = 256
theorem Way.start (f:Nat→Nat) (q:Nat):Way f q [] (List.replicate 256 0) :=
 ⟨by simp,by simp,List.length_replicate,fun s k h=>by
  rw [List.getElem?_replicate] at h
  split at h
  ·injection h with h
   omega
  ·exact absurd h (by simp),by rw [List.count_replicate_self];rfl⟩
theorem Way.len {f:Nat→Nat} {q:Nat} {xs seen:List Nat} (h:Way f q xs seen):xs.length≤256:=by have:=h.zero;omega
theorem Way.next {f:Nat→Nat} {q:Nat} {xs seen:List Nat} (h:Way f q xs seen) {s:Nat} (hs:s = itr f xs.length q) (h256:s < 256) (h0:seen[s]? = some 0):Way f q (xs ++ [s]) (seen.set s (xs.length + 1))∧(seen.set s (xs.length + 1)).count 0 < seen.count 0:=by
 have hl:s < seen.length:=by rw [h.size];exact h256
 have e0:seen[s] = 0:=by rw [List.getElem?_eq_getElem hl] at h0;exact Option.some.inj h0
 have hpos:0 < seen.count 0:=List.count_pos_iff.2 (by rw [← e0];exact List.getElem_mem hl)
 have hc:(seen.set s (xs.length + 1)).count 0 = seen.count 0 - 1:=by
  rw [List.count_set hl,e0]
  simp
 refine ⟨⟨fun i x hx=>?_,fun i x hx=>?_,by simp [h.size],fun a k hk=>?_,?_⟩,by rw [hc];omega⟩
 ·rw [List.getElem?_append] at hx
  split at hx
  ·exact h.get i x hx
  ·have:=getElem_len hx
   simp at this
   have e:i = xs.length:=by omega
   subst e
   simp at hx
   rw [← hx,hs]
 ·rw [List.getElem?_append] at hx
  split at hx
  ·exact h.lt i x hx
  ·have:=getElem_len hx
   simp at this
   have e:i = xs.length:=by omega
   subst e
   simp at hx
   omega
 ·rw [List.getElem?_set] at hk
  split at hk
  ·rename_i e
   subst e
   simp [hl] at hk
   subst hk
   simp
  ·have:=h.at_ a k hk
   rw [List.getElem?_append_left (getElem_len this)]
   exact this
 ·have:=h.zero
  rw [List.length_append,hc]
  simp
  omega
theorem Way.met {f:Nat→Nat} {q times:Nat} {xs seen:List Nat} (h:Way f q xs seen) {s k:Nat} (hs:s = itr f xs.length q) (h0:seen[s]? = some (k + 1)):Orb f q times xs k:=by
 have hk:=h.at_ s k h0
 have hl:=getElem_len hk
 exact ⟨h.get,by omega,h.len,.inr ⟨hl,by rw [← hs];exact h.get k s hk⟩⟩
theorem Way.full {f:Nat→Nat} {q times:Nat} {xs seen:List Nat} (h:Way f q xs seen) (ht:times < xs.length):Orb f q times xs xs.length:=⟨h.get,by omega,h.len,.inl ⟨rfl,ht⟩⟩
end
section
open Go.RowKit Go.Maps
attribute [local go_sem] InGr
section
variable {P:Program} {ops:Array Oper} {Q:Exit→Act→World→Prop} {rest:List Oper} {a:Act} {w w0:World} {M:List Nat} {L R:List As} {o1:Oper} {dst:Option Tmp} {ty0:TypeId} {pos:String} {aft:Array Edge} {gd:Option (Nat × Bool)}
theorem flatG_one {α:Type} {enc:α→List Value} (hk:∀ x,(enc x).length = 1) (l:List α):flatG enc l = l.map fun x=>(enc x).headD undef:=by
 induction l with
 |nil=>rfl
 |cons a l ih =>
  have ha:=hk a
  obtain ⟨b,hb⟩:∃ b,enc a = [b]:=by
   cases h:enc a with
   |nil=>rw [h] at ha;simp at ha
   |cons b t=>rw [h] at ha;simp at ha;subst ha;exact ⟨b,rfl⟩
  have:flatG enc (a :: l) = enc a ++ flatG enc l:=by simp [flatG]
  rw [this,ih,hb];simp [hb]
theorem AtStore.rowA {α:Type} {enc:α→List Value} {e ty:TypeId} {x y:Operand} {g n c i:Nat} {xs:List α} (H:St w0 M L w) (hw:Region.wanted o1 (yielded ops a.tmps) = true) (ho:o1.op = .store ty x y) (hx:a.eval x = .pointer (some ⟨g,i,none⟩)) {u:Value} (hr:isCellT ty = true) (hy:evalO a y = some u) (h1:u.oneCell' = true)
  (hp:Pick L (rowsA enc e 1 (.slice (some ⟨g,0,none⟩) n c) xs) R) (z:α) (hz:enc z = [u]) (hk:∀ x,(enc x).length = 1) (hi:i < xs.length)
  (h:∀ w',St w0 M (rowsA enc e 1 (.slice (some ⟨g,0,none⟩) n c) (xs.set i z) :: R) w'→wpList Tryz.prog ops Q rest (a.put o1.dst undef) w'):AtStore Tryz.prog ops Q o1 ty x y rest a w:=by
 have H':=H.pick hp
 have hown:=H'.ho _ List.mem_cons_self
 rw [rowsA_ho] at hown
 obtain ⟨hlen,hown⟩:=hown
 rcases hown with ⟨h',_⟩ | ⟨g',cap,cs,h',_,hg,h5,h7,h6,h8⟩
 ·cases h'
 ·injection h' with e1 e2 e3
  injection e1 with e1
  injection e1 with e1
  subst e1 e2 e3
  have hlen':(flatG enc xs).length = xs.length:=flatG_len enc 1 hk xs |>.trans (by omega)
  have H2:St w0 M (blk g (.cells cs e) :: R) w:=H'.conv (by rw [rowsA_fp',blk_fp];rfl) fun _=>by rw [blk_ho];exact hg
  refine AtStore.cell H2 hw ho hx hy h1 (cellTy_size (isCellT_ok hr)) Upd.here (by omega) rfl fun w' H3=>h w' ?_
  refine H3.conv (by rw [rowsA_fp',blk_fp];rfl) fun hb=>?_
  rw [blk_ho] at hb
  rw [rowsA_ho]
  refine ⟨by rw [flatG_len enc 1 hk];, .inr ⟨g,c,cs.setIfInBounds i u,by rw [List.length_set],Nat.zero_le _,hb,by rw [List.length_set];exact h5,h7,by simpa using h6,?_⟩⟩
  rw [Array.toList_setIfInBounds,List.length_set,List.take_set,h8,flatG_one hk,flatG_one hk,List.map_set,hz]
  rfl
def AtMakeSlice (P:Program) (ops:Array Oper) (Q:Exit→Act→World→Prop) (o:Oper) (_:TypeId) (_ _:Operand) (rest:List Oper) (a:Act) (w:World):Prop:=wpList P ops Q (o :: rest) a w
theorem isMakeSlice {t:TypeId} {x y:Operand} (h:AtMakeSlice P ops Q ⟨dst,.makeSlice t x y,ty0,pos,aft,gd⟩ t x y rest a w):wpList P ops Q (⟨dst,.makeSlice t x y,ty0,pos,aft,gd⟩ :: rest) a w:=h
theorem run_makeSlice_rows {α:Type} {enc:α→List Value} {t e:TypeId} (hte:sliceO t = some e) {z:Value} {bytes:Nat} (hi:infoO e = some (z,1,bytes)) (z0:α) (hz:z.cells = #[z]) (hz0:enc z0 = [z]) (hk:∀ x,(enc x).length = 1) (n:Nat) (hn:n * bytes≤281474976710656) (h63:n≤16777216) (w:World) :
  ∃ w',(Instr.makeSlice t (.int .i64 (n:Int)) (.int .i64 (n:Int))).run Tryz.prog w = .ok (.slice (some ⟨w.heap.size,0,none⟩) n n) w'∧St w [] [rowsA enc e 1 (.slice (some ⟨w.heap.size,0,none⟩) n n) (List.replicate n z0)] w'∧w'.heap.size = w.heap.size + 1:=by
 obtain ⟨i,h2,h3,h4,h5⟩:=infoO_ok hi
 have hb3:(bytes:Int) * (n:Int)≤281474976710656:=by
  have h9:((n * bytes:Nat):Int)≤281474976710656:=by omega
  rw [Nat.mul_comm] at h9
  rwa [Int.natCast_mul] at h9
 have hrun:=run_makeSlice (P:=Tryz.prog) (w:=w) t e i z (sliceO_ok hte) h2 h3 .i64 .i64 n n (by omega) (Int.le_refl _) (by rw [h4];simp;omega) (by rw [h5];exact hb3) (by omega)
 refine ⟨_,hrun,?_,by simp⟩
 have H:=(St.nil w []).alloc (.cells (madeCells z.cells ((n:Int).toNat * i.size)) e)
 refine H.conv (by rw [rowsA_fp',blk_fp];rfl) fun hb=>?_
 rw [blk_ho] at hb
 have:=rowsA_of_blk (enc:=enc) (k:=1) (xs:=List.replicate n z0) hb (by simp [maxLen];omega) (by rw [hz,h4,toList_madeCells_one,flatG_one hk];simp [hz0]) hk
 simpa using this
theorem AtMakeSlice.go {α:Type} (enc:α→List Value) {t e:TypeId} {x y:Operand} (H:St w0 M L w) (hw:Region.wanted o1 (yielded ops a.tmps) = true) (ho:o1.op = .makeSlice t x y) (n:Nat) (hx:a.eval x = .int .i64 (n:Int)) (hy:a.eval y = .int .i64 (n:Int)) (hte:sliceO t = some e) {z:Value} {bytes:Nat} (hi:infoO e = some (z,1,bytes)) (z0:α) (hz:z.cells = #[z]) (hz0:enc z0 = [z]) (hk:∀ x,(enc x).length = 1) (hn:n * bytes≤281474976710656) (h63:n≤16777216)
  (h:∀ b w',St w0 M (rowsA enc e 1 (.slice (some ⟨b,0,none⟩) n n) (List.replicate n z0) :: L) w'→wpList Tryz.prog ops Q rest (a.put o1.dst (.slice (some ⟨b,0,none⟩) n n)) w'):AtMakeSlice Tryz.prog ops Q o1 t x y rest a w :=
 wpList_step fun _ hK=>by
  rw [if_pos hw]
  obtain ⟨w',hr,hst,_⟩:=run_makeSlice_rows (enc:=enc) hte hi z0 hz hz0 hk n hn h63 w
  unfold Oper.wp execOp
  simp only [ho,hx,hy,Sem.run_bind,hr,Result.andThen_ok,Sem.run_pure]
  exact hK _ _ (h _ _ (H.call0 hst))
end
def encV (v:Value):List Value:=[v]
def encB (b:Bool):List Value:=[.bool b]
def enc8 (n:Nat):List Value:=[.int .u8 n]
theorem encV_len (x:Value):(encV x).length = 1:=rfl
theorem encB_len (x:Bool):(encB x).length = 1:=rfl
theorem enc8_len (x:Nat):(enc8 x).length = 1:=rfl
def CpPost {α:Type} (enc:α→List Value) (e:TypeId) (xs:List α) (w:World) (r:Ending) (w':World):Prop:=∃ g c,r = .returned (.slice (some ⟨g,0,none⟩) xs.length c)∧xs.length≤c∧c≤maxLen∧St w [] [rowsA enc e 1 (.slice (some ⟨g,0,none⟩) xs.length c) xs] w'
theorem cp_of {α:Type} {enc:α→List Value} {e:TypeId} {xs:List α} {w w':World} {v:Value} (hx:0 < xs.length) (ho:w'.ownsRow w.heap.size e 1 v xs.length (flatG enc xs)) (hb:Below w.heap.size w w'):CpPost enc e xs w (.returned v) w':=by
 rcases ho.2 with ⟨_,h2⟩ | ⟨g,cap,cur,h1,h2,h3,h4,h5,h6,h7⟩
 ·omega
 ·subst h1
  refine ⟨g,cap,rfl,h4,h5,hb.os,hb.tape,hb.output,hb.size,fun b hb' _=>hb.block b hb',fun A hA=>?_,fun A hA b hb'=>?_,by simp⟩
  ·simp only [List.mem_singleton] at hA
   subst hA
   rw [rowsA_ho]
   exact ⟨ho.1,.inr ⟨g,cap,cur,rfl,Nat.zero_le _,h3,h4,h5,h6,h7⟩⟩
  ·simp only [List.mem_singleton] at hA
   subst hA
   rw [rowsA_fp'] at hb'
   simp [Value.ownBlock] at hb'
   subst hb'
   exact .inl h2
theorem flatG_get1 {α:Type} {enc:α→List Value} (hk:∀ x,(enc x).length = 1) {xs:List α} {j:Nat} {u:Value} (h:(flatG enc xs)[j]? = some u):∃ x,xs[j]? = some x∧enc x = [u]:=by
 rw [flatG_one hk,List.getElem?_map] at h
 cases hx:xs[j]? with
 |none=>rw [hx] at h;simp at h
 |some x =>
  rw [hx] at h
  refine ⟨x,rfl,?_⟩
  have hl:=hk x
  simp only [Option.map_some,Option.some.injEq] at h
  cases he:enc x with
  |nil=>rw [he] at hl;simp at hl
  |cons b t=>rw [he] at hl h;simp at hl h;subst hl h;rfl
theorem clone_int {P:PoolT} {xs:List Nat} {g o c:Nat} (hx:0 < xs.length) (hm:xs.length≤65536) (hr:RowIn P encI 1 (.slice (some ⟨g,o,none⟩) xs.length c) xs) (w:World) (hp:(poolA P).ho w) :
  Calls Tryz.prog 35 #[.slice (some ⟨g,o,none⟩) xs.length c] w (CpPost encI 3 xs w):=by
 have h:=Tryz.slices_Clone_int g o xs.length c (xs.map Int.ofNat) w (by simp) (by omega) (fun j hj=>by
  obtain ⟨x,hx⟩:∃ x,xs[j]? = some x:=⟨xs[j]'(by simpa using hj),by simp⟩
  rw [hr.cell hp encI_len hx rfl]
  have:(xs.map Int.ofNat).getD j 0 = (x:Int):=by rw [List.getD_eq_getElem?_getD,List.getElem?_map,hx];rfl
  rw [this])
 refine h.mono ?_
 rintro e w' ⟨v',rfl,ho,_,hb⟩
 refine cp_of hx ?_ hb
 have:(xs.map Int.ofNat).take xs.length = xs.map Int.ofNat:=List.take_of_length_le (by simp)
 rw [this] at ho
 have e:flatG encI xs = (xs.map Int.ofNat).map (Value.int .i64):=by rw [flatG_one encI_len,List.map_map];rfl
 rw [e];exact ho
theorem clone_bool {P:PoolT} {xs:List Bool} {g o c:Nat} (hx:0 < xs.length) (hm:xs.length≤65536) (hr:RowIn P encB 1 (.slice (some ⟨g,o,none⟩) xs.length c) xs) (w:World) (hp:(poolA P).ho w) :
  Calls Tryz.prog 61 #[.slice (some ⟨g,o,none⟩) xs.length c] w (CpPost encB 4 xs w):=by
 obtain ⟨i,h2,h3,h4,h5⟩:=infoO_ok (t:=4) (z:=.bool false) (s:=1) (b:=1) (by rfl)
 have h:=Tryz.slices_Clone_f61 i (.bool false) 1 1 h2 h3 h4 h5 rfl (by omega) Tryz.sizeOf4 g o xs.length c (flatG encB xs) w (by rw [flatG_len encB 1 encB_len]) (by simp [maxLen];omega) (by omega) (fun j u hj=>by
  obtain ⟨x,hx,hu⟩:=flatG_get1 encB_len hj
  exact hr.cell hp encB_len hx hu) (fun u hu=>by
  rw [flatG_one encB_len] at hu
  obtain ⟨x,_,rfl⟩:=List.mem_map.1 hu
  rfl)
 refine h.mono ?_
 rintro e w' ⟨v',rfl,ho,_,hb⟩
 exact cp_of hx ho hb
end
section
open Go.RowKit Go.Maps
attribute [local go_sem] InGr
theorem RowIn.hasN {α:Type} {P:PoolT} {enc:α→List Value} {k:Nat} {v:Value} {xs:List α} (h:RowIn P enc k v xs) {N:Nat} (hN:xs.length = N) (hx:0 < N):∃ g o c,v = .slice (some ⟨g,o,none⟩) N c∧RowIn P enc k (.slice (some ⟨g,o,none⟩) N c) xs:=by
 subst hN
 obtain ⟨g,o,c,h1,h2⟩:=h.has hx
 exact ⟨g,o,c,h1,h1 ▸ h⟩
structure MacAt (P:PoolT) (cv nv av:Value) (rvs:List Value) (m:Mc):Prop where
 cls:RowIn P encI 1 cv m.cls
 next:RowIn P encV 1 nv rvs
 len:rvs.length = m.n
 rows:∀ (i:Nat) (rv:Value) (r:List Nat),rvs[i]? = some rv→m.next[i]? = some r→RowIn P encI 1 rv r
 acc:RowIn P encB 1 av m.acc
theorem MacAt.mono {P Q:PoolT} {cv nv av:Value} {rvs:List Value} {m:Mc} (h:MacAt P cv nv av rvs m) (hs:∀ x∈P,x∈Q):MacAt Q cv nv av rvs m :=
 ⟨h.cls.mono hs,h.next.mono hs,h.len,fun i rv r h1 h2=>(h.rows i rv r h1 h2).mono hs,h.acc.mono hs⟩
theorem MacAt.row {P:PoolT} {cv nv av:Value} {rvs:List Value} {m:Mc} {c:Nat} (h:MacAt P cv nv av rvs m) (ok:m.Ok c) {q:Nat} (hq:q < m.n):∃ g o d r,rvs[q]? = some (.slice (some ⟨g,o,none⟩) c d)∧m.next[q]? = some r∧RowIn P encI 1 (.slice (some ⟨g,o,none⟩) c d) r∧r.length = c:=by
 obtain ⟨r,hr,hrl⟩:=ok.row_get hq
 have hq2:q < rvs.length:=by rw [h.len];exact hq
 have hrv:rvs[q]? = some rvs[q]:=by simp
 have hrow:=h.rows q _ r hrv hr
 obtain ⟨g,o,d,he,hrow'⟩:=hrow.hasN hrl ok.c1
 exact ⟨g,o,d,r,by rw [← he];exact hrv,hr,hrow',hrl⟩
theorem mcheck_c {P:PoolT} {cv nv av:Value} {rvs:List Value} {m:Mc} {c:Nat} (ok:m.Ok c) (h:MacAt P cv nv av rvs m) (w:World) (hp:(poolA P).ho w) :
  Calls Tryz.prog 33 #[.agg #[.int .i64 m.start,cv,nv,av]] w fun e w'=>e = .returned .nilIface∧St w [] [] w':=by
 have HK:=Ks.one hp
 have H:=St.nil w []
 have hn1:=ok.n1
 have hn256:=ok.n256
 have hst:=ok.start
 have hc1:=ok.c1
 have hc256:=ok.c256
 have HM:=Lib.hid h
 have HO:=Lib.hid ok
 obtain ⟨gc,oc,cc,rfl,hrc⟩:=h.cls.hasN ok.cls (by omega)
 obtain ⟨gn,on,cn,rfl,hrn⟩:=h.next.hasN h.len (by omega)
 obtain ⟨ga,oa,ca,rfl,hra⟩:=h.acc.hasN ok.acc (by omega)
 obtain ⟨g0,o0,d0,r0,hrv0,hr0,hrow0,hl0⟩:=h.row ok (q:=0) (by omega)
 have HRC:=Lib.hid hrc
 have HRN:=Lib.hid hrn
 have HRV0:=Lib.hid hrv0
 generalize hN:m.n = n at *
 generalize hS:m.start = s at *
 clear h ok hp hrc hrn hra hrv0 hr0 hrow0 hl0
 have hn0:((n:Int) == 0) = false:=by simp;omega
 have hs0:decide ((s:Int) < 0) = false:=by simp
 have hsn:decide (n≤s) = false:=by simp;omega
 have hc0:decide ((c:Int) < 1) = false:=by simp;omega
 have hc9:decide (256 < (c:Int)) = false:=by simp;omega
 go_enter Tryz.func33,Tryz.ntmps33
 go_wp2_with (first | refine sL ?_ | (refine sS ?_;clear H;intros;rename_i H) | ((with_reducible refine isLoad ?_);refine AtLoad.cel rfl rfl rfl rfl (HRN.out.cell (H.known HK pk) encV_len HRV0.out rfl) ?_;simp only [Act.put,puA,puB,puC]))
 rename_i b1 w1 K0 hK0
 go_loopw [56] (fun v wr=>∃ k:Nat,v = .int .i64 k∧k≤n∧St w [] [blk b1 (.cells #[.int .i64 s,.slice (some ⟨gc,oc,none⟩) 256 cc,.slice (some ⟨gn,on,none⟩) n cn,.slice (some ⟨ga,oa,none⟩) n ca] 26)] wr) (fun v _=>n - (intOf v).toNat)
 case atStart=>exact ⟨0,rfl,Nat.zero_le _,H⟩
 case round =>
  clear H
  obtain ⟨k,rfl,hk,H⟩:=hrel
  by_cases hlt:k < n
  ·obtain ⟨gr,or_,dr,r,hrv,hr,hrow,hrl⟩:=HM.out.row HO.out (q:=k) (by omega)
   have HRV:=Lib.hid hrv
   have HROW:=Lib.hid hrow
   have HR:=Lib.hid hr
   have HRL:=Lib.hid hrl
   clear hrv hr hrow hrl
   go_wp2_with (first | refine sL ?_ | (refine sS ?_;clear H;intros;rename_i H) | ((with_reducible refine isLoad ?_);refine AtLoad.cel rfl rfl rfl rfl (HRN.out.cell (H.known HK pk) encV_len HRV.out rfl) ?_;simp only [Act.put,puA,puB,puC]))
   go_loopw [67] (fun v wr=>∃ j:Nat,v = .int .i64 j∧j≤c∧St w [] [blk b1 (.cells #[.int .i64 s,.slice (some ⟨gc,oc,none⟩) 256 cc,.slice (some ⟨gn,on,none⟩) n cn,.slice (some ⟨ga,oa,none⟩) n ca] 26)] wr) (fun v _=>c - (intOf v).toNat)
   case atStart=>exact ⟨0,rfl,Nat.zero_le _,H⟩
   case round =>
    clear H
    obtain ⟨j,rfl,hj,H⟩:=hrel
    by_cases hltj:j < c
    ·obtain ⟨x,hx⟩:∃ x,r[j]? = some x:=⟨r[j]'(by rw [HRL.out];exact hltj),by simp⟩
     have hxn:x < n:=by rw [← hN];exact HO.out.rowLt k j x r HR.out hx
     have HX:=Lib.hid hx
     have hx0:decide ((x:Int) < 0) = false:=by simp
     have hxn2:decide (n≤x) = false:=by simp;omega
     clear hx
     go_wp2_with (first | refine sL ?_ | (refine sS ?_;clear H;intros;rename_i H) | ((with_reducible refine isLoad ?_);refine AtLoad.cel rfl rfl rfl rfl (HROW.out.cell (H.known HK pk) encI_len HX.out rfl) ?_;simp only [Act.put,puA,puB,puC]))
     exact ⟨⟨j + 1,by go_num,by omega,H⟩,by simp [intOf];omega⟩
    ·go_wp2_with (first | refine sL ?_ | (refine sS ?_;clear H;intros;rename_i H))
     exact ⟨⟨k + 1,by go_num,by omega,H⟩,by simp [intOf];omega⟩
  ·obtain rfl:n = k:=by omega
   go_wp2_with (first | refine sL ?_ | (refine sS ?_;clear H;intros;rename_i H))
   go_loopw [84] (fun v wr=>∃ j:Nat,v = .int .i64 j∧j≤256∧St w [] [blk b1 (.cells #[.int .i64 s,.slice (some ⟨gc,oc,none⟩) 256 cc,.slice (some ⟨gn,on,none⟩) n cn,.slice (some ⟨ga,oa,none⟩) n ca] 26)] wr) (fun v _=>256 - (intOf v).toNat)
   case atStart=>exact ⟨0,rfl,Nat.zero_le _,H⟩
   case round =>
    clear H
    obtain ⟨j,rfl,hj,H⟩:=hrel
    by_cases hltj:j < 256
    ·obtain ⟨x,hx,hxc⟩:=HO.out.cls_get hltj
     have HX:=Lib.hid hx
     have hx0:decide ((x:Int) < 0) = false:=by simp
     have hxn2:decide (c≤x) = false:=by simp;omega
     clear hx
     go_wp2_with (first | refine sL ?_ | (refine sS ?_;clear H;intros;rename_i H) | ((with_reducible refine isLoad ?_);refine AtLoad.cel rfl rfl rfl rfl (HRC.out.cell (H.known HK pk) encI_len HX.out rfl) ?_;simp only [Act.put,puA,puB,puC]))
     exact ⟨⟨j + 1,by go_num,by omega,H⟩,by simp [intOf];omega⟩
    ·obtain rfl:j = 256:=by omega
     go_wp2_with (first | refine sL ?_ | (refine sS ?_;clear H;intros;rename_i H))
     go_ret
     exact ⟨rfl,H.nix⟩
end
section
open Go.RowKit
section
variable {P:Program} {Q:Exit→Act→World→Prop} {a:Act} {w w0:World} {M:List Nat} {L R:List As}
abbrev FSq:=Nat × (Value→Prop) × (Value→As)
def NewF (n0:Nat) (V:Value→Prop) (Y:Value→As) (v:Value) (w:World):Prop:=V v∧(∃ b,blkOf v = some b∧n0≤b∧(Y v).fp = [b])∧(Y v).ho w
theorem NewF.stable (n0:Nat) (V:Value→Prop) (Y:Value→As):∀ v w w',Grew w w'→NewF n0 V Y v w→NewF n0 V Y v w':=fun v w w' hg ⟨h1,h2,h3⟩ =>
 ⟨h1,h2,(Y v).loc w w' (fun b hb=>hg.block b ((Y v).lt w h3 b hb)) h3⟩
def relG (n0:Nat) (Fs:List FSq):List (Nat × (Value→World→Prop)):=Fs.map fun f=>(f.1,NewF n0 f.2.1 f.2.2)
def assG (vals:Nat→Value):Nat→List FSq→List As
 |_,[]=>[]
 |k,f :: Fs=>f.2.2 (vals (k + f.1)) :: assG vals (k + f.1 + 1) Fs
def factG (vals:Nat→Value):Nat→List FSq→Prop
 |_,[]=>True
 |k,f :: Fs=>f.2.1 (vals (k + f.1))∧factG vals (k + f.1 + 1) Fs
theorem placesG_rel (n0:Nat):∀ (Fs:List FSq),nsF (relG n0 Fs) = Fs.map (·.1)
 |[]=>rfl
 |_ :: Fs=>by simp only [nsF,relG,List.map_cons];exact congrArg _ (placesG_rel n0 Fs)
theorem stableG_rel (n0:Nat):∀ (Fs:List FSq),StableF (relG n0 Fs)
 |[]=>trivial
 |_ :: Fs=>⟨NewF.stable _ _ _,stableG_rel n0 Fs⟩
theorem factG_rel {n0:Nat} {vals:Nat→Value} {w':World}:∀ (Fs:List FSq) (k:Nat),EachF vals w' k (relG n0 Fs)→factG vals k Fs
 |[],_,_=>trivial
 |f :: Fs,k,h=>by
  obtain ⟨h1,h2⟩:=h
  exact ⟨h1.1,factG_rel Fs _ h2⟩
theorem eachG_rel {n0:Nat} {vals:Nat→Value} {w':World}:∀ (Fs:List FSq) (k:Nat),EachF vals w' k (relG n0 Fs)→∀ i∈placesN k (Fs.map (·.1)),∃ b,blkOf (vals i) = some b∧n0≤b
 |[],_,_,i,hi=>by simp [placesN] at hi
 |f :: Fs,k,h,i,hi=>by
  obtain ⟨⟨_,⟨b,hb1,hb2,_⟩,_⟩,h2⟩:=h
  simp only [List.map_cons,placesN,List.mem_cons] at hi
  rcases hi with rfl | hi
  ·exact ⟨b,hb1,hb2⟩
  ·exact eachG_rel Fs _ h2 i hi
theorem assG_st {n0:Nat} {vals:Nat→Value} {w':World} (H:St w0 M L w') (hn0:w0.heap.size≤n0) (hL:∀ A∈L,∀ b∈A.fp,b < n0):∀ (Fs:List FSq) (k:Nat),EachF vals w' k (relG n0 Fs) →
  (∀ i∈placesN k (Fs.map (·.1)),∀ j∈placesN k (Fs.map (·.1)),i≠j→blkOf (vals i)≠blkOf (vals j)) →
  St w0 M (assG vals k Fs ++ L) w'∧∀ A∈assG vals k Fs,∃ i∈placesN k (Fs.map (·.1)),A.fp = [(blkOf (vals i)).getD 0]
 |[],_,_,_=>⟨H,by simp [assG]⟩
 |f :: Fs,k,h,hd=>by
  obtain ⟨⟨_,⟨b,hb1,hb2,hb3⟩,hb4⟩,h2⟩:=h
  have hsub:∀ i,i∈placesN (k + f.1 + 1) (Fs.map (·.1))→i∈placesN k ((f :: Fs).map (·.1)):=fun i hi=>by simp only [List.map_cons,placesN,List.mem_cons];exact .inr hi
  obtain ⟨ih,ihf⟩:=assG_st H hn0 hL Fs (k + f.1 + 1) h2 (fun i hi j hj=>hd i (hsub i hi) j (hsub j hj))
  have e:(blkOf (vals (k + f.1))).getD 0 = b:=by rw [hb1];rfl
  have hk:k + f.1∈placesN k ((f :: Fs).map (·.1)):=by simp [placesN]
  simp only [assG,List.cons_append]
  refine ⟨⟨ih.os,ih.tape,ih.output,ih.size,ih.keep,fun A hA=>?_,fun A hA c hc=>?_,List.pairwise_cons.2 ⟨fun A hA c hc=>?_,ih.dis⟩⟩,fun A hA=>?_⟩
  ·rcases List.mem_cons.1 hA with rfl | hA
   ·exact hb4
   ·exact ih.ho A hA
  ·rcases List.mem_cons.1 hA with rfl | hA
   ·rw [hb3] at hc;simp at hc;subst hc;exact .inl (Nat.le_trans hn0 hb2)
   ·exact ih.own A hA c hc
  ·rw [hb3] at hc
   simp at hc
   subst hc
   rcases List.mem_append.1 hA with hA | hA
   ·obtain ⟨i,hi,hf⟩:=ihf A hA
    rw [hf]
    have hne:k + f.1≠i:=by have:=placesN_ge _ _ _ hi;omega
    have:=hd (k + f.1) hk i (hsub i hi) hne
    obtain ⟨b',hb',_⟩:=eachG_rel Fs _ h2 i hi
    rw [hb1,hb'] at this
    rw [hb']
    simpa using this
   ·intro hc
    have:=hL A hA _ hc
    omega
  ·rcases List.mem_cons.1 hA with rfl | hA
   ·exact ⟨k + f.1,hk,by rw [hb3,e]⟩
   ·obtain ⟨i,hi,hf⟩:=ihf A hA
    exact ⟨i,hsub i hi,hf⟩
theorem wp_region_f {id:Nat} {l:List Oper} (H:St w0 M L w) (m:Nat) (Fs:List FSq) (S:List (Nat × Tmp)) (hm:P.follows .mixedOrders = true)
  (hB:qaB l m (Fs.map (·.1)) S = true) (h:∃ A:Act,(∀ w1,w.heap.size≤w1.heap.size→(∀ x:Gr w1,St w0 M L x.1)→wpSegs P l.toArray w1 (fun a'=>a' = A) (relG w.heap.size Fs) (l.take m) a) ∧
  ∀ (vals:Nat→Value) (w':World),factG vals 0 Fs→St w0 M (assG vals 0 Fs ++ L) w'→wpList P l.toArray Q (l.drop m) (putS S vals A) w'):(Code.region id l.toArray true).wp P Q a w:=by
 obtain ⟨A,hA,fin⟩:=h
 have hS:S.map (·.1) = placesN 0 (Fs.map (·.1)):=by
  simp only [qaB,Bool.and_eq_true,decide_eq_true_eq] at hB
  exact hB.1.1.2
 refine wp_region_qa m (relG w.heap.size Fs) S hm (by rw [placesG_rel];exact hB) (stableG_rel _ _) A (fun w1 hg=>hA w1 hg.size fun x=>H.grew (Grew.trans hg x.2)) fun vals w' hg hE hd=>?_
 rw [hS] at hd
 obtain ⟨h1,_⟩:=assG_st (H.grew hg) H.size (fun A hA b hb=>H.fpLt hA b hb) Fs 0 hE hd
 exact fin vals w' (factG_rel Fs 0 hE) h1
theorem exec_call {o:Oper} {f:FuncId} {xs:Array Operand} {ts:Array TypeId} {fn:Func} (hf:P.funcs[f]? = some fn) (hok:(fn.name != "runtime.NumGoroutine" && fn.body.isSome) = true) (ho:o.op = .call ⟨.value (.func f),xs,ts⟩) (w':World):(execOp a.eval o).run P w' = .ok (.enter f (xs.map a.eval)) w':=by
 simp only [Bool.and_eq_true,bne_iff_ne,ne_eq] at hok
 obtain ⟨h1,h2⟩:=hok
 have h3:¬ fn.body = none:=by intro h;rw [h] at h2;simp at h2
 unfold execOp
 simp [ho,resolve,invoke,Act.eval,Sem.run_bind,Sem.run_pure,Result.andThen_ok,Deferred.ofValue,callFunc,hf,h1,h3]
theorem fstep_call {ops:Array Oper} {w1:World} {o:Oper} {n:Nat} {V:Value→Prop} {Y:Value→As} {f:FuncId} {xs:Array Operand} {ts:Array TypeId} {args:Array Value} {fn:Func} (hf:P.funcs[f]? = some fn) (hok:(fn.name != "runtime.NumGoroutine" && fn.body.isSome) = true) (hgd:Region.wanted o (yielded ops a.tmps) = true) (ho:o.op = .call ⟨.value (.func f),xs,ts⟩) (hargs:xs.map a.eval = args) (hn:n≤w1.heap.size)
  (hc:∀ x:Gr w1,Calls P f args x.1 fun e w''=>∃ v,e = .returned v∧V v∧St x.1 [] [Y v] w''∧∃ b,blkOf v = some b∧(Y v).fp = [b]):FStep P ops w1 o a (NewF n V Y):=by
 refine ⟨hgd,fun w' hg=>?_⟩
 unfold growAt
 rw [exec_call hf hok ho,hargs]
 refine ⟨Below.refl _ _,(hc ⟨w',hg⟩).mono ?_⟩
 rintro e w'' ⟨v,rfl,hV,hs,b,hb,hfp⟩
 have hbn:=hs.own (Y v) (by simp) b (by rw [hfp];simp)
 have hbl:=hs.fpLt (A:=Y v) (by simp) b (by rw [hfp];simp)
 rcases hbn with hbn | hbn
 ·exact ⟨v,rfl,hs.below,⟨hV,⟨b,hb,Nat.le_trans hn (Nat.le_trans hg.size hbn),hfp⟩,hs.ho _ (by simp)⟩,b,hb,hbn,hbl⟩
 ·simp at hbn
theorem fstep_call1 {ops:Array Oper} {w1:World} {o:Oper} {n:Nat} {V:Value→Prop} {Y:Value→As} {f:FuncId} {x:Operand} {ts:Array TypeId} {v1:Value} {fn:Func} (hf:P.funcs[f]? = some fn) (hok:(fn.name != "runtime.NumGoroutine" && fn.body.isSome) = true) (hgd:Region.wanted o (yielded ops a.tmps) = true) (ho:o.op = .call ⟨.value (.func f),#[x],ts⟩) (hx:evalO a x = some v1) (hn:n≤w1.heap.size)
  (hc:∀ x:Gr w1,Calls P f #[v1] x.1 fun e w''=>∃ v,e = .returned v∧V v∧St x.1 [] [Y v] w''∧∃ b,blkOf v = some b∧(Y v).fp = [b]):FStep P ops w1 o a (NewF n V Y) :=
 fstep_call hf hok hgd ho (by simp [evalO_eq hx]) hn hc
end
end
section
open Go.RowKit Go.Maps
attribute [local go_sem] InGr
theorem fill_next {α:Type} {xs:List α} {k n:Nat} (hx:xs.length = k) (hk:k < n) (z v:α):(xs ++ List.replicate (n - k) z).set k v = (xs ++ [v]) ++ List.replicate (n - (k + 1)) z:=by
 obtain ⟨d,hd⟩:∃ d,n - k = d + 1:=⟨n - k - 1,by omega⟩
 rw [hd,show n - (k + 1) = d by omega,List.replicate_succ,List.set_append_right _ _ (by omega),hx,Nat.sub_self]
 simp
theorem fill_len {α:Type} {xs:List α} {k n:Nat} (hx:xs.length = k) (hk:k≤n) (z:α):(xs ++ List.replicate (n - k) z).length = n:=by simp [hx];omega
def CloPost (m:Mc) (w:World) (e:Ending) (w':World):Prop:=∃ cv nv av rvs P,e = .returned (.agg #[.int .i64 m.start,cv,nv,av])∧MacAt P cv nv av rvs m∧St w [] [poolA P] w'
theorem clone_c {P:PoolT} {cv nv av:Value} {rvs:List Value} {m:Mc} {c:Nat} (ok:m.Ok c) (h:MacAt P cv nv av rvs m) (w:World) (hp:(poolA P).ho w) :
  Calls Tryz.prog 34 #[.agg #[.int .i64 m.start,cv,nv,av]] w (CloPost m w):=by
 have HK:=Ks.one hp
 have H:=St.nil w []
 have hn1:=ok.n1
 have hn256:=ok.n256
 have hc1:=ok.c1
 have hc256:=ok.c256
 have HM:=Lib.hid h
 have HO:=Lib.hid ok
 obtain ⟨gc,oc,cc,rfl,hrc⟩:=h.cls.hasN ok.cls (by omega)
 obtain ⟨gn,on,cn,rfl,hrn⟩:=h.next.hasN h.len (by omega)
 obtain ⟨ga,oa,ca,rfl,hra⟩:=h.acc.hasN ok.acc (by omega)
 have HRN:=Lib.hid hrn
 have HC1:Hid (∀ w,(poolA P).ho w→Calls Tryz.prog 35 #[.slice (some ⟨gc,oc,none⟩) 256 cc] w (CpPost encI 3 m.cls w)):=Lib.hid fun w hp=>by
  have:=clone_int (P:=P) (xs:=m.cls) (g:=gc) (o:=oc) (c:=cc) (by rw [ok.cls];omega) (by rw [ok.cls];omega) (by rw [ok.cls];exact hrc) w hp
  rwa [ok.cls] at this
 have HC2:Hid (∀ w,(poolA P).ho w→Calls Tryz.prog 61 #[.slice (some ⟨ga,oa,none⟩) m.n ca] w (CpPost encB 4 m.acc w)):=Lib.hid fun w hp=>by
  have:=clone_bool (P:=P) (xs:=m.acc) (g:=ga) (o:=oa) (c:=ca) (by rw [ok.acc];omega) (by rw [ok.acc];omega) (by rw [ok.acc];exact hra) w hp
  rwa [ok.acc] at this
 have hcl:=Lib.hid ok.cls
 have hal:=Lib.hid ok.acc
 generalize hN:m.n = n at *
 generalize hS:m.start = s at *
 clear h ok hp hrc hrn hra
 go_enter Tryz.func34,Tryz.ntmps34
 go_wp2_with (first | refine sL ?_ | (refine sS ?_;clear H;intros;rename_i H) | ((with_reducible refine isMakeSlice ?_);refine AtMakeSlice.go encV H rfl rfl n rfl rfl rfl rfl (.slice none 0 0) rfl rfl encV_len (by omega) (by omega) ?_;clear H;intro bn _ H;simp only [Act.put,puA,puB,puC]))
 rename_i b1 _ b2 _ _ _ _
 replace H:=(H.pick3 (A:=rowsA encV 22 1 (.slice (some ⟨bn,0,none⟩) n n) (List.replicate n (.slice none 0 0))) (B:=blk b1 (.cells #[.int .i64 s,.slice (some ⟨gc,oc,none⟩) 256 cc,.slice (some ⟨gn,on,none⟩) n cn,.slice (some ⟨ga,oa,none⟩) n ca] 26)) (C:=blk b2 (.cells #[.int .i64 0,.slice none 0 0,.slice none 0 0,.slice none 0 0] 26)) pk pk pk)
 go_loopw [13] (fun v wr=>∃ (k:Nat) (P2:PoolT) (rv2:List Value),v = .int .i64 k∧k≤n∧rv2.length = k∧(∀ (i:Nat) (rv:Value) (r:List Nat),rv2[i]? = some rv→m.next[i]? = some r→RowIn P2 encI 1 rv r) ∧
  St w [] [poolA P2,rowsA encV 22 1 (.slice (some ⟨bn,0,none⟩) n n) (rv2 ++ List.replicate (n - k) (.slice none 0 0)),blk b1 (.cells #[.int .i64 s,.slice (some ⟨gc,oc,none⟩) 256 cc,.slice (some ⟨gn,on,none⟩) n cn,.slice (some ⟨ga,oa,none⟩) n ca] 26),blk b2 (.cells #[.int .i64 0,.slice none 0 0,.slice none 0 0,.slice none 0 0] 26)] wr) (fun v _=>n - (intOf v).toNat)
 case atStart=>exact ⟨0,[],[],rfl,Nat.zero_le _,rfl,by simp,H.empty (poolA_nil _) (by rw [poolA_fp];rfl)⟩
 case round =>
  clear H
  obtain ⟨k,P2,rv2,rfl,hk,hl2,hrows,H⟩:=hrel
  have HRS:=Lib.hid hrows
  clear hrows
  by_cases hlt:k < n
  ·obtain ⟨gr,or_,dr,r,hrv,hr,hrow,hrl⟩:=HM.out.row HO.out (q:=k) (by omega)
   have HRV:=Lib.hid hrv
   have HR:=Lib.hid hr
   have HCR:Hid (∀ w,(poolA P).ho w→Calls Tryz.prog 35 #[.slice (some ⟨gr,or_,none⟩) c dr] w (fun e w'=>∃ g d,e = .returned (.slice (some ⟨g,0,none⟩) c d)∧c≤d∧d≤maxLen∧St w [] [rowsA encI 3 1 (.slice (some ⟨g,0,none⟩) c d) r] w')):=Lib.hid fun w hp=>by
    have:=clone_int (P:=P) (xs:=r) (g:=gr) (o:=or_) (c:=dr) (by omega) (by omega) (by rw [hrl];exact hrow) w hp
    rw [hrl] at this
    refine this.mono ?_
    rintro e w' ⟨g,d,he,h1,h2,h3⟩
    rw [hrl] at he h1 h3
    exact ⟨g,d,he,h1,h2,h3⟩
   have HL2:=Lib.hid hl2
   clear hrv hr hrow hrl hl2
   go_wp2_with (first | refine sL ?_ | (refine sS ?_;clear H;intros;rename_i H) | ((with_reducible refine isLoad ?_);refine AtLoad.cel rfl rfl rfl rfl (HRN.out.cell (H.known HK pk) encV_len HRV.out rfl) ?_;simp only [Act.put,puA,puB,puC]) | (go_at_call 35;with_reducible refine Calls.mono (HCR.out _ (H.known HK pk)) ?_;rintro e wc ⟨g3,d3,rfl,_,_,hb⟩;replace H:=H.call0 hb;clear hb;simp only [List.cons_append,List.nil_append] at H) | ((with_reducible refine isStore ?_);refine AtStore.rowA (enc:=encV) (n:=n) (c:=n) H rfl rfl rfl rfl rfl rfl pk _ rfl encV_len (by rw [fill_len HL2.out hk];exact hlt) ?_;clear H;intro _ H;simp only [Act.put,puA,puB,puC]))
   rw [fill_next HL2.out hlt] at H
   obtain ⟨Q,hQ,H⟩:=(H.pick (A:=rowsA encI 3 1 (.slice (some ⟨g3,0,none⟩) c d3) r) pk).to_pool encI_len
   replace H:=(H.pick (A:=poolA P2) pk).pool_add
   refine ⟨⟨k + 1,P2 ++ Q,rv2 ++ [.slice (some ⟨g3,0,none⟩) c d3],by go_num,by omega,by simp [HL2.out],?_,H⟩,by simp [intOf];omega⟩
   intro i rv r' h1 h2
   rw [List.getElem?_append] at h1
   split at h1
   ·exact (HRS.out i rv r' h1 h2).mono fun x hx=>List.mem_append.2 (.inl hx)
   ·have hl:=getElem_len h1
    have hkl:=HL2.out
    simp at hl
    obtain rfl:i = k:=by omega
    rw [hkl,Nat.sub_self] at h1
    simp at h1
    subst h1
    rw [HR.out] at h2
    obtain rfl:=Option.some.inj h2
    exact hQ.mono fun x hx=>List.mem_append.2 (.inr hx)
  ·go_wp2_with (first | refine sL ?_ | (refine sS ?_;clear H;intros;rename_i H))
   obtain rfl:k = n:=by omega
   have HL2:=Lib.hid hl2
   simp only [Nat.sub_self,List.replicate_zero,List.append_nil] at H
   clear hl2
   refine wp_region_f H 9 [(4,fun v=>∃ g d,v = .slice (some ⟨g,0,none⟩) 256 d,fun v=>rowsA encI 3 1 v m.cls),(3,fun v=>∃ g d,v = .slice (some ⟨g,0,none⟩) k d,fun v=>rowsA encB 4 1 v m.acc)] [(4,28),(8,32)] (by kernel_rfl) (by kernel_rfl) ?_
   apply Exists.intro
   refine ⟨fun w1 hw1 HX=>?_,fun vals wr HV Hr=>?_⟩
   ·simp only [wpSegs,relG,List.map_cons,List.map_nil,List.take_succ_cons,List.take_zero,List.drop_succ_cons,List.drop_zero]
    repeat (first | refine sQ ?_ | go_big_quiet_step (fail))
    apply wpQuiet_nil
    refine ⟨fstep_call1 Tryz.func35 (by kernel_rfl) rfl rfl rfl hw1 fun x=>(HC1.out _ ((HX x).known HK pk)).mono ?_,?_⟩
    ·rintro e w' ⟨g,d,rfl,_,_,hs⟩
     rw [hcl.out] at hs ⊢
     exact ⟨_,rfl,⟨g,d,rfl⟩,hs,g,rfl,by rw [rowsA_fp'];rfl⟩
    simp only [Act.put,puA,puB,puC]
    repeat (first | refine sQ ?_ | go_big_quiet_step (fail))
    apply wpQuiet_nil
    refine ⟨fstep_call1 Tryz.func61 (by kernel_rfl) rfl rfl rfl hw1 fun x=>(HC2.out _ ((HX x).known HK pk)).mono ?_,?_⟩
    ·rintro e w' ⟨g,d,rfl,_,_,hs⟩
     rw [hal.out] at hs ⊢
     exact ⟨_,rfl,⟨g,d,rfl⟩,hs,g,rfl,by rw [rowsA_fp'];rfl⟩
    simp only [Act.put,puA,puB,puC]
    exact wpQuiet_nil rfl
   ·clear H
    have H:=Hr
    clear Hr
    obtain ⟨⟨g1,d1,e1⟩,⟨g2,d2,e2⟩,_⟩:=HV
    replace e1:vals 4 = _:=e1
    replace e2:vals 8 = _:=e2
    replace H:St w [] (rowsA encI 3 1 (vals 4) m.cls :: rowsA encB 4 1 (vals 8) m.acc :: _) _:=H
    rw [e1,e2] at H
    simp only [putS,List.foldl_cons,List.foldl_nil,Act.put,List.setIfInBounds_toArray,List.set_cons_zero,List.set_cons_succ,List.drop_succ_cons,List.drop_zero,e1,e2]
    clear e1 e2
    go_wp2_with (first | refine sL ?_ | (refine sS ?_;clear H;intros;rename_i H))
    refine bodyPost_ret (res_row rfl H rfl pk rfl) rfl ?_
    obtain ⟨Q1,q1,H⟩:=H.to_pool encI_len
    obtain ⟨Q2,q2,H⟩:=(H.pick (A:=rowsA encB 4 1 (.slice (some ⟨g2,0,none⟩) k d2) m.acc) pk).to_pool encB_len
    obtain ⟨Q3,q3,H⟩:=(H.pick (A:=rowsA encV 22 1 (.slice (some ⟨bn,0,none⟩) k k) rv2) pk).to_pool encV_len
    replace H:=H.pool_add.pool_add.pool_add
    refine ⟨_,_,_,rv2,_,by rw [hS],⟨q1.mono fun x hx=>?_,q3.mono fun x hx=>?_,by rw [HL2.out,hN],fun i rv r h1 h2=>(HRS.out i rv r h1 h2).mono fun x hx=>?_,q2.mono fun x hx=>?_⟩,H.onlyHead⟩
    all_goals simp only [List.mem_append]
    ·exact .inl (.inr hx)
    ·exact .inl (.inl (.inl hx))
    ·exact .inr hx
    ·exact .inl (.inl (.inr hx))
end
section
structure Pt where
 id:Nat
 power:Nat
 times:Nat
structure Pc where
 id:Nat
 at_:Nat
 n:Nat
def Sto.ptTxt (S:Sto) (p:Pt):List Nat:=rep p.times (S.txt p.id)
def Sto.pcTxt (S:Sto) (p:Pc):List Nat:=((S.txt p.id).drop p.at_).take p.n
theorem Sto.pcTxt_nul (S:Sto) (p:Pc) (h:p.n = 0):S.pcTxt p = []:=by simp [pcTxt,h]
theorem Sto.pcTxt_zero (S:Sto) (p:Pc) (h:p.id = 0):S.pcTxt p = []:=by simp [pcTxt,h,S.txt_zero]
theorem Sto.pcTxt_split (S:Sto) (i s a b:Nat):S.pcTxt ⟨i,s,a + b⟩ = S.pcTxt ⟨i,s,a⟩ ++ S.pcTxt ⟨i,s + a,b⟩:=by
 simp only [pcTxt]
 rw [List.take_add,List.drop_drop]
def Sto.Closed (S:Sto) (K:Nat→Prop):Prop:=∀ (i:Nat) (x:En),K (i + 1)→S.list[i]? = some x→(x.r.kind = 2→K x.r.left∧K x.r.right)∧(x.r.kind = 3→K x.r.left)
structure PtOk (S:Sto) (K:Nat→Prop) (p:Pt):Prop where
 pos:1≤p.id
 le:p.id≤S.list.length
 known:K p.id
 times:1≤p.times
 copies:p.times = 1∨∃ (i:Nat) (x:En) (k:Nat),p.power = i + 1∧K (i + 1)∧S.list[i]? = some (powerE x p.id k)∧p.times≤k
structure PcOk (S:Sto) (K:Nat→Prop) (p:Pc):Prop where
 le:p.id≤S.list.length
 known:p.id = 0∨K p.id
 fits:p.at_ + p.n≤(S.txt p.id).length
inductive Cost (S:Sto) (p:Pc):Nat→Prop
 |nul (h:p.n = 0):Cost S p 1
 |full (h:(S.txt p.id).length≤p.n):Cost S p 1
 |copies (i:Nat) (x:En) (l k:Nat) (hi:p.id = i + 1) (hx:S.list[i]? = some (powerE x (l + 1) k)) (h1:p.at_ % (S.txt (l + 1)).length = 0) (h2:p.n % (S.txt (l + 1)).length = 0):Cost S p 1
 |side (h:p.at_ = 0∨p.at_ + p.n = (S.txt p.id).length) (hp:1≤p.id):Cost S p (3 * p.id)
 |any (hp:1≤p.id):Cost S p (6 * p.id)
theorem Cost.pos {S:Sto} {p:Pc} {c:Nat} (h:Cost S p c):1≤c:=by
 cases h <;> omega
inductive CostL (S:Sto):List Pc→Nat→Prop
 |nil:CostL S [] 0
 |cons {p:Pc} {st:List Pc} {c d:Nat} (h:Cost S p c) (hs:CostL S st d):CostL S (p :: st) (c + d)
theorem CostL.len {S:Sto} {st:List Pc} {d:Nat} (h:CostL S st d):st.length≤d:=by
 induction h with
 |nil=>simp
 |cons h hs ih=>have:=h.pos;simp;omega
theorem CostL.append {S:Sto} {a b:List Pc} {c d:Nat} (ha:CostL S a c) (hb:CostL S b d):CostL S (a ++ b) (c + d):=by
 induction ha with
 |nil=>simpa using hb
 |cons h hs ih=>rw [List.cons_append,Nat.add_assoc];exact .cons h ih
theorem CostL.one {S:Sto} {p:Pc} {c:Nat} (h:Cost S p c):CostL S [p] c:=by have:=CostL.cons h .nil;simpa using this
theorem CostL.two {S:Sto} {p q:Pc} {c d:Nat} (h:Cost S p c) (k:Cost S q d):CostL S [p,q] (c + d):=.cons h (.one k)
theorem CostL.three {S:Sto} {p q r:Pc} {c d e:Nat} (h:Cost S p c) (k:Cost S q d) (j:Cost S r e):CostL S [p,q,r] (c + (d + e)):=.cons h (.two k j)
section
variable {S:Sto} {K:Nat→Prop}
theorem pair_hi {i l r s n:Nat} {x y:En} (hl:l < i) (hr:r < i) (hx:S.list[i]? = some (pairE x y (l + 1) (r + 1))) (hK:S.Closed K) (h:PcOk S K ⟨i + 1,s,n⟩) (hs:(S.txt (l + 1)).length≤s) {c:Nat} (hc:Cost S ⟨i + 1,s,n⟩ c) (hn:0 < n) (hf:n < (S.txt (i + 1)).length) :
  S.pcTxt ⟨i + 1,s,n⟩ = S.pcTxt ⟨r + 1,s - (S.txt (l + 1)).length,n⟩∧PcOk S K ⟨r + 1,s - (S.txt (l + 1)).length,n⟩∧∃ d,Cost S ⟨r + 1,s - (S.txt (l + 1)).length,n⟩ d∧d < c:=by
 have hi:=getElem_len hx
 have ht:=S.txt_pair hl hr hx
 have hlen:(S.txt (i + 1)).length = (S.txt (l + 1)).length + (S.txt (r + 1)).length:=by rw [ht,List.length_append]
 have hfit:=h.fits
 simp only at hfit
 refine ⟨?_,⟨by simp only;omega,?_,by simp only;omega⟩,?_⟩
 ·simp only [Sto.pcTxt,ht]
  rw [List.drop_append,List.drop_of_length_le hs,List.nil_append]
 ·rcases h.known with hk | hk
  ·cases hk
  ·exact .inr ((hK i _ hk hx).1 rfl).2
 ·cases hc with
  |nul h'=>simp only at h';omega
  |full h'=>simp only at h';omega
  |copies i' x' l' k' hi' hx' h1 h2 =>
   simp only [Nat.add_right_cancel_iff] at hi'
   subst hi'
   rw [hx] at hx'
   simp [pairE,powerE] at hx'
  |side h' hp =>
   refine ⟨3 * (r + 1),.side ?_ (by simp),by simp only;omega⟩
   simp only at h' ⊢
   rcases h' with h' | h'
   ·left;omega
   ·right;omega
  |any hp=>exact ⟨6 * (r + 1),.any (by simp),by simp only;omega⟩
theorem pair_lo {i l r s n n':Nat} {x y:En} (hl:l < i) (hr:r < i) (hx:S.list[i]? = some (pairE x y (l + 1) (r + 1))) (hK:S.Closed K) (h:PcOk S K ⟨i + 1,s,n⟩) (hs:s < (S.txt (l + 1)).length) (hn':n' = min n ((S.txt (l + 1)).length - s)) {c:Nat} (hc:Cost S ⟨i + 1,s,n⟩ c) (hn:0 < n) (hf:n < (S.txt (i + 1)).length) :
  S.pcTxt ⟨i + 1,s,n⟩ = S.pcTxt ⟨l + 1,s,n'⟩ ++ S.pcTxt ⟨r + 1,0,n - n'⟩∧PcOk S K ⟨l + 1,s,n'⟩∧PcOk S K ⟨r + 1,0,n - n'⟩∧∃ d e,Cost S ⟨l + 1,s,n'⟩ d∧Cost S ⟨r + 1,0,n - n'⟩ e∧d + e < c:=by
 have hi:=getElem_len hx
 have ht:=S.txt_pair hl hr hx
 have hlen:(S.txt (i + 1)).length = (S.txt (l + 1)).length + (S.txt (r + 1)).length:=by rw [ht,List.length_append]
 have hfit:=h.fits
 simp only at hfit
 have hkn:K (l + 1)∧K (r + 1):=by
  rcases h.known with hk | hk
  ·cases hk
  ·exact (hK i _ hk hx).1 rfl
 refine ⟨?_,⟨by simp only;omega,.inr hkn.1,by simp only;omega⟩,⟨by simp only;omega,.inr hkn.2,by simp only;omega⟩,?_⟩
 ·simp only [Sto.pcTxt,ht,List.drop_zero]
  rw [List.drop_append_of_le_length (by omega),List.take_append,List.length_drop]
  congr 1
  ·by_cases hle:n≤(S.txt (l + 1)).length - s
   ·rw [hn',Nat.min_eq_left hle]
   ·rw [List.take_of_length_le (by simp;omega),List.take_of_length_le (by simp;omega)]
  ·congr 1;omega
 ·cases hc with
  |nul h'=>simp only at h';omega
  |full h'=>simp only at h';omega
  |copies i' x' l' k' hi' hx' h1 h2 =>
   simp only [Nat.add_right_cancel_iff] at hi'
   subst hi'
   rw [hx] at hx'
   simp [pairE,powerE] at hx'
  |side h' hp =>
   simp only at h'
   by_cases h0:s = 0
   ·by_cases hle:n < (S.txt (l + 1)).length
    ·exact ⟨3 * (l + 1),1,.side (.inl h0) (by simp),.nul (by simp only;omega),by simp only;omega⟩
    ·refine ⟨1,3 * (r + 1),.full (by simp only;omega),.side (.inl rfl) (by simp),by simp only;omega⟩
   ·exact ⟨3 * (l + 1),1,.side (.inr (by simp only;omega)) (by simp),.full (by simp only;omega),by simp only;omega⟩
  |any hp =>
   by_cases hle:n≤(S.txt (l + 1)).length - s
   ·exact ⟨6 * (l + 1),1,.any (by simp),.nul (by simp only;omega),by simp only;omega⟩
   ·exact ⟨3 * (l + 1),3 * (r + 1),.side (.inr (by simp only;omega)) (by simp),.side (.inl rfl) (by simp),by simp only;omega⟩
theorem rep_in {j k s n:Nat} {t:List Nat} (hj:j < k) (hn:s + n≤t.length):((rep k t).drop (j * t.length + s)).take n = (t.drop s).take n:=by
 rw [← List.drop_drop,rep_drop_le (Nat.le_of_lt hj)]
 obtain ⟨d,hd⟩:∃ d,k - j = d + 1:=⟨k - j - 1,by omega⟩
 rw [hd,rep_succ,List.drop_append_of_le_length (by omega),List.take_append_of_le_length (by rw [List.length_drop];omega)]
theorem power_whole {i l k s n:Nat} {x:En} (hl:l < i) (hx:S.list[i]? = some (powerE x (l + 1) k)) (hK:S.Closed K) (h:PcOk S K ⟨i + 1,s,n⟩) (hL:0 < (S.txt (l + 1)).length) (h1:s % (S.txt (l + 1)).length = 0) (h2:n % (S.txt (l + 1)).length = 0) (hn:0 < n) :
  S.pcTxt ⟨i + 1,s,n⟩ = rep (n / (S.txt (l + 1)).length) (S.txt (l + 1))∧1≤n / (S.txt (l + 1)).length∧n / (S.txt (l + 1)).length≤k:=by
 have ht:=S.txt_power hl hx
 have hfit:=h.fits
 simp only at hfit
 rw [ht,rep_len] at hfit
 generalize hLe:(S.txt (l + 1)).length = L at *
 have hs:=Nat.div_add_mod s L
 have hn2:=Nat.div_add_mod n L
 rw [h1,Nat.add_zero] at hs
 rw [h2,Nat.add_zero] at hn2
 have hle:s / L + n / L≤k:=by
  have:L * (s / L + n / L)≤L * k:=by rw [Nat.mul_add,hs,hn2,Nat.mul_comm L k];exact hfit
  exact Nat.le_of_mul_le_mul_left this hL
 have hpos:1≤n / L:=by
  rcases Nat.eq_zero_or_pos (n / L) with h0 | h0
  ·rw [h0] at hn2;omega
  ·exact h0
 refine ⟨?_,hpos,Nat.le_trans (Nat.le_add_left _ _) hle⟩
 simp only [Sto.pcTxt,ht]
 generalize n / L = b at *
 generalize s / L = a at *
 rw [← hs,← hn2,Nat.mul_comm L,Nat.mul_comm L,← hLe,rep_drop_le (by omega),rep_take (by omega)]
theorem power_cut {i l k s n n':Nat} {x:En} (hl:l < i) (hx:S.list[i]? = some (powerE x (l + 1) k)) (hK:S.Closed K) (h:PcOk S K ⟨i + 1,s,n⟩) (hL:0 < (S.txt (l + 1)).length)
  (hn':n' = if s % (S.txt (l + 1)).length = 0 then 0 else min n ((S.txt (l + 1)).length - s % (S.txt (l + 1)).length)) {c:Nat} (hc:Cost S ⟨i + 1,s,n⟩ c) (hn:0 < n) (hf:n < (S.txt (i + 1)).length) (hna:¬ (s % (S.txt (l + 1)).length = 0∧n % (S.txt (l + 1)).length = 0)) :
  S.pcTxt ⟨i + 1,s,n⟩ = S.pcTxt ⟨l + 1,s % (S.txt (l + 1)).length,n'⟩ ++ (S.pcTxt ⟨i + 1,s + n',n - n' - (n - n') % (S.txt (l + 1)).length⟩ ++ S.pcTxt ⟨l + 1,0,(n - n') % (S.txt (l + 1)).length⟩) ∧
  PcOk S K ⟨l + 1,s % (S.txt (l + 1)).length,n'⟩∧PcOk S K ⟨i + 1,s + n',n - n' - (n - n') % (S.txt (l + 1)).length⟩∧PcOk S K ⟨l + 1,0,(n - n') % (S.txt (l + 1)).length⟩ ∧
  ∃ d e f,Cost S ⟨l + 1,s % (S.txt (l + 1)).length,n'⟩ d∧Cost S ⟨i + 1,s + n',n - n' - (n - n') % (S.txt (l + 1)).length⟩ e∧Cost S ⟨l + 1,0,(n - n') % (S.txt (l + 1)).length⟩ f∧d + (e + f) < c∧(s % (S.txt (l + 1)).length = 0→e + f < c):=by
 have hi:=getElem_len hx
 have ht:=S.txt_power hl hx
 have hfit:=h.fits
 simp only at hfit
 have hlen:(S.txt (i + 1)).length = k * (S.txt (l + 1)).length:=by rw [ht,rep_len]
 have hkn:K (l + 1):=by
  rcases h.known with hk | hk
  ·cases hk
  ·exact (hK i _ hk hx).2 rfl
 have hki:K (i + 1):=by
  rcases h.known with hk | hk
  ·cases hk
  ·exact hk
 have hp1:∀ s n,S.pcTxt ⟨i + 1,s,n⟩ = ((rep k (S.txt (l + 1))).drop s).take n:=fun s n=>by simp only [Sto.pcTxt,ht]
 have hp2:∀ s n,S.pcTxt ⟨l + 1,s,n⟩ = ((S.txt (l + 1)).drop s).take n:=fun s n=>rfl
 have hri:∀ j s n,j < k→s + n≤(S.txt (l + 1)).length→((rep k (S.txt (l + 1))).drop (j * (S.txt (l + 1)).length + s)).take n = ((S.txt (l + 1)).drop s).take n:=fun j s n hj hn=>rep_in hj hn
 generalize hLe:(S.txt (l + 1)).length = L at *
 have hs:=Nat.div_add_mod s L
 have hsl:=Nat.mod_lt s hL
 generalize hj:s / L = j at hs
 generalize hat:s % L = at_ at *
 have hnn:n'≤n:=by subst hn';split <;> omega
 have hin:at_ + n'≤L:=by subst hn';split <;> omega
 have hjk:j < k:=by
  have:L * j < L * k:=by rw [Nat.mul_comm L k,← hlen];omega
  exact Nat.lt_of_mul_lt_mul_left this
 -- the rest of the range begins at a copy
 have hal:n - n' = 0∨∃ j',s + n' = L * j':=by
  subst hn'
  split
  ·exact .inr ⟨j,by omega⟩
  ·by_cases hle:n≤L - at_
   ·left;omega
   ·refine .inr ⟨j + 1,?_⟩
    rw [Nat.mul_add,Nat.mul_one];omega
 have hm:=Nat.div_add_mod (n - n') L
 have hml:=Nat.mod_lt (n - n') hL
 generalize hr:(n - n') % L = rest at *
 generalize hq:(n - n') / L = q at hm
 have e1:S.pcTxt ⟨i + 1,s,n⟩ = S.pcTxt ⟨i + 1,s,n'⟩ ++ (S.pcTxt ⟨i + 1,s + n',n - n' - rest⟩ ++ S.pcTxt ⟨i + 1,s + n' + (n - n' - rest),rest⟩):=by
  rw [← S.pcTxt_split,← S.pcTxt_split]
  congr 2;omega
 refine ⟨?_,⟨by simp only;omega,.inr hkn,by simp only;omega⟩,⟨by simp only;omega,.inr hki,by simp only;omega⟩,⟨by simp only;omega,.inr hkn,by simp only;omega⟩,?_⟩
 ·rw [e1]
  congr 1
  ·rw [hp1,hp2,← hri j at_ n' hjk hin]
   congr 2;rw [Nat.mul_comm];omega
  ·congr 1
   by_cases hr0:rest = 0
   ·rw [hr0,S.pcTxt_nul _ rfl,S.pcTxt_nul _ rfl]
   ·rcases hal with h0 | ⟨j',hj'⟩
    ·omega
    ·have hpos:s + n' + (n - n' - rest) = (j' + q) * L + 0:=by
      rw [Nat.add_mul,Nat.mul_comm j' L,Nat.mul_comm q L];omega
     have hlt:j' + q < k:=by
      have:(j' + q) * L < k * L:=by rw [← hlen];omega
      exact Nat.lt_of_mul_lt_mul_right this
     rw [hp1,hp2,hpos,hri _ 0 rest hlt (by omega)]
 ·have cE:Cost S ⟨i + 1,s + n',n - n' - rest⟩ 1:=by
   by_cases hz:n - n' - rest = 0
   ·exact .nul hz
   ·rcases hal with h0 | ⟨j',hj'⟩
    ·omega
    ·refine .copies i x l k rfl hx ?_ ?_
     ·simp only [hLe,hj'];exact Nat.mul_mod_right _ _
     ·simp only [hLe]
      have:n - n' - rest = L * q:=by omega
      rw [this];exact Nat.mul_mod_right _ _
  have cF:∃ f,Cost S ⟨l + 1,0,rest⟩ f∧f≤3 * (l + 1)∧(rest = 0→f = 1):=by
   by_cases hz:rest = 0
   ·exact ⟨1,.nul hz,by omega,fun _=>rfl⟩
   ·exact ⟨3 * (l + 1),.side (.inl rfl) (by simp),Nat.le_refl _,fun h=>absurd h hz⟩
  obtain ⟨f,hf1,hf2,hf3⟩:=cF
  cases hc with
  |nul h'=>simp only at h';omega
  |full h'=>simp only at h';omega
  |copies i' x' l' k' hi' hx' h1 h2 =>
   simp only [Nat.add_right_cancel_iff] at hi'
   subst hi'
   rw [hx] at hx'
   have e2:l' = l:=by
    have:=congrArg (fun o=>o.map fun y=>y.r.left) hx'
    simpa [powerE] using this.symm
   subst e2
   simp only [hLe] at h1 h2
   rw [hat] at h1
   exact absurd ⟨h1,h2⟩ hna
  |side h' hp =>
   simp only at h' hp ⊢
   by_cases h0:at_ = 0
   ·have hn0:n' = 0:=by rw [hn',if_pos h0]
    exact ⟨1,1,f,.nul hn0,cE,hf1,by omega,fun _=>by omega⟩
   ·rcases h' with h' | h'
    ·subst h'
     have:at_ = 0:=by rw [← hat,Nat.zero_mod]
     exact absurd this h0
    ·-- the range ends with the text
     have hn2:n' = L - at_:=by
      rw [hn',if_neg h0]
      have:L - at_≤n:=by
       have h5:L * (j + 1)≤L * k:=Nat.mul_le_mul_left _ hjk
       rw [Nat.mul_comm L k,← hlen,← h',Nat.mul_add] at h5
       omega
      omega
     have hr0:rest = 0:=by
      have h6:n - n' = L * (k - (j + 1)):=by
       have h7:L * k = s + n:=by rw [Nat.mul_comm,← hlen];omega
       rw [Nat.mul_sub,h7,Nat.mul_add]
       omega
      rw [← hr,h6];exact Nat.mul_mod_right _ _
     have hf0:=hf3 hr0
     refine ⟨3 * (l + 1),1,f,.side (.inr ?_) (by simp),cE,hf1,by omega,fun h=>absurd h h0⟩
     simp only [hLe];omega
  |any hp =>
   simp only at hp ⊢
   by_cases h0:at_ = 0
   ·have hn0:n' = 0:=by rw [hn',if_pos h0]
    exact ⟨1,1,f,.nul hn0,cE,hf1,by omega,fun _=>by omega⟩
   ·by_cases hle:n≤L - at_
    ·have hn2:n' = n:=by rw [hn',if_neg h0];omega
     have hr0:rest = 0:=by rw [← hr,hn2,Nat.sub_self,Nat.zero_mod]
     have hf0:=hf3 hr0
     exact ⟨6 * (l + 1),1,f,.any (by simp),cE,hf1,by omega,fun h=>absurd h h0⟩
    ·have hn2:n' = L - at_:=by rw [hn',if_neg h0];omega
     refine ⟨3 * (l + 1),1,f,.side (.inr ?_) (by simp),cE,hf1,by omega,fun h=>absurd h h0⟩
     simp only [hLe];omega
end
end
end Go.Proofs.YtijnhpaafhcndaaGreat
