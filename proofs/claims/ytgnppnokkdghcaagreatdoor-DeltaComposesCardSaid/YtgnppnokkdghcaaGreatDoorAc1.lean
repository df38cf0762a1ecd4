/-
  Part 1 of the texts behind the statements of this seat: walks and laws Wl, Bv, Fa, Da, Db, Dc, Dd, Fb, De, Dg, Fc. Conditions: as each states.
-/
import Derived.Test.YtgnppnokkdghcaaGreatDoorBc7
set_option linter.unusedSimpArgs false
set_option linter.unusedVariables false
set_option maxRecDepth 100000
set_option maxHeartbeats 80000000
namespace Go.Proofs.YtgnppnokkdghcaaGreatDoor
section
open Go.RowKit
theorem range_c (f n:Int) (l:Nat) (w:World) (hl:l<=1152921504606846976) (ok:Bool) (hok:ok=decide (0<=f∧0<=n∧f<=l∧n<=l-f)) :
  Calls Tryz.prog 89 #[.int .i64 f,.int .i64 n,.int .i64 l] w fun e w'=>e=.returned (if ok then .nilIface else EV 1)∧w'=w:=by
 have HOK:=zh hok;clear hok;go_enter Tryz.func89,Tryz.ntmps89;by_cases h1:0<=f
 ·by_cases h2:0<=n
  ·by_cases h3:f<=l
   ·by_cases h4:n<=l-f
    ·obtain rfl:ok=true:=by rw [HOK.out];simp [h1,h2,h3,h4]
     go_wp2_with fail;refine same (valid_c l true (by symm;rw [decide_eq_true_eq];omega) _) ?_;go_wp2_with fail;go_ret;exact ⟨rfl,rfl⟩
    ·obtain rfl:ok=false:=by rw [HOK.out];simp [h1,h2,h3,h4]
     go_wp2_with fail;refine same (valid_c l true (by symm;rw [decide_eq_true_eq];omega) _) ?_;go_wp2_with fail;go_ret;exact ⟨rfl,rfl⟩
   ·obtain rfl:ok=false:=by rw [HOK.out];simp [h1,h2,h3]
    go_wp2_with fail;refine same (valid_c l true (by symm;rw [decide_eq_true_eq];omega) _) ?_;go_wp2_with fail;go_ret;exact ⟨rfl,rfl⟩
  ·obtain rfl:ok=false:=by rw [HOK.out];simp [h1,h2]
   go_wp2_with fail;refine same (valid_c l true (by symm;rw [decide_eq_true_eq];omega) _) ?_;go_wp2_with fail;go_ret;exact ⟨rfl,rfl⟩
 ·obtain rfl:ok=false:=by rw [HOK.out];simp [h1]
  go_wp2_with fail;refine same (valid_c l true (by symm;rw [decide_eq_true_eq];omega) _) ?_;go_wp2_with fail;go_ret;exact ⟨rfl,rfl⟩
end
section
open Go.RowKit Go.Maps
attribute [local go_sem] InGr
theorem leaves_map (l:List Nat):Leaves (l.map Tr.leaf):=fun t ht=>by
 obtain ⟨b,_,rfl⟩:=List.mem_map.1 ht;exact ⟨b,rfl⟩
end
section
open Go.RowKit Go.Maps
def IdL (S:Sto):List Nat->List (List Tr)->Prop
 |[],[]=>True
 |a::l,t::u=>IdIs S a t∧IdL S l u
 |_,_=>False
theorem IdL.len {S:Sto}:∀ {l:List Nat} {u:List (List Tr)},IdL S l u->l.length=u.length
 |[],[],_=>rfl
 |a::l,t::u,h=>by simp [IdL.len h.2]
 |[],_::_,h=>h.elim
 |_::_,[],h=>h.elim
theorem IdL.get {S:Sto}:∀ {l:List Nat} {u:List (List Tr)} {i:Nat} {a:Nat},IdL S l u->l[i]?=some a->∃ t,u[i]?=some t∧IdIs S a t
 |[],[],i,a,_,h=>by simp at h
 |b::l,t::u,0,a,h,e=>by
  simp only [List.getElem?_cons_zero,Option.some.injEq] at e;subst e;exact ⟨t,rfl,h.1⟩
 |b::l,t::u,i+1,a,h,e=>by
  simp only [List.getElem?_cons_succ] at e ⊢;exact IdL.get h.2 e
 |[],_::_,_,_,h,_=>h.elim
 |_::_,[],_,_,h,_=>h.elim
theorem IdL.le {S S':Sto} (hS:S.Ok) (hl:S.Le S'):∀ {l:List Nat} {u:List (List Tr)},IdL S l u->IdL S' l u
 |[],[],_=>trivial
 |a::l,t::u,h=>⟨h.1.le hS hl,IdL.le hS hl h.2⟩
 |[],_::_,h=>h.elim
 |_::_,[],h=>h.elim
theorem IdL.append {S:Sto}:∀ {l l':List Nat} {u u':List (List Tr)},IdL S l u->IdL S l' u'->IdL S (l++l') (u++u')
 |[],_,[],_,_,h=>h
 |a::l,_,t::u,_,h,k=>⟨h.1,IdL.append h.2 k⟩
 |[],_,_::_,_,h,_=>h.elim
 |_::_,_,[],_,h,_=>h.elim
theorem IdL.snoc {S:Sto} {l:List Nat} {u:List (List Tr)} {a:Nat} {t:List Tr} (h:IdL S l u) (ha:IdIs S a t):IdL S (l++[a]) (u++[t]):=h.append ⟨ha,trivial⟩
def halveL:List (List Tr)->List (List Tr)
 |a::b::r=>(a++b)::halveL r
 |l=>l
theorem halveL_flat:∀ l:List (List Tr),(halveL l).flatten=l.flatten
 |[]=>by simp [halveL]
 |[a]=>by simp [halveL]
 |a::b::r=>by rw [halveL,List.flatten_cons,halveL_flat r];simp
theorem halveL_len:∀ l:List (List Tr),(halveL l).length=(l.length+1)/2
 |[]=>by simp [halveL]
 |[a]=>by simp [halveL]
 |a::b::r=>by rw [halveL,List.length_cons,halveL_len r];simp only [List.length_cons];omega
theorem halveL_get:∀ {l:List (List Tr)} {j:Nat} {a b:List Tr},l[2*j]?=some a->l[2*j+1]?=some b->(halveL l)[j]?=some (a++b)
 |[],j,a,b,h,_=>by simp at h
 |[x],j,a,b,_,h=>by
  have:=gelt h;simp at this
 |x::y::r,0,a,b,h,k=>by
  simp at h k;subst h k;simp [halveL]
 |x::y::r,j+1,a,b,h,k=>by
  rw [halveL,List.getElem?_cons_succ];refine halveL_get ?_ ?_
  ·rw [← h,show 2*(j+1)=2*j+1+1 by omega];simp
  ·rw [← k,show 2*(j+1)+1=(2*j+1)+1+1 by omega];simp
theorem halveL_last:∀ {l:List (List Tr)} {j:Nat} {a:List Tr},l.length=2*j+1->l[2*j]?=some a->(halveL l)[j]?=some a
 |[],j,a,h,_=>by simp at h
 |[x],j,a,h,k=>by
  have:j=0:=by simp at h;omega
  subst this;simpa [halveL] using k
 |x::y::r,0,a,h,_=>by simp at h
 |x::y::r,j+1,a,h,k=>by
  rw [halveL,List.getElem?_cons_succ];refine halveL_last (by simp only [List.length_cons] at h;omega) ?_;rw [← k,show 2*(j+1)=2*j+1+1 by omega];simp
def totL (l:List (List Tr)):Nat:=l.flatten.length
theorem totL_snoc (l:List (List Tr)) (t:List Tr):totL (l++[t])=totL l+t.length:=by unfold totL;simp
theorem totL_take (l:List (List Tr)) (i:Nat):totL (l.take i)<=totL l:=by
 unfold totL;have h:(l.take i).flatten++(l.drop i).flatten=l.flatten:=(by rw [← List.flatten_append,List.take_append_drop]);rw [← h,List.length_append];omega
theorem totL_halve (l:List (List Tr)):totL (halveL l)=totL l:=by unfold totL;rw [halveL_flat]
theorem totL_take_succ {l:List (List Tr)} {i:Nat} {t:List Tr} (h:l[i]?=some t):totL (l.take (i+1))=totL (l.take i)+t.length:=by rw [List.take_add_one,h];exact totL_snoc _ _
end
section
theorem step_cut {m:Nat} {a:Tr} (h:Canon a) {A C B:List Tr} (e:a.lay (m+1)=A++C++B) (hC:C.flatMap (Tr.lay m)≠[]):stepP (m+1) (C.flatMap (Tr.lay m))=C:=by
 have e1:a.lay (m+1)=A++(C++B):=(by rw [e];simp);have hd:∀ y,(C.flatMap (Tr.lay m)).head?=some y->((C++B).flatMap (Tr.lay m)).head?=some y:=fun y hy=>by
  rw [List.flatMap_append];cases hq:C.flatMap (Tr.lay m) with
  |nil=>exact absurd hq hC
  |cons z l=>rw [hq] at hy;simpa using hy
 by_cases he:m%2=0
 ·obtain ⟨_,c2,c3⟩:=cut_runs he h e1;obtain ⟨_,_,d3⟩:=cut_runs he h e;have h1:=d3 [] (fun x y _ hy=>by simp at hy);have h2:=c3 (C.flatMap (Tr.lay m)) (fun x y hx hy=>c2 x y hx (hd y hy));rw [List.flatMap_append,List.append_nil,h2] at h1;have h3:runs ([]:List Tr)=[]:=rfl;rw [h3,List.append_nil] at h1;rw [step_odd he];exact List.append_cancel_left h1
 ·have ho:m%2=1:=(by omega);obtain ⟨_,c2,c3⟩:=cut_pairs ho h e1;obtain ⟨_,_,d3⟩:=cut_pairs ho h e;have h1:=d3 [] (fun x y _ _ hy=>by simp at hy);have h2:=c3 (C.flatMap (Tr.lay m)) (fun x y hx hl hy=>c2 x y hx hl (hd y hy));rw [List.flatMap_append,List.append_nil,h2] at h1;have h3:pairsF (fits (m+1)) ([]:List Tr)=[]:=(by simp [pairsF]);rw [h3,List.append_nil] at h1;rw [step_even ho];exact List.append_cancel_left h1
theorem Canon.kid {a c:Tr} (h:Canon a) {j:Nat} (hj:(kids a)[j]?=some c):Canon c:=by
 have hc:=h.gd.kid (List.mem_of_getElem? hj);have hk:kids a=(kids a).take j++c::(kids a).drop (j+1):=by
  have hlt:=gelt hj;rw [zg hlt] at hj;injection hj with hj
  conv=>lhs;rw [← List.take_append_drop j (kids a),List.drop_eq_getElem_cons hlt,hj]
 have hlay:∀ m,m<a.lv->a.lay m=((kids a).take j).flatMap (Tr.lay m)++c.lay m++((kids a).drop (j+1)).flatMap (Tr.lay m):=fun m hm=>by
  rw [lay_high hm];conv=>lhs;rw [hk]
  rw [List.flatMap_append,List.flatMap_cons];simp
 refine ⟨fun t ht=>h.leaves t (by rw [hlay 0 (by omega)];simp [ht]),fun m=>?_⟩;induction m with
 |zero=>rfl
 |succ m ih =>
  show stepP (m+1) (seqP (c.lay 0) m)=c.lay (m+1)
  rw [ih];by_cases hm:c.lv<=m
  ·rw [lay_low hm,lay_low (Nat.le_succ_of_le hm),step_one]
  ·have h1:=step_cut h (m:=m) (hlay (m+1) (by omega));rw [lay_lay (Nat.le_succ m) c] at h1;refine h1 fun e=>?_
   have:=lay_pos (m:=m) hc.1.2;rw [e] at this;simp at this
theorem copy_part {α:Type} (l:List α) (k q r n:Nat) (hr:r+n<=l.length) (hq:q<k):(((List.replicate k l).flatten).drop (q*l.length+r)).take n=(l.drop r).take n:=by
 obtain ⟨d,rfl⟩:∃ d,k=q+(d+1):=⟨k-q-1,by omega⟩
 rw [← List.replicate_append_replicate,List.flatten_append,List.replicate_succ,List.flatten_cons];have h1:((List.replicate q l).flatten).length=q*l.length:=(by simp);rw [List.drop_append,h1,List.drop_of_length_le (by omega),List.nil_append,show q*l.length+r-q*l.length=r by omega,List.drop_append_of_le_length (by omega),List.take_append_of_le_length (by simp;omega)]
theorem part_left {α:Type} (a b:List α) (f n:Nat) (h:f+n<=a.length):((a++b).drop f).take n=(a.drop f).take n:=by
 rw [List.drop_append_of_le_length (by omega),List.take_append_of_le_length (by simp;omega)]
theorem part_right {α:Type} (a b:List α) (f n:Nat) (h:a.length<=f):((a++b).drop f).take n=(b.drop (f-a.length)).take n:=by
 rw [List.drop_append,List.drop_of_length_le h,List.nil_append]
theorem pair_lay0 {l r:Tr} (h:(Tr.pair l r).Gd):(Tr.pair l r).lay 0=l.lay 0++r.lay 0:=by
 rw [lay_high (by have:=(h.kid (c:=l) (by simp [kids])).2;omega)];simp [kids]
theorem pow_lay0 {s:Tr} {k:Nat} (h:(Tr.pow s k).Gd):(Tr.pow s k).lay 0=(List.replicate k (s.lay 0)).flatten:=by
 have hk:2<=k:=h.2.2;rw [lay_high (by have:=(h.kid (c:=s) (List.mem_replicate.2 ⟨by omega,rfl⟩)).2;omega)];simp [kids,List.flatMap_replicate]
end
section
open Go.RowKit Go.Maps
attribute [local go_sem] InGr
theorem weight_any {X:Px} {id:Nat} {s:List Tr} (hX:PxOk X) (hd:IdIs X.S id s):∃ a2 a3 a4 a5 a6:Nat,∀ (X1:Px) (w:World),X.Ext X1->X1.S=X.S->(pA X1).ho w->Calls Tryz.prog 40 #[.pointer (some ⟨X.s,0,none⟩),.int .i64 id] w fun e w'=>e=.returned (.tuple #[.agg #[.int .i64 (s.length:Nat),.int .i64 a2,.int .i64 a3,.int .i64 a4,.int .u64 a5,.int .u64 a6],.nilIface])∧St w [] [] w':=by
 rcases hd with ⟨rfl,rfl⟩|⟨T,h1,h2,rfl⟩
 ·refine ⟨En.unit.w.lines,En.unit.w.head,En.unit.w.tail,En.unit.w.val,En.unit.w.scale,fun X1 w q1 q2 h=>?_⟩;have:=weight_c (i:=0) rfl w (pA_sto h);rw [q1.s] at this;exact this
 ·obtain ⟨i,x,rfl,hx,ht⟩:=den_get h1;have hl:=(tr_len hX.ok i x hx).1;rw [ht] at hl;refine ⟨x.w.lines,x.w.head,x.w.tail,x.w.val,x.w.scale,fun X1 w q1 q2 h=>?_⟩;have:=weight_c (i:=i+1) (S:=X1.S) (x:=x) (by rw [q2];exact hx) w (pA_sto h);rw [q1.s] at this;rw [len_lay0 h2.gd,hl];exact this
theorem check_c {X:Px} {x:Nat} {s:List Tr} (hX:PxOk X) (hd:IdIs X.S x s) (w:World) (h:PH X w) :
  Calls Tryz.prog 88 #[.pointer (some ⟨X.p,0,none⟩),.int .i64 x] w (PPost X (.tuple #[.int .i64 (s.length:Nat),.nilIface]) (pA X).fp w):=by
 have h:((pA X).sep deA).ho w:=h;rw [sep_ho] at h;obtain ⟨k1,k2,hdd⟩:=h;have H:=St.one k1;have HK:Ks w (pA X).fp [deA]:=⟨by simpa using k2,by simpa using fun b hb hm=>hdd b hm hb⟩
 generalize (pA X).fp=N at *;clear k1 k2 hdd;obtain ⟨a2,a3,a4,a5,a6,hw⟩:=weight_any hX hd;obtain ⟨l,_,htop⟩:=top_any hX hd;have HW:Hid (∀ w,(pA X).ho w->Calls Tryz.prog 40 #[.pointer (some ⟨X.s,0,none⟩),.int .i64 x] w fun e w'=>e=.returned (.tuple #[.agg #[.int .i64 (s.length:Nat),.int .i64 a2,.int .i64 a3,.int .i64 a4,.int .u64 a5,.int .u64 a6],.nilIface])∧St w [] [] w'):=zh fun w h=>hw X w (.refl _) rfl h
 have HS:Hid (∀ w,(pA X).ho w->Calls Tryz.prog 53 #[.pointer (some ⟨X.p,0,none⟩)] w fun e w'=>e=.returned (.pointer (some ⟨X.s,0,none⟩))∧w'=w):=zh fun w h=>store_p w h
 have HT:Hid (∀ w,((pA X).sep deA).ho w->Calls Tryz.prog 91 #[.pointer (some ⟨X.p,0,none⟩),.int .i64 x] w (PPost X (.tuple #[.int .i64 (l:Nat),.nilIface]) (pA X).fp w)):=zh fun w h=>htop X w (.refl _) hX rfl h
 obtain ⟨n,hn⟩:∃ n,s.length=n:=⟨_,rfl⟩
 rw [hn] at HW ⊢;clear hX hd hw htop hn;go_enter Tryz.func88,Tryz.ntmps88;go_wp2_with (first|refine sL ?_|(refine sS ?_;clear H;intros;rename_i H)|(go_at_call 53;with_reducible refine same (HS.out _ (H.get pk)) ?_)|(go_at_call 40;with_reducible refine zm (HW.out _ (H.get pk)) ?_;rintro e9 wc ⟨rfl,hb⟩;replace H:=H.grew hb.below;clear hb)|(go_at_call 91;with_reducible refine zm (HT.out _ (H.sepK HK pk pk)) ?_;rintro e9 wc ⟨X2,y1,y2,y3,rfl,hb⟩;have HY:=zh (za y1 (za y2 y3));clear y1 y2 y3;replace H:=zn ((H.pick pk).call hb);clear hb));go_ret2;exact ⟨X2,HY.out.1,HY.out.2.1,HY.out.2.2,rfl,H.picks (.cons pk .nil)⟩
theorem inner_c {X:Px} {x from_ n:Nat} {s:List Tr} (hX:PxOk X) (hd:IdIs X.S x s) (hf:from_+n<=s.length) (hl:s.length<=1048576) (hroom:X.S.list.length+2*s.length<=X.S.most) (w:World) (h:PH X w) :
  Calls Tryz.prog 121 #[.pointer (some ⟨X.p,0,none⟩),.int .i64 x,.int .i64 (from_:Nat),.int .i64 (n:Nat)] w fun e w'=>∃ (X':Px) (id:Nat),e=.returned (.tuple #[.int .i64 id,.nilIface])∧X.Ext X'∧PxOk X'∧IdIs X'.S id ((s.drop from_).take n)∧X'.S.list.length<=X.S.list.length+2*s.length∧St w (pA X).fp [pA X'] w':=by
 have h:((pA X).sep deA).ho w:=h;rw [sep_ho] at h;obtain ⟨k1,k2,hdd⟩:=h;have H:=St.one k1;have HK:Ks w (pA X).fp [deA]:=⟨by simpa using k2,by simpa using fun b hb hm=>hdd b hm hb⟩
 generalize (pA X).fp=N at *;clear k1 k2 hdd;have HX:=zh hX;have h1:=fun w h=>splice_c (X:=X) (a:=0) (i:=0) (sa:=[]) (b:=x) (j:=from_) (sb:=s) hX (.inl ⟨rfl,rfl⟩) hd (Nat.zero_le _) (by omega) (by simp;omega) (by simp;omega) w h
 have H1:Hid (∀ w,((pA X).sep deA).ho w->Calls Tryz.prog 123 #[.pointer (some ⟨X.p,0,none⟩),.int .i64 0,.int .i64 0,.int .i64 x,.int .i64 (from_:Nat)] w fun e w'=>∃ (X':Px) (id:Nat),e=.returned (.tuple #[.int .i64 id,.nilIface])∧X.Ext X'∧PxOk X'∧IdIs X'.S id (s.drop from_)∧X'.S.list.length<=X.S.list.length+(s.drop from_).length∧St w (pA X).fp [pA X'] w'):=zh fun w h=>h1 w h
 have H2:Hid (∀ (X2:Px) (id2:Nat),X.Ext X2->PxOk X2->IdIs X2.S id2 (s.drop from_)->X2.S.list.length<=X.S.list.length+(s.drop from_).length->∀ w,((pA X2).sep deA).ho w->Calls Tryz.prog 123 #[.pointer (some ⟨X.p,0,none⟩),.int .i64 id2,.int .i64 (n:Nat),.int .i64 0,.int .i64 0] w fun e w'=>∃ (X':Px) (id:Nat),e=.returned (.tuple #[.int .i64 id,.nilIface])∧X2.Ext X'∧PxOk X'∧IdIs X'.S id ((s.drop from_).take n)∧X'.S.list.length<=X2.S.list.length+((s.drop from_).take n).length∧St w (pA X2).fp [pA X'] w'):=zh fun X2 id2 q1 q2 q3 q4 w h=>by
  have hm:X2.S.most=X.S.most:=q1.le.1;simp only [List.length_drop] at q4;have:=splice_c (X:=X2) (a:=id2) (i:=n) (sa:=s.drop from_) (b:=0) (j:=0) (sb:=[]) q2 q3 (.inl ⟨rfl,rfl⟩) (by simp;omega) (Nat.zero_le _) (by simp;omega) (by simp;omega) w h;rw [q1.p] at this;simp only [List.drop_nil,List.append_nil] at this;exact this
 have HC:Hid ((s.drop from_).length+((s.drop from_).take n).length<=2*s.length):=zh (by simp;omega);clear hX hd hf hl hroom h1;go_enter Tryz.func121,Tryz.ntmps121;go_wp2_with (first|refine sL ?_|(refine sS ?_;clear H;intros;rename_i H)|(first|(go_at_call 123;with_reducible refine zm (H1.out _ (H.sepK HK pk pk)) ?_;rintro e9 wc ⟨X2,id2,rfl,y1,y2,y3,y4,hb⟩;have HY:=zh (za y1 (za y2 (za y3 y4)));clear y1 y2 y3 y4;replace H:=zn ((H.pick pk).call hb);clear hb)|(go_at_call 123;with_reducible refine zm (H2.out X2 id2 HY.out.1 HY.out.2.1 HY.out.2.2.1 HY.out.2.2.2 _ (H.sepK HK pk pk)) ?_;rintro e9 wc ⟨X3,id3,rfl,y1,y2,y3,y4,hb⟩;have HZ:=zh (za y1 (za y2 (za y3 y4)));clear y1 y2 y3 y4;replace H:=zn ((H.pick pk).call hb);clear hb)));go_ret2;exact ⟨X3,id3,rfl,HY.out.1.trans HZ.out.1,HZ.out.2.1,HZ.out.2.2.1,by have h1:=HY.out.2.2.2;have h2:=HZ.out.2.2.2;have h3:=HC.out;omega,H.picks (.cons pk .nil)⟩
def SecRel (X:Px) (s:List Tr) (tg:List Tr) (n:Nat) (N:List Nat) (w:World) (m:Nat) (v1 v2:Value) (wr:World):Prop :=
 ∃ (cur frm:Nat) (T:Tr),m=T.lv∧v1=.int .i64 cur∧v2=.int .i64 frm∧(Den X.S cur T∧Canon T∧(T.lay 0).length<=s.length∧frm+n<=(T.lay 0).length∧((T.lay 0).drop frm).take n=tg)∧St w N [pA X] wr
theorem section_c {X:Px} {x from_ n:Nat} {s:List Tr} (hX:PxOk X) (hd:IdIs X.S x s) (hf:from_+n<=s.length) (hl:s.length<=1048576) (hroom:X.S.list.length+2*s.length<=X.S.most) (w:World) (h:PH X w) :
  Calls Tryz.prog 90 #[.pointer (some ⟨X.p,0,none⟩),.int .i64 x,.int .i64 (from_:Nat),.int .i64 (n:Nat)] w fun e w'=>∃ (X':Px) (id:Nat),e=.returned (.tuple #[.int .i64 id,.nilIface])∧X.Ext X'∧PxOk X'∧IdIs X'.S id ((s.drop from_).take n)∧X'.S.list.length<=X.S.list.length+2*s.length∧St w (pA X).fp [pA X'] w':=by
 have h:((pA X).sep deA).ho w:=h;rw [sep_ho] at h;obtain ⟨k1,k2,hdd⟩:=h;have H:=St.one k1;have HK:Ks w (pA X).fp [deA]:=⟨by simpa using k2,by simpa using fun b hb hm=>hdd b hm hb⟩
 generalize (pA X).fp=N at *;clear k1 k2 hdd;have HX:=zh hX;rcases Nat.eq_zero_or_pos n with rfl|hn0
 ·clear hX hd hf hl hroom;go_enter Tryz.func90,Tryz.ntmps90;go_wp2_with (first|refine sL ?_|(refine sS ?_;clear H;intros;rename_i H));go_ret2;exact ⟨X,0,rfl,.refl _,HX.out,.inl ⟨by simp,rfl⟩,by omega,H.picks (.cons pk .nil)⟩
 ·obtain ⟨tg,htg⟩:∃ tg,(s.drop from_).take n=tg:=⟨_,rfl⟩
  have HTG:=zh htg;have HL:=zh (za hl hroom);have hnb:n<=1048576:=(by omega);have d0:((n:Int)==0)=false:=(by simp;omega);have hT:∃ T,Den X.S x T∧Canon T∧T.lay 0=s:=by
   rcases hd with ⟨rfl,_⟩|h
   ·simp at hf;omega
   ·exact h
  obtain ⟨T0,t1,t2,t3⟩:=hT;have HIN0:Hid (Den X.S x T0∧Canon T0∧(T0.lay 0).length<=s.length∧from_+n<=(T0.lay 0).length∧((T0.lay 0).drop from_).take n=tg):=zh ⟨t1,t2,by rw [t3];exact Nat.le_refl _,by rw [t3];exact hf,by rw [t3];exact htg⟩;have HS:Hid (∀ w,(pA X).ho w->Calls Tryz.prog 53 #[.pointer (some ⟨X.p,0,none⟩)] w fun e w'=>e=.returned (.pointer (some ⟨X.s,0,none⟩))∧w'=w):=zh fun w h=>store_p w h
  have HN0:=zh hn0;clear hX hd hf hl hroom t1 t2 t3 htg hn0;go_enter Tryz.func90,Tryz.ntmps90;go_wp2_with (first|refine sL ?_|(refine sS ?_;clear H;intros;rename_i H)|(go_at_call 53;with_reducible refine same (HS.out _ (H.get pk)) ?_));go_loopg [1,2] T0.lv (fun m v1 v2 wr=>SecRel X s tg n N w m v1 v2 wr);case atStart=>exact ⟨x,from_,T0,rfl,rfl,rfl,HIN0.out,H.picks (.cons pk .nil)⟩
  case round =>
   clear H HIN0;obtain ⟨cur,frm,T,rfl,rfl,rfl,hrel,H⟩:=hrel;obtain ⟨hdn,hcan,hle,hfn,htt⟩:=id hrel;have hfb:frm<=1048576:=(by have:=HL.out.1;omega);obtain ⟨i,en,hci,hx,ht⟩:=den_get hdn;have hg:=hcan.gd;rcases Nat.eq_zero_or_pos (kids T).length with hk0|hk0
   ·have hlf:∃ b,T=.leaf b:=by
     cases T with
     |leaf b=>exact ⟨b,rfl⟩
     |pair l r=>simp [kids] at hk0
     |pow s k=>have h2:2<=k:=hg.2.2;simp [kids] at hk0;omega
    obtain ⟨b,rfl⟩:=hlf;have hen:en.r=⟨1,b,0,0,0⟩:=by
     cases rule_of HX.out.ok hx with
     |letter b' hb hr hw ht'=>rw [ht] at ht';injection ht' with ht';rw [ht'];exact hr
     |pair l r y z _ _ _ _ _ _ _ ht'=>rw [ht] at ht';cases ht'
     |pow l k y _ _ _ _ _ _ ht'=>rw [ht] at ht';cases ht'
    have HRU:Hid (∀ w,(pA X).ho w->Calls Tryz.prog 68 #[.pointer (some ⟨X.s,0,none⟩),.int .i64 cur] w fun e w'=>e=.returned (.tuple #[.agg #[.int .i64 1,.int .u8 b,.int .i64 0,.int .i64 0,.int .i64 0],.nilIface])∧St w [] [] w'):=zh fun w h=>by have:=rule_c hx (cur:Int) (by rw [hci];exact Int.natCast_succ i) w (pA_sto h);rw [hen] at this;exact this
    have HFN:Hid (IdIs X.S cur tg):=zh (.inr ⟨_,hdn,hcan,by
     have e1:(Tr.leaf b).lay 0=[.leaf b]:=rfl;rw [e1] at hfn htt ⊢;simp only [List.length_cons,List.length_nil] at hfn;have:=HN0.out;obtain rfl:frm=0:=by omega
     obtain rfl:n=1:=by omega
     rw [← htt];rfl⟩)
    clear hrel hx hen ht hci hdn hcan hle hfn htt hg hk0;go_wp2_with (first|refine sL ?_|(refine sS ?_;clear H;intros;rename_i H)|(go_at_call 68;with_reducible refine zm (HRU.out _ (H.get pk)) ?_;rintro e9 wc ⟨rfl,hb⟩;replace H:=H.grew hb.below;clear hb));go_ret2;exact ⟨X,cur,rfl,.refl _,HX.out,by rw [HTG.out];exact HFN.out,by omega,H.picks (.cons pk .nil)⟩
   ·rcases (kids_rule HX.out.ok hx ht hk0).2 with ⟨l,r,u,v,hen,hte,hdu,hdv⟩|⟨l,u,k,hen,hte,hk,hdu⟩
    ·subst hte;have cu:=hcan.kid (j:=0) (c:=u) rfl;have cv:=hcan.kid (j:=1) (c:=v) rfl;have elay:=pair_lay0 hg;obtain ⟨a2,a3,a4,a5,a6,hw⟩:=weight_any HX.out (.inr ⟨u,hdu,cu,rfl⟩);obtain ⟨lf,hlf⟩:∃ lf,(u.lay 0).length=lf:=⟨_,rfl⟩
     have hlb:lf<=1048576:=(by rw [elay] at hle;simp at hle;have:=HL.out.1;omega);have HWL:Hid (∀ w,(pA X).ho w->Calls Tryz.prog 40 #[.pointer (some ⟨X.s,0,none⟩),.int .i64 l] w fun e w'=>e=.returned (.tuple #[.agg #[.int .i64 (lf:Nat),.int .i64 a2,.int .i64 a3,.int .i64 a4,.int .u64 a5,.int .u64 a6],.nilIface])∧St w [] [] w'):=zh fun w h=>by have:=hw X w (.refl _) rfl h;rwa [hlf] at this
     have HRU:Hid (∀ w,(pA X).ho w->Calls Tryz.prog 68 #[.pointer (some ⟨X.s,0,none⟩),.int .i64 cur] w fun e w'=>e=.returned (.tuple #[.agg #[.int .i64 2,.int .u8 0,.int .i64 l,.int .i64 r,.int .i64 0],.nilIface])∧St w [] [] w'):=zh fun w h=>by have:=rule_c hx (cur:Int) (by rw [hci];exact Int.natCast_succ i) w (pA_sto h);rw [hen] at this;exact this
     obtain ⟨fe,hfe⟩:∃ fe,frm+n=fe:=⟨_,rfl⟩
     have i1:(frm:Int)+(n:Int)=(fe:Nat):=(by omega);have hfeb:fe<=1048576:=(by have:=HL.out.1;omega);by_cases c1:fe<=lf
     ·have d1:decide ((fe:Int)<=(lf:Int))=true:=(by simp;omega);have d2:decide (fe<=lf)=true:=(by simp;omega);have HLV:Hid (u.lv<(Tr.pair u v).lv):=zh (hg.kid (c:=u) (by simp [kids])).2;have HNX:Hid (Den X.S l u∧Canon u∧(u.lay 0).length<=s.length∧frm+n<=(u.lay 0).length∧((u.lay 0).drop frm).take n=tg):=zh ⟨hdu,cu,by rw [elay] at hle;simp at hle;omega,by omega,by rw [← htt,elay,part_left _ _ _ _ (by omega)]⟩;clear hrel hx hen ht hci hdn hcan hle hfn htt hg hk0 hdu hdv cu cv elay hw hlf c1;go_wp2_with (first|refine sL ?_|(refine sS ?_;clear H;intros;rename_i H)|(go_at_call 68;with_reducible refine zm (HRU.out _ (H.get pk)) ?_;rintro e9 wc ⟨rfl,hb⟩;replace H:=H.grew hb.below;clear hb)|(go_at_call 40;with_reducible refine zm (HWL.out _ (H.get pk)) ?_;rintro e9 wc ⟨rfl,hb⟩;replace H:=H.grew hb.below;clear hb)|(go_at_call 53;with_reducible refine same (HS.out _ (H.get pk)) ?_));go_roundg (u).lv;case measure=>exact HLV.out
      case rel=>exact ⟨l,frm,u,rfl,rfl,rfl,HNX.out,H.picks (.cons pk .nil)⟩
     ·have d1:decide ((fe:Int)<=(lf:Int))=false:=(by simp;omega);have d2:decide (fe<=lf)=false:=(by simp;omega);by_cases c2:lf<=frm
      ·have d3:decide ((lf:Int)<=(frm:Int))=true:=(by simp;omega);have d4:decide (lf<=frm)=true:=(by simp;omega);obtain ⟨f2,hf2⟩:∃ f2,frm-lf=f2:=⟨_,rfl⟩
       have i2:(frm:Int)-(lf:Int)=(f2:Nat):=(by omega);have hf2b:f2<=1048576:=(by omega);have HLV:Hid (v.lv<(Tr.pair u v).lv):=zh (hg.kid (c:=v) (by simp [kids])).2;have HNX:Hid (Den X.S r v∧Canon v∧(v.lay 0).length<=s.length∧f2+n<=(v.lay 0).length∧((v.lay 0).drop f2).take n=tg):=zh ⟨hdv,cv,by rw [elay] at hle;simp at hle;omega,by rw [elay] at hfn;simp at hfn;omega,by rw [← htt,elay,part_right _ _ _ _ (by omega),hlf,hf2]⟩;clear hrel hx hen ht hci hdn hcan hle hfn htt hg hk0 hdu hdv cu cv elay hw hlf c1 c2 hf2;go_wp2_with (first|refine sL ?_|(refine sS ?_;clear H;intros;rename_i H)|(go_at_call 68;with_reducible refine zm (HRU.out _ (H.get pk)) ?_;rintro e9 wc ⟨rfl,hb⟩;replace H:=H.grew hb.below;clear hb)|(go_at_call 40;with_reducible refine zm (HWL.out _ (H.get pk)) ?_;rintro e9 wc ⟨rfl,hb⟩;replace H:=H.grew hb.below;clear hb)|(go_at_call 53;with_reducible refine same (HS.out _ (H.get pk)) ?_));go_roundg (v).lv;case measure=>exact HLV.out
       case rel=>exact ⟨r,f2,v,rfl,rfl,rfl,HNX.out,H.picks (.cons pk .nil)⟩
      ·have d3:decide ((lf:Int)<=(frm:Int))=false:=(by simp;omega);have d4:decide (lf<=frm)=false:=(by simp;omega);generalize hTT:Tr.pair u v=T at *;have HIC:Hid (∀ w,((pA X).sep deA).ho w->Calls Tryz.prog 121 #[.pointer (some ⟨X.p,0,none⟩),.int .i64 cur,.int .i64 (frm:Nat),.int .i64 (n:Nat)] w fun e w'=>∃ (X':Px) (id:Nat),e=.returned (.tuple #[.int .i64 id,.nilIface])∧X.Ext X'∧PxOk X'∧IdIs X'.S id (tg)∧X'.S.list.length<=X.S.list.length+2*s.length∧St w (pA X).fp [pA X'] w'):=zh fun w h=>by
        refine (inner_c HX.out (.inr ⟨T,hrel.1,hrel.2.1,rfl⟩) hrel.2.2.2.1 (by have:=HL.out.1;have:=hrel.2.2.1;omega) (by have:=HL.out.2;have:=hrel.2.2.1;omega) w h).mono ?_;rintro e w' ⟨X',id,rfl,q1,q2,q3,q4,q5⟩;exact ⟨X',id,rfl,q1,q2,by rw [← hrel.2.2.2.2];exact q3,by have:=hrel.2.2.1;omega,q5⟩
       clear hrel hx hen ht hci hdn hcan hle hfn htt hg hk0 hdu hdv cu cv elay hw hlf c1 c2 hTT;go_wp2_with (first|refine sL ?_|(refine sS ?_;clear H;intros;rename_i H)|(go_at_call 68;with_reducible refine zm (HRU.out _ (H.get pk)) ?_;rintro e9 wc ⟨rfl,hb⟩;replace H:=H.grew hb.below;clear hb)|(go_at_call 40;with_reducible refine zm (HWL.out _ (H.get pk)) ?_;rintro e9 wc ⟨rfl,hb⟩;replace H:=H.grew hb.below;clear hb)|(go_at_call 53;with_reducible refine same (HS.out _ (H.get pk)) ?_)|(go_at_call 121;with_reducible refine zm (HIC.out _ (H.sepK HK pk pk)) ?_;rintro e9 wc ⟨X2,id2,rfl,y1,y2,y3,y4,hb⟩;have HY:=zh (za y1 (za y2 (za y3 y4)));clear y1 y2 y3 y4;replace H:=zn ((H.pick pk).call hb);clear hb));go_ret2;exact ⟨X2,id2,rfl,HY.out.1,HY.out.2.1,by rw [HTG.out];exact HY.out.2.2.1,HY.out.2.2.2,H.picks (.cons pk .nil)⟩
    ·subst hte;have cu:=hcan.kid (j:=0) (c:=u) (by have h2:2<=k:=hg.2.2;simp only [kids];rw [List.getElem?_replicate,if_pos (by omega)]);have elay:=pow_lay0 hg;obtain ⟨a2,a3,a4,a5,a6,hw⟩:=weight_any HX.out (.inr ⟨u,hdu,cu,rfl⟩);have hup:=canon_pos cu;have hmem:u∈kids (Tr.pow u k):=List.mem_replicate.2 ⟨by have h2:2<=k:=hg.2.2;omega,rfl⟩;obtain ⟨lf,hlf⟩:∃ lf,(u.lay 0).length=lf:=⟨_,rfl⟩
     have hkl:((List.replicate k (u.lay 0)).flatten).length=k*lf:=(by simp [hlf]);have hkl2:lf<=k*lf:=Nat.le_mul_of_pos_left _ (by have h2:2<=k:=hg.2.2;omega);have hlb:lf<=1048576:=(by rw [elay,hkl] at hle;have:=HL.out.1;omega);have HWL:Hid (∀ w,(pA X).ho w->Calls Tryz.prog 40 #[.pointer (some ⟨X.s,0,none⟩),.int .i64 l] w fun e w'=>e=.returned (.tuple #[.agg #[.int .i64 (lf:Nat),.int .i64 a2,.int .i64 a3,.int .i64 a4,.int .u64 a5,.int .u64 a6],.nilIface])∧St w [] [] w'):=zh fun w h=>by have:=hw X w (.refl _) rfl h;rwa [hlf] at this
     have HRU:Hid (∀ w,(pA X).ho w->Calls Tryz.prog 68 #[.pointer (some ⟨X.s,0,none⟩),.int .i64 cur] w fun e w'=>e=.returned (.tuple #[.agg #[.int .i64 3,.int .u8 0,.int .i64 l,.int .i64 0,.int .i64 k],.nilIface])∧St w [] [] w'):=zh fun w h=>by have:=rule_c hx (cur:Int) (by rw [hci];exact Int.natCast_succ i) w (pA_sto h);rw [hen] at this;exact this
     obtain ⟨q,hq⟩:∃ q,frm/lf=q:=⟨_,rfl⟩
     obtain ⟨rr,hrr⟩:∃ rr,frm%lf=rr:=⟨_,rfl⟩
     have hdm:=Nat.div_add_mod frm lf;rw [hq,hrr,Nat.mul_comm] at hdm;have hrl:=Nat.mod_lt frm (show 0<lf by omega);rw [hrr] at hrl;have i0:(frm:Int).tmod (lf:Int)=(rr:Nat):=(by rw [← hrr];rfl);have i0z:((lf:Int)==0)=false:=(by simp;omega);have i0n:¬ (lf:Int)=0:=(by omega);have i0m:¬ lf=0:=(by omega);obtain ⟨fe,hfe⟩:∃ fe,rr+n=fe:=⟨_,rfl⟩
     have i1:(rr:Int)+(n:Int)=(fe:Nat):=(by omega);have hfeb:fe<=2097152:=(by omega);have hrrb:rr<=1048576:=(by omega);by_cases c1:fe<=lf
     ·have d1:decide ((fe:Int)<=(lf:Int))=true:=(by simp;omega);have d2:decide (fe<=lf)=true:=(by simp;omega);have HLV:Hid (u.lv<(Tr.pow u k).lv):=zh (hg.kid (c:=u) hmem).2;have HNX:Hid (Den X.S l u∧Canon u∧(u.lay 0).length<=s.length∧rr+n<=(u.lay 0).length∧((u.lay 0).drop rr).take n=tg):=zh ⟨hdu,cu,by rw [elay,hkl] at hle;omega,by omega,by
       have hqk:q<k:=by
        refine Nat.lt_of_not_le fun h9=>?_
        have h8:=Nat.mul_le_mul_right lf h9;rw [elay,hkl] at hfn;have:=HN0.out;omega
       have h7:=copy_part (u.lay 0) k q rr n (by omega) hqk;rw [hlf,hdm] at h7;rw [← htt,elay,h7]⟩
      clear hrel hx hen ht hci hdn hcan hle hfn htt hg hk0 hdu hk cu elay hw hlf c1 hup hmem hkl hkl2 hq hrr hdm hrl hfe;go_wp2_with (first|refine sL ?_|(refine sS ?_;clear H;intros;rename_i H)|(go_at_call 68;with_reducible refine zm (HRU.out _ (H.get pk)) ?_;rintro e9 wc ⟨rfl,hb⟩;replace H:=H.grew hb.below;clear hb)|(go_at_call 40;with_reducible refine zm (HWL.out _ (H.get pk)) ?_;rintro e9 wc ⟨rfl,hb⟩;replace H:=H.grew hb.below;clear hb)|(go_at_call 53;with_reducible refine same (HS.out _ (H.get pk)) ?_));refine wp_region_h H 7 [] [] (by kernel_rfl) (by kernel_rfl) ?_;apply Exists.intro;refine ⟨fun w1 hw1 HX=>?_,fun bs wr Hr=>?_⟩
      ·refine sG ?_;repeat (first|go_big_quiet_skip|refine sQ ?_|fail|go_big_quiet_step (fail))
       exact wpQuiet_nil rfl
      clear H;have H:=Hr;clear Hr;replace H:=sH H;refine sT ?_;go_wp2_with (first|refine sL ?_|(refine sS ?_;clear H;intros;rename_i H));go_roundg (u).lv;case measure=>exact HLV.out
      case rel=>exact ⟨l,rr,u,rfl,rfl,rfl,HNX.out,H.picks (.cons pk .nil)⟩
     ·have d1:decide ((fe:Int)<=(lf:Int))=false:=(by simp;omega);have d2:decide (fe<=lf)=false:=(by simp;omega);generalize hTT:Tr.pow u k=T at *;have HIC:Hid (∀ w,((pA X).sep deA).ho w->Calls Tryz.prog 121 #[.pointer (some ⟨X.p,0,none⟩),.int .i64 cur,.int .i64 (frm:Nat),.int .i64 (n:Nat)] w fun e w'=>∃ (X':Px) (id:Nat),e=.returned (.tuple #[.int .i64 id,.nilIface])∧X.Ext X'∧PxOk X'∧IdIs X'.S id (tg)∧X'.S.list.length<=X.S.list.length+2*s.length∧St w (pA X).fp [pA X'] w'):=zh fun w h=>by
       refine (inner_c HX.out (.inr ⟨T,hrel.1,hrel.2.1,rfl⟩) hrel.2.2.2.1 (by have:=HL.out.1;have:=hrel.2.2.1;omega) (by have:=HL.out.2;have:=hrel.2.2.1;omega) w h).mono ?_;rintro e w' ⟨X',id,rfl,q1,q2,q3,q4,q5⟩;exact ⟨X',id,rfl,q1,q2,by rw [← hrel.2.2.2.2];exact q3,by have:=hrel.2.2.1;omega,q5⟩
      clear hrel hx hen ht hci hdn hcan hle hfn htt hg hk0 hdu hk cu elay hw hlf c1 hup hmem hkl hkl2 hq hrr hdm hrl hfe hTT;go_wp2_with (first|refine sL ?_|(refine sS ?_;clear H;intros;rename_i H)|(go_at_call 68;with_reducible refine zm (HRU.out _ (H.get pk)) ?_;rintro e9 wc ⟨rfl,hb⟩;replace H:=H.grew hb.below;clear hb)|(go_at_call 40;with_reducible refine zm (HWL.out _ (H.get pk)) ?_;rintro e9 wc ⟨rfl,hb⟩;replace H:=H.grew hb.below;clear hb)|(go_at_call 53;with_reducible refine same (HS.out _ (H.get pk)) ?_)|(go_at_call 121;with_reducible refine zm (HIC.out _ (H.sepK HK pk pk)) ?_;rintro e9 wc ⟨X2,id2,rfl,y1,y2,y3,y4,hb⟩;have HY:=zh (za y1 (za y2 (za y3 y4)));clear y1 y2 y3 y4;replace H:=zn ((H.pick pk).call hb);clear hb));go_ret2;exact ⟨X2,id2,rfl,HY.out.1,HY.out.2.1,by rw [HTG.out];exact HY.out.2.2.1,HY.out.2.2.2,H.picks (.cons pk .nil)⟩
end
section
open Go.RowKit Go.Maps
attribute [local go_sem] InGr
theorem range_ok (a b n:Nat) (h:a+b<=n) (hn:n<=1152921504606846976) (w:World) :
  Calls Tryz.prog 89 #[.int .i64 a,.int .i64 b,.int .i64 n] w fun e w'=>e=.returned .nilIface∧w'=w:=by
 have HV:Hid (Calls Tryz.prog 95 #[.int .i64 n] w fun e w'=>e=.returned (.bool true)∧w'=w):=zh (valid_c n true (by symm;rw [decide_eq_true_eq];omega) w);have H:=St.nil w [];have HK:=Ks.nil w [];have d1:decide ((a:Int)<0)=false:=(by simp);have d2:decide ((b:Int)<0)=false:=(by simp);have d3:decide (n<a)=false:=(by simp;omega);have d4:decide ((n:Int)-a<b)=false:=(by simp;omega);go_enter Tryz.func89,Tryz.ntmps89;go_wp2_with (first|refine sL ?_|(go_at_call 95;with_reducible refine same (HV.out) ?_));go_ret;exact ⟨rfl,rfl⟩
theorem range_no (a b:Int) (n:Nat) (h:¬ (0<=a∧0<=b∧a+b<=n)) (hn:n<=1152921504606846976) (w:World) :
  Calls Tryz.prog 89 #[.int .i64 a,.int .i64 b,.int .i64 n] w fun e w'=>e=.returned (EV 1)∧w'=w:=by
 have HV:Hid (Calls Tryz.prog 95 #[.int .i64 n] w fun e w'=>e=.returned (.bool true)∧w'=w):=zh (valid_c n true (by symm;rw [decide_eq_true_eq];omega) w);have H:=St.nil w [];have HK:=Ks.nil w [];by_cases h1:a<0
 ·have d1:decide (a<0)=true:=(by simpa using h1);clear h;go_enter Tryz.func89,Tryz.ntmps89;go_wp2_with (first|refine sL ?_|(go_at_call 95;with_reducible refine same (HV.out) ?_));go_ret;exact ⟨rfl,rfl⟩
 ·have d1:decide (a<0)=false:=(by simpa using h1);by_cases h2:b<0
  ·have d2:decide (b<0)=true:=(by simpa using h2);clear h;go_enter Tryz.func89,Tryz.ntmps89;go_wp2_with (first|refine sL ?_|(go_at_call 95;with_reducible refine same (HV.out) ?_));go_ret;exact ⟨rfl,rfl⟩
  ·have d2:decide (b<0)=false:=(by simpa using h2);by_cases h3:(n:Int)<a
   ·have d3:decide ((n:Int)<a)=true:=(by simpa using h3);clear h;go_enter Tryz.func89,Tryz.ntmps89;go_wp2_with (first|refine sL ?_|(go_at_call 95;with_reducible refine same (HV.out) ?_));go_ret;exact ⟨rfl,rfl⟩
   ·have d3:decide ((n:Int)<a)=false:=(by simpa using h3);have h4:(n:Int)-a<b:=(by omega);have d4:decide ((n:Int)-a<b)=true:=(by simpa using h4);have hw:=IntWalk.i64_in ((n:Int)-a) (by omega);clear h;go_enter Tryz.func89,Tryz.ntmps89;go_wp2_with (first|refine sL ?_|(go_at_call 95;with_reducible refine same (HV.out) ?_));go_ret;exact ⟨rfl,rfl⟩
theorem Section_ok {X:Px} {x from_ n:Nat} {s:List Tr} (hX:PxOk X) (hd:IdIs X.S x s) (hf:from_+n<=s.length) (hl:s.length<=1048576) (hroom:X.S.list.length+2*s.length<=X.S.most) (w:World) (h:PH X w) :
  Calls Tryz.prog 56 #[.pointer (some ⟨X.p,0,none⟩),.int .i64 x,.int .i64 (from_:Nat),.int .i64 (n:Nat)] w fun e w'=>∃ (X':Px) (id:Nat),e=.returned (.tuple #[.int .i64 id,.nilIface])∧X.Ext X'∧PxOk X'∧IdIs X'.S id ((s.drop from_).take n)∧X'.S.list.length<=X.S.list.length+2*s.length∧St w (pA X).fp [pA X'] w':=by
 have h:((pA X).sep deA).ho w:=h;rw [sep_ho] at h;obtain ⟨k1,k2,hdd⟩:=h;have H:=St.one k1;have HK:Ks w (pA X).fp [deA]:=⟨by simpa using k2,by simpa using fun b hb hm=>hdd b hm hb⟩
 generalize (pA X).fp=N at *;clear k1 k2 hdd;obtain ⟨ls,hls⟩:∃ n,s.length=n:=⟨_,rfl⟩
 have HCK:Hid (∀ w,((pA X).sep deA).ho w->Calls Tryz.prog 88 #[.pointer (some ⟨X.p,0,none⟩),.int .i64 x] w (PPost X (.tuple #[.int .i64 (ls:Nat),.nilIface]) (pA X).fp w)):=zh fun w h=>by have:=check_c hX hd w h;rwa [hls] at this
 have HRG:Hid (∀ w,Calls Tryz.prog 89 #[.int .i64 (from_:Nat),.int .i64 (n:Nat),.int .i64 (ls:Nat)] w fun e w'=>e=.returned .nilIface∧w'=w):=zh fun w=>range_ok from_ n ls (by omega) (by omega) w
 have H2:Hid (∀ X2:Px,X.Ext X2->PxOk X2->X2.S=X.S->∀ w,((pA X2).sep deA).ho w->Calls Tryz.prog 90 #[.pointer (some ⟨X.p,0,none⟩),.int .i64 x,.int .i64 (from_:Nat),.int .i64 (n:Nat)] w fun e w'=>∃ (X':Px) (id:Nat),e=.returned (.tuple #[.int .i64 id,.nilIface])∧X2.Ext X'∧PxOk X'∧IdIs X'.S id ((s.drop from_).take n)∧X'.S.list.length<=X2.S.list.length+2*s.length∧St w (pA X2).fp [pA X'] w'):=zh fun X2 q1 q2 q3 w h=>by
  have hm:X2.S.most=X.S.most:=q1.le.1;have hln:X2.S.list.length=X.S.list.length:=(by rw [q3]);have:=section_c q2 (by rw [q3];exact hd) hf hl (by omega) w h;rw [q1.p] at this;exact this
 have HCN:Hid (2*s.length<=2*s.length):=zh (Nat.le_refl _);clear hX hd hf hl hroom hls;go_enter Tryz.func56,Tryz.ntmps56;go_wp2_with (first|refine sL ?_|(refine sS ?_;clear H;intros;rename_i H)|(go_at_call 88;with_reducible refine zm (HCK.out _ (H.sepK HK pk pk)) ?_;rintro e9 wc ⟨X2,y1,y2,y3,rfl,hb⟩;have HY:=zh (za y1 (za y2 y3));clear y1 y2 y3;replace H:=zn ((H.pick pk).call hb);clear hb)|(go_at_call 89;with_reducible refine same (HRG.out _) ?_)|(go_at_call 90;with_reducible refine zm (H2.out X2 HY.out.1 HY.out.2.1 HY.out.2.2 _ (H.sepK HK pk pk)) ?_;rintro e9 wc ⟨X3,id3,rfl,y1,y2,y3,y4,hb⟩;have HZ:=zh (za y1 (za y2 (za y3 y4)));clear y1 y2 y3 y4;replace H:=zn ((H.pick pk).call hb);clear hb));go_ret2;exact ⟨X3,id3,rfl,HY.out.1.trans HZ.out.1,HZ.out.2.1,HZ.out.2.2.1,by have h1:=HZ.out.2.2.2;have h2:=HCN.out;rw [HY.out.2.2] at h1;omega,H.picks (.cons pk .nil)⟩
end
section
open Go.RowKit Go.Maps
attribute [local go_sem] InGr
theorem run_append_in {α:Type} {enc:α->List Value} {t e ty:TypeId} (hte:sliceO t=some e) {z:Value} {k bytes:Nat} (hi:infoO e=some (z,k,bytes)) (hz:z.cells.size=k) (hk0:0<k) (hb0:0<bytes) {v:Value} {xs:List α} {w:World} (hrow:(rowsA enc e k v xs).ho w) {P:PoolT} {u:Value} {ys:List α} (hu:RowIn P enc k u ys) (hp:(poolA P).ho w) (hk:∀ x,(enc x).length=k) (h1:∀ x,∀ u∈enc x,u.oneCell'=true) (hb:(xs.length+ys.length)*bytes<=140737488355328) (hy:0<ys.length) :
  ∃ v' w',(Builtin.append_ #[t,t] ty #[v,u]).run Tryz.prog w=.ok v' w'∧St w (rowsA enc e k v xs).fp [rowsA enc e k v' (xs++ys)] w':=by
 obtain ⟨i,h2,h3,h4,h5⟩:=infoO_ok hi;unfold rowsA at hrow ⊢;obtain ⟨ad,c,rfl,hmax,hpm⟩:=hu;obtain ⟨g,o,rfl,hm⟩:=hpm hy;have hr:=pool_rng hp hm;obtain ⟨v',w',r1,r2⟩:=run_append_st (P:=Tryz.prog) t ty e i z k bytes (sliceO_ok hte) h2 h3 h4 h5 hz hk0 v xs.length (flatG enc xs) hrow ⟨g,o,none⟩ ys.length c (flatG enc ys) (flatG_len enc k hk ys) (fun j q hj=>by rw [Addr.add_mid];exact hr j q hj) (flatG_one h1 ys) hb hb0;refine ⟨v',w',r1,?_⟩;rw [List.length_append,show flatG enc (xs++ys)=flatG enc xs++flatG enc ys by simp [flatG]];exact r2
section
variable {ops:Array Oper} {Q:Exit->Act->World->Prop} {rest:List Oper} {a:Act} {w w0:World} {M:List Nat} {L R:List As} {o1:Oper}
theorem AtSlice.zero {α:Type} (enc:α->List Value) {t e:TypeId} (H:St w0 M L w) (hw:Region.wanted o1 (yielded ops a.tmps)=true) (ho:o1.op=.buildSlice t 0 #[]) (hte:sliceO t=some e) {z:Value} {k bytes:Nat} (hi:infoO e=some (z,k,bytes)) (hk:∀ x,(enc x).length=k)
  (h:∀ b w',St w0 M (rowsA enc e k (.slice (some ⟨b,0,none⟩) 0 0) []::L) w'->wpList Tryz.prog ops Q rest (a.put o1.dst (.slice (some ⟨b,0,none⟩) 0 0)) w'):AtSlice Tryz.prog ops Q o1 t 0 #[] rest a w :=
 wpList_step fun _ hK=>by
  rw [if_pos hw];unfold Oper.wp execOp;simp only [ho,List.map_toArray,List.map_nil,Sem.run_bind,run_slice0 hte hi,Result.andThen_ok,Sem.run_pure];exact hK _ _ (h _ _ ((H.alloc (.cells #[] e)).conv (by rw [rowsA_fp',blk_fp];rfl) fun hb=>rowsA_of_blk (xs:=[]) (by rw [blk_ho] at hb;exact hb) (by simp [maxLen]) (by simp [flatG]) hk))
theorem AtAppend.pool {α:Type} {enc:α->List Value} {t e:TypeId} {x y:Operand} (H:St w0 M L w) (hw:Region.wanted o1 (yielded ops a.tmps)=true) (ho:o1.op=.call ⟨.builtin .append,#[x,y],#[t,t]⟩) (hte:sliceO t=some e) {z:Value} {k bytes:Nat} (hi:infoO e=some (z,k,bytes))
  (hz:z.cells.size=k) (hk0:0<k) (hb0:0<bytes) {v:Value} (hx:evalO a x=some v) {xs:List α} (hp:Pick L (rowsA enc e k v xs) R) {P:PoolT} {u:Value} (hy:evalO a y=some u) {ys:List α} (hu:RowIn P enc k u ys) (hpo:(poolA P).ho w) (hk:∀ x,(enc x).length=k) (h1:∀ x,∀ u∈enc x,u.oneCell'=true) (hb:(xs.length+ys.length)*bytes<=140737488355328) (hy0:0<ys.length)
  (h:∀ ad cp w',St w0 M (rowsA enc e k (.slice ad (xs.length+ys.length) cp) (xs++ys)::R) w'->wpList Tryz.prog ops Q rest (a.put o1.dst (.slice ad (xs.length+ys.length) cp)) w'):AtAppend Tryz.prog ops Q o1 t x y rest a w :=
 wpList_step fun _ hK=>by
  rw [if_pos hw];have H':=H.pick hp;obtain ⟨v',w',hr,hst⟩:=run_append_in (ty:=o1.type) hte hi hz hk0 hb0 (H'.ho _ List.mem_cons_self) hu hpo hk h1 hb hy0;unfold Oper.wp execOp;simp only [ho,resolve,invoke,builtin,Sem.run_bind,Sem.run_pure,Result.andThen_ok,List.map_toArray,List.map_cons,List.map_nil,evalO_eq hx,evalO_eq hy,hr];obtain ⟨ad,cp,rfl,_⟩:=rowsA_shape (hst.ho _ List.mem_cons_self);have hst2:=H'.call hst;simp only [List.length_append] at hst2 ⊢;exact hK _ _ (h ad cp w' hst2)
end
theorem nil_leaves (text:List Nat):Leaves (text.map Tr.leaf):=fun t ht=>by
 obtain ⟨b,_,rfl⟩:=List.mem_map.1 ht;exact ⟨b,rfl⟩
theorem of_zero {X:Px} {ad:Option Addr} {c:Nat} (w:World) (h:(pA X).ho w):Calls Tryz.prog 22 #[.pointer (some ⟨X.p,0,none⟩),.slice ad 0 c] w fun e w'=>e=.returned (.tuple #[.int .i64 0,.nilIface])∧w'=w:=by
 have HC0:=zh (pA_c0 h);clear h;go_enter Tryz.func22,Tryz.ntmps22;go_wp2_with (first|refine sL ?_|(refine sS ?_;clear H;intros;rename_i H)|((with_reducible refine isLoad ?_);refine AtLoad.cel rfl rfl rfl rfl HC0.out ?_;simp only [Act.put,puA,puB,puC]));go_ret2;exact ⟨rfl,rfl⟩
theorem of_any {X:Px} {P:PoolT} {text:List Nat} {v:Value} (hX:PxOk X) (hr:RowIn P encT 1 v text) (hb:∀ x∈text,x<256) (hlen:text.length<=65536) (hroom:X.S.list.length+2*text.length<X.S.most) (w:World) (hd:((pA X).sep deA).ho w) (hp:((pA X).sep (poolA P)).ho w) :
  Calls Tryz.prog 22 #[.pointer (some ⟨X.p,0,none⟩),v] w fun e w'=>∃ (X':Px) (id:Nat),e=.returned (.tuple #[.int .i64 id,.nilIface])∧X.Ext X'∧PxOk X'∧IdIs X'.S id (text.map Tr.leaf)∧X'.S.list.length<=X.S.list.length+2*text.length∧St w (pA X).fp [pA X'] w':=by
 rcases Nat.eq_zero_or_pos text.length with h0|h0
 ·obtain rfl:=List.eq_nil_of_length_eq_zero h0;obtain ⟨ad,c,rfl,_⟩:=hr;rw [sep_ho] at hd;refine (of_zero w hd.1).mono ?_;rintro e w' ⟨rfl,rfl⟩;exact ⟨X,0,rfl,.refl _,hX,.inl ⟨rfl,rfl⟩,by omega,St.one hd.1⟩
 ·obtain ⟨T,t1,t2,t3⟩:=canon_exists (nil_leaves text) (fun e=>by simp at e;rw [e] at h0;simp at h0) (by simp;omega);refine (of_p hX hr hb h0 hlen t1 t2 t3 w hd hp).mono ?_;rintro e w' ⟨X',q1,q2,q3,q4,q5⟩;rcases q4 with ⟨id,rfl,q6⟩|⟨_,q6⟩
  ·exact ⟨X',id,rfl,q1,q2,.inr ⟨T,q6,t1,t2⟩,q3,q5⟩
  ·have h9:X'.S.most=X.S.most:=q1.le.1;omega
end
section
open Go.RowKit Go.Maps
attribute [local go_sem] InGr
abbrev IdPost (X:Px) (s:List Tr) (k:Nat) (M:List Nat) (w:World) (e:Ending) (w':World):Prop :=
 ∃ (X':Px) (id:Nat),e=.returned (.tuple #[.int .i64 id,.nilIface])∧X.Ext X'∧PxOk X'∧IdIs X'.S id s∧X'.S.list.length<=X.S.list.length+k∧St w M [pA X'] w'
theorem join_c {X:Px} {a b:Nat} {sa sb:List Tr} (hX:PxOk X) (ha:IdIs X.S a sa) (hb:IdIs X.S b sb) (hl:sa.length+sb.length<=1048576) (hroom:X.S.list.length+(sa.length+sb.length)<=X.S.most) (w:World) (h:PH X w) :
  Calls Tryz.prog 94 #[.pointer (some ⟨X.p,0,none⟩),.int .i64 a,.int .i64 b] w (IdPost X (sa++sb) (sa.length+sb.length) (pA X).fp w):=by
 have h:((pA X).sep deA).ho w:=h;rw [sep_ho] at h;obtain ⟨k1,k2,hdd⟩:=h;have H:=St.one k1;have HK:Ks w (pA X).fp [deA]:=⟨by simpa using k2,by simpa using fun b hb hm=>hdd b hm hb⟩
 generalize (pA X).fp=N at *;clear k1 k2 hdd;have HSZ:Hid (∀ w,(pA X).ho w->Calls Tryz.prog 92 #[.pointer (some ⟨X.p,0,none⟩),.int .i64 a] w fun e w'=>e=.returned (.int .i64 (sa.length:Nat))∧St w [] [] w'):=zh fun w h=>size_any hX ha w h
 have HSP:Hid (∀ w,((pA X).sep deA).ho w->Calls Tryz.prog 123 #[.pointer (some ⟨X.p,0,none⟩),.int .i64 a,.int .i64 (sa.length:Nat),.int .i64 b,.int .i64 0] w (IdPost X (sa++sb) (sa.length+sb.length) (pA X).fp w)):=zh fun w h=>by
  have:=splice_c (X:=X) (a:=a) (i:=sa.length) (sa:=sa) (b:=b) (j:=0) (sb:=sb) hX ha hb (Nat.le_refl _) (Nat.zero_le _) (by simp;omega) (by simp;omega) w h;simp only [List.take_length,List.drop_zero,List.length_append] at this;exact this
 clear hX ha hb hl hroom;go_enter Tryz.func94,Tryz.ntmps94;go_wp2_with (first|refine sL ?_|(refine sS ?_;clear H;intros;rename_i H)|(go_at_call 92;with_reducible refine zm (HSZ.out _ (H.get pk)) ?_;rintro e9 wc ⟨rfl,hb⟩;replace H:=H.grew hb.below;clear hb)|(go_at_call 123;with_reducible refine zm (HSP.out _ (H.sepK HK pk pk)) ?_;rintro e9 wc ⟨X2,id2,rfl,y1,y2,y3,y4,hb⟩;have HY:=zh (za y1 (za y2 (za y3 y4)));clear y1 y2 y3 y4;replace H:=zn ((H.pick pk).call hb);clear hb));go_ret2;exact ⟨X2,id2,rfl,HY.out.1,HY.out.2.1,HY.out.2.2.1,HY.out.2.2.2,H.picks (.cons pk .nil)⟩
theorem St.row_arr {enc:Nat->List Value} {f:Nat->Value} (henc:∀ x,enc x=[f x]) {e:TypeId} {v:Value} {ids:List Nat} {w0 w:World} {M:List Nat} {R:List As} (H:St w0 M (rowsA enc e 1 v ids::R) w) (hn:0<ids.length) :
  ∃ (g c:Nat) (C:Array Value),v=.slice (some ⟨g,0,none⟩) ids.length c∧ids.length<=c∧c<=maxLen∧Arr C c f [] ids 0∧St w0 M (blk g (.cells C e)::R) w:=by
 have h:=H.ho _ List.mem_cons_self;rw [rowsA_ho] at h;obtain ⟨hl,⟨_,h2⟩|⟨g,cap,cur,h1,h3,h4,h5,h6,h7,h8⟩⟩:=h
 ·omega
 ·refine ⟨g,cap,cur,h1,h5,h6,⟨by omega,by simp,fun p x _ hp=>?_⟩,?_⟩
  ·have hg:=flatG_get enc 1 (fun x=>by rw [henc];rfl) ids p x hp 0 (by omega);rw [Nat.mul_one,Nat.add_zero,← h8,henc] at hg;have:=(List.getElem?_take (l:=cur.toList) (i:=ids.length*1) (j:=p))
   have hlt:=gelt hg;have hlt2:p<cur.toList.length:=(by simp at hlt ⊢;omega);rw [List.getElem?_take] at hg;split at hg
   ·simpa using hg
   ·simp at hg
  ·subst h1;exact H.conv (by rw [blk_fp,rowsA_fp'];rfl) fun _=>by rw [blk_ho];exact h4
theorem clone_id {ids:List Nat} {ad:Option Addr} {c:Nat} (hn:0<ids.length) (hm:ids.length<=65536) (w:World) (h:(rowsA encI 26 1 (.slice ad ids.length c) ids).ho w) :
  Calls Tryz.prog 93 #[.slice ad ids.length c] w fun e w'=>∃ (g d:Nat) (C:Array Value),e=.returned (.slice (some ⟨g,0,none⟩) ids.length d)∧ids.length<=d∧d<=maxLen∧Arr C d fI [] ids 0∧St w [] [blk g (.cells C 26)] w':=by
 obtain ⟨g0,c0,e0,_⟩:=rowsA_cases h hn;injection e0 with e1 e2 e3
 subst e1 e3;clear e2;obtain ⟨P,hr,hp,_⟩:=rowsA_pool h encI_len;have H:=St.nil w [];have HK:=Ks.one hp;have HR:=zh hr;have HL:=zh (za hn hm);clear h hr hp hn hm;obtain ⟨n,hnn⟩:∃ n,ids.length=n:=⟨_,rfl⟩
 have HN:=zh hnn;rw [hnn] at HR HL ⊢;clear hnn;have hne:∀ w,(binOp .eql 63 (.slice (some ⟨g0,0,none⟩) n c) (.slice none 0 0)).run Tryz.prog w=.ok (.bool false) w:=fun w=>by kernel_rfl
 go_enter Tryz.func93,Tryz.ntmps93;go_wp2_with (first|refine sL ?_|(refine sS ?_;clear H;intros;rename_i H)|((with_reducible refine isSlice ?_);refine AtSlice.zero encI H rfl rfl rfl rfl encI_len ?_;clear H;intro b9 _ H;simp only [Act.put,puA,puB,puC])|((with_reducible refine isAppend ?_);refine AtAppend.pool (enc:=encI) (P:=P) (ys:=ids) H rfl rfl rfl rfl rfl (by decide) (by decide) rfl pk rfl HR.out (H.known HK pk) encI_len encI_one (by have h1:=HL.out;have h2:=HN.out;simp;omega) (by have h1:=HL.out;have h2:=HN.out;omega) ?_;clear H;intro ad9 cp9 _ H;simp only [Act.put,puA,puB,puC]));go_ret;simp only [List.nil_append,List.length_nil,Nat.zero_add] at H ⊢;rw [HN.out] at H ⊢;obtain ⟨g,d,C,e1,h1,h2,h3,h4⟩:=St.row_arr (f:=fI) (fun _=>rfl) (H.pick (A:=rowsA encI 26 1 (.slice ad9 n cp9) ids) pk) (by have h1:=HL.out;have h2:=HN.out;omega);rw [HN.out] at e1 h1;injection e1 with e1 _ e3
 subst e1 e3;exact ⟨g,cp9,rfl,h1,h2,C,h3,h4.picks (.cons (A:=blk g (.cells C 26)) pk .nil)⟩
def CcRel1 (X:Px) (N:List Nat) (w:World) (n m:Nat) (v:Value) (wr:World):Prop :=
 ∃ (i:Nat) (X1:Px),m=n-i∧i<=n∧v=.int .i64 i∧(X.Ext X1∧PxOk X1∧X1.S=X.S)∧St w N [pA X1] wr
def CcRel2 (X:Px) (N:List Nat) (w:World) (ss:List (List Tr)) (n m:Nat) (v1 v:Value) (wr:World):Prop :=
 ∃ (i sm:Nat),m=n-i∧i<=n∧v1=.int .i64 sm∧v=.int .i64 i∧sm=totL (ss.take i)∧St w N [pA X] wr
def CcRel3 (X:Px) (N:List Nat) (w:World) (fl:List Tr) (tot n0 g cap m:Nat) (v:Value) (wr:World):Prop :=
 ∃ (X1:Px) (k:Nat) (C:Array Value) (nids:List Nat) (us:List (List Tr)),m=2*k∧v=.slice (some ⟨g,0,none⟩) k cap∧(1<=k∧k<=n0∧nids.length=k∧IdL X1.S nids us∧us.flatten=fl∧Arr C cap fI [] nids 0∧X.Ext X1∧PxOk X1∧X1.S.list.length+k*tot<=X.S.list.length+n0*tot)∧St w N [pA X1,blk g (.cells C 26)] wr
def CcRel4 (X1:Px) (N:List Nat) (w:World) (nids:List Nat) (us:List (List Tr)) (k g cap m:Nat) (v1 v2:Value) (wr:World):Prop :=
 ∃ (X2:Px) (j i:Nat) (C:Array Value) (hids:List Nat),m=k-j∧v1=.slice (some ⟨g,0,none⟩) j cap∧v2=.int .i64 i∧(i=2*j∧i<=k∧hids.length=j∧IdL X2.S hids ((halveL us).take j)∧Arr C cap fI hids nids i∧X1.Ext X2∧PxOk X2∧X2.S.list.length<=X1.S.list.length+totL ((halveL us).take j))∧St w N [pA X2,blk g (.cells C 26)] wr
attribute [local go_sem] StStep stAt stUpon in
theorem concat_c {X:Px} {ids:List Nat} {ss:List (List Tr)} {ad:Option Addr} {c:Nat} (hX:PxOk X) (hd:IdL X.S ids ss) (hn:ids.length<=65536) (hl:totL ss<=1048576) (hroom:X.S.list.length+ids.length*totL ss<=X.S.most) (w:World) (h:PH X w) (hr:((pA X).sep (rowsA encI 26 1 (.slice ad ids.length c) ids)).ho w) :
  Calls Tryz.prog 57 #[.pointer (some ⟨X.p,0,none⟩),.slice ad ids.length c] w (IdPost X ss.flatten (ids.length*totL ss) (pA X).fp w):=by
 have h:((pA X).sep deA).ho w:=h;rw [sep_ho] at h hr;have H:=St.one h.1;have HK:Ks w (pA X).fp [deA,(rowsA encI 26 1 (.slice ad ids.length c) ids)]:=⟨fun A hA=>by
   simp at hA;rcases hA with rfl|rfl
   ·exact h.2.1
   ·exact hr.2.1,fun A hA b hbA hm=>by
   simp at hA;rcases hA with rfl|rfl
   ·exact h.2.2 b hm hbA
   ·exact hr.2.2 b hm hbA⟩
 generalize (pA X).fp=N at *;clear h hr;obtain ⟨n,hnn⟩:∃ n,ids.length=n:=⟨_,rfl⟩
 obtain ⟨tot,htot⟩:∃ t,totL ss=t:=⟨_,rfl⟩
 obtain ⟨L,hL⟩:∃ n,X.S.list.length=n:=⟨_,rfl⟩
 have hsl:=hd.len;rw [hnn] at hsl hn hroom HK ⊢;rw [htot] at hl hroom ⊢;have HST:Hid (∀ X2:Px,X.Ext X2->∀ w,(pA X2).ho w->Calls Tryz.prog 53 #[.pointer (some ⟨X.p,0,none⟩)] w fun e w'=>e=.returned (.pointer (some ⟨X.s,0,none⟩))∧w'=w):=zh fun X2 q w h=>by have:=store_p w h;rwa [q.p,q.s] at this
 have HLE:Hid (∀ X2:Px,X.Ext X2->X2.S=X.S->∀ w,(pA X2).ho w->Calls Tryz.prog 38 #[.pointer (some ⟨X.s,0,none⟩)] w fun e w'=>e=.returned (.int .i64 (L:Nat))∧w'=w):=zh fun X2 q e w h=>by have:=len_c w (pA_sto h);rwa [e,hL,q.s] at this
 have HTP:Hid (∀ (X1:Px) (id:Nat) (s:List Tr),X.Ext X1->PxOk X1->X1.S=X.S->IdIs X.S id s->∀ w,((pA X1).sep deA).ho w->Calls Tryz.prog 91 #[.pointer (some ⟨X.p,0,none⟩),.int .i64 (id:Nat)] w fun e w'=>∃ (l:Nat) (X':Px),e=.returned (.tuple #[.int .i64 (l:Nat),.nilIface])∧X1.Ext X'∧PxOk X'∧X'.S=X1.S∧St w (pA X1).fp [pA X'] w'):=zh fun X1 id s q1 q2 q3 q4 w h=>by
  obtain ⟨l,_,ht⟩:=top_any hX q4;refine (ht X1 w q1 q2 q3 h).mono ?_;rintro e w' ⟨X',y1,y2,y3,rfl,y5⟩;exact ⟨l,X',rfl,y1,y2,y3,y5⟩
 have HSZ:Hid (∀ (X1:Px) (id ln:Nat) (s:List Tr),X.Ext X1->PxOk X1->X1.S=X.S->IdIs X.S id s->s.length=ln->∀ w,(pA X1).ho w->Calls Tryz.prog 92 #[.pointer (some ⟨X.p,0,none⟩),.int .i64 id] w fun e w'=>e=.returned (.int .i64 (ln:Nat))∧St w [] [] w'):=zh fun X1 id ln s q1 q2 q3 q4 q5 w h=>by have:=size_any q2 (by rw [q3];exact q4) w h;rwa [q1.p,q5] at this
 have HAD:Hid (∀ (a b s:Nat),a+b=s->s<=1048576->∀ w,Calls Tryz.prog 61 #[.int .i64 (a:Nat),.int .i64 (b:Nat)] w fun e w'=>e=.returned (.tuple #[.int .i64 (s:Nat),.nilIface])∧w'=w):=zh fun a b s e hs w=>by rw [← e];exact add_ok_e a b w (show a+b<=1152921504606846976 by omega)
 have HCL:Hid (0<n->∀ w,(rowsA encI 26 1 (.slice ad n c) ids).ho w->Calls Tryz.prog 93 #[.slice ad n c] w fun e w'=>∃ (g d:Nat) (C:Array Value),e=.returned (.slice (some ⟨g,0,none⟩) n d)∧n<=d∧d<=maxLen∧Arr C d fI [] ids 0∧St w [] [blk g (.cells C 26)] w'):=zh fun h0 w h=>by
  rw [← hnn] at h h0 hn ⊢;exact clone_id h0 hn w h
 have HJN:Hid (∀ (X2:Px) (a b:Nat) (sa sb:List Tr),X.Ext X2->PxOk X2->IdIs X2.S a sa->IdIs X2.S b sb->sa.length+sb.length<=1048576->X2.S.list.length+(sa.length+sb.length)<=X.S.most->∀ w,((pA X2).sep deA).ho w->Calls Tryz.prog 94 #[.pointer (some ⟨X.p,0,none⟩),.int .i64 a,.int .i64 b] w (IdPost X2 (sa++sb) (sa.length+sb.length) (pA X2).fp w)):=zh fun X2 a b sa sb q1 q2 q3 q4 q5 q6 w h=>by
  have:=join_c q2 q3 q4 q5 (by rw [q1.le.1];exact q6) w h;rwa [q1.p] at this
 have HIN:Hid (IdL X.S ids ss∧ids.length=n∧ss.length=n∧totL ss=tot∧tot<=1048576∧L+n*tot<=X.S.most∧X.S.list.length=L∧PxOk X):=zh ⟨hd,hnn,by omega,htot,hl,by rw [← hL];exact hroom,hL,hX⟩;have HRW:Hid (∀ (i a:Nat),ids[i]?=some a->∃ g,ad=some ⟨g,0,none⟩∧∀ w,(rowsA encI 26 1 (.slice ad n c) ids).ho w->w.cell? ⟨g,i,none⟩=some (.int .i64 (a:Nat))):=zh fun i a hi=>by
  obtain ⟨g,c8,e1,_⟩:=rowsA_cases (HK.ho (rowsA encI 26 1 (.slice ad n c) ids) (by simp)) (by have:=gelt hi;omega);injection e1 with e1 _ _
  exact ⟨g,e1,fun w h=>by rw [e1] at h;exact rowsA_cell1 h encI_len hi rfl⟩
 clear hX hd hl hroom hL htot hnn hsl;go_enter Tryz.func57,Tryz.ntmps57;go_wp2_with (first|refine sL ?_|(refine sS ?_;clear H;intros;rename_i H)|(go_at_call 53;with_reducible refine same (HST.out X (.refl _) _ (H.get pk)) ?_));go_loopg [25] n (fun m v1 wr=>CcRel1 X N w n m v1 wr);case atStart=>exact ⟨0,X,rfl,Nat.zero_le _,rfl,⟨.refl _,HIN.out.2.2.2.2.2.2.2,rfl⟩,H.picks (.cons pk .nil)⟩
 case round =>
  clear H;obtain ⟨i,X1,rfl,hik,rfl,hrel,H⟩:=hrel;have HX1:=zh hrel;by_cases hlt:i<n
  ·obtain ⟨a,ha⟩:∃ a,ids[i]?=some a:=⟨_,zg (by rw [HIN.out.2.1];exact hlt)⟩
   obtain ⟨s,hs,hid⟩:=HIN.out.1.get ha;obtain ⟨g,rfl,hcell⟩:=HRW.out i a ha;have HA:=zh hcell;have HID:=zh hid;have haL:a<=L:=by
    rw [← HIN.out.2.2.2.2.2.2.1];rcases hid with ⟨_,rfl⟩|⟨T,h1,_⟩
    ·omega
    ·exact h1.2.1
   have d5:decide ((i:Int)<(n:Int))=true:=(by simp;omega);have d5n:decide (i<n)=true:=(by simp;omega);have d6:decide ((a:Int)<0)=false:=(by simp);have d7:decide ((L:Int)<(a:Int))=false:=(by simp;omega);have d7n:decide (L<a)=false:=(by simp;omega);clear hrel ha hs hid hcell haL;go_wp2_with (first|refine sL ?_|(refine sS ?_;clear H;intros;rename_i H)|(go_at_call 53;with_reducible refine same (HST.out X1 HX1.out.1 _ (H.get pk)) ?_)|(go_at_call 38;with_reducible refine same (HLE.out X1 HX1.out.1 HX1.out.2.2 _ (H.get pk)) ?_)|(go_at_call 91;with_reducible refine zm (HTP.out X1 a s HX1.out.1 HX1.out.2.1 HX1.out.2.2 HID.out _ (H.sepK HK pk pk)) ?_;rintro e9 wc ⟨l2,X2,rfl,y1,y2,y3,hb⟩;have HZ:=zh (za y1 (za y2 y3));clear y1 y2 y3;replace H:=zn ((H.pick pk).call hb);clear hb));go_roundg (n-(i+1));case measure=>omega
   case rel=>exact ⟨i+1,X2,rfl,by omega,rfl,⟨HX1.out.1.trans HZ.out.1,HZ.out.2.1,HZ.out.2.2.trans HX1.out.2.2⟩,H.picks (.cons pk .nil)⟩
  ·have d5:decide ((i:Int)<(n:Int))=false:=(by simp;omega);have d5n:decide (i<n)=false:=(by simp;omega);clear hrel;go_wp2_with (first|refine sL ?_|(refine sS ?_;clear H;intros;rename_i H));go_loopg [10,51] n (fun m v1 v2 wr=>CcRel2 X1 N w ss n m v1 v2 wr);case atStart=>exact ⟨0,0,rfl,Nat.zero_le _,rfl,rfl,by simp [totL],H.picks (.cons pk .nil)⟩
   case round =>
    clear H d5 d5n hlt hik;obtain ⟨i,sm,rfl,hik,rfl,rfl,hsm,H⟩:=hrel;by_cases hlt:i<n
    ·obtain ⟨a,ha⟩:∃ a,ids[i]?=some a:=⟨_,zg (by rw [HIN.out.2.1];exact hlt)⟩
     obtain ⟨s,hs,hid⟩:=HIN.out.1.get ha;obtain ⟨g,rfl,hcell⟩:=HRW.out i a ha;have HA:=zh hcell;have HID:=zh hid;obtain ⟨ln,hln⟩:∃ n,s.length=n:=⟨_,rfl⟩
     obtain ⟨sm2,hsm2⟩:∃ n,sm+ln=n:=⟨_,rfl⟩
     have hb2:sm2=totL (ss.take (i+1)):=(by rw [totL_take_succ hs,hln,← hsm,hsm2]);have HS2:Hid (sm+ln=sm2∧sm2<=1048576∧sm2=totL (ss.take (i+1))∧s.length=ln):=zh ⟨hsm2,by have h1:=totL_take ss (i+1);have h2:=HIN.out.2.2.2;omega,hb2,hln⟩;have d5:decide ((i:Int)<(n:Int))=true:=(by simp;omega);have d5n:decide (i<n)=true:=(by simp;omega);clear ha hs hid hcell hln hsm2 hb2 hsm;go_wp2_with (first|refine sL ?_|(refine sS ?_;clear H;intros;rename_i H)|(go_at_call 92;with_reducible refine zm (HSZ.out X1 a ln s HX1.out.1 HX1.out.2.1 HX1.out.2.2 HID.out HS2.out.2.2.2 _ (H.get pk)) ?_;rintro e9 wc ⟨rfl,hb⟩;replace H:=H.grew hb.below;clear hb)|(go_at_call 61;with_reducible refine same (HAD.out sm ln sm2 HS2.out.1 HS2.out.2.1 _) ?_));go_roundg (n-(i+1));case measure=>omega
     case rel=>exact ⟨i+1,sm2,rfl,by omega,rfl,rfl,HS2.out.2.2.1,H.picks (.cons pk .nil)⟩
    ·have d5:decide ((i:Int)<(n:Int))=false:=(by simp;omega);have d5n:decide (i<n)=false:=(by simp;omega);clear hsm;rcases Nat.eq_zero_or_pos n with hn0|hn0
     ·have d8:((n:Int)==0)=true:=(by simp;omega);have HSS:Hid (ss.flatten=[]):=zh (by have h1:=HIN.out.2.2.1;rw [hn0] at h1;rw [List.eq_nil_of_length_eq_zero h1];rfl);go_wp2_with (first|refine sL ?_|(refine sS ?_;clear H;intros;rename_i H));go_ret2;exact ⟨X1,0,rfl,HX1.out.1,HX1.out.2.1,.inl ⟨HSS.out,rfl⟩,by rw [HX1.out.2.2];omega,H.picks (.cons pk .nil)⟩
     ·have d8:((n:Int)==0)=false:=(by simp;omega);have HN0:=zh hn0;clear hn0;go_wp2_with (first|refine sL ?_|(refine sS ?_;clear H;intros;rename_i H)|(go_at_call 93;with_reducible refine zm (HCL.out HN0.out _ (H.known HK pk)) ?_;rintro e9 wc ⟨g,cap,C,rfl,z1,z2,z3,hb⟩;have HC0:=zh (za z1 (za z2 z3));clear z1 z2 z3;replace H:=zn (H.call0 hb);clear hb));go_loopg [14] (2*n) (fun m v1 wr=>CcRel3 X N w ss.flatten tot n g cap m v1 wr);case atStart=>exact ⟨X1,n,C,ids,ss,rfl,rfl,⟨HN0.out,Nat.le_refl _,HIN.out.2.1,by rw [HX1.out.2.2];exact HIN.out.1,rfl,HC0.out.2.2,HX1.out.1,HX1.out.2.1,by rw [HX1.out.2.2];exact Nat.le_refl _⟩,H.picks (.cons pk (.cons pk .nil))⟩
      case round =>
       clear H d5 d5n d8 hlt hik;obtain ⟨X3,k,C3,nids,us,rfl,rfl,hrel,H⟩:=hrel;have HR3:=zh hrel;obtain ⟨hk1,hkn,_⟩:=hrel;by_cases hk:1<k
       ·have d5:decide (1<(k:Int))=true:=(by simp;omega);have d5n:decide (1<k)=true:=(by simp;omega);go_wp2_with (first|refine sL ?_|(refine sS ?_;clear H;intros;rename_i H));go_loopg [15,16] k (fun m v1 v2 wr=>CcRel4 X3 N w nids us k g cap m v1 v2 wr);case atStart=>exact ⟨X3,0,0,C3,[],rfl,rfl,rfl,⟨rfl,Nat.zero_le _,rfl,trivial,HR3.out.2.2.2.2.2.1,.refl _,HR3.out.2.2.2.2.2.2.2.1,by simp [totL]⟩,H.picks (.cons pk (.cons pk .nil))⟩
        case round =>
         clear H d5 d5n;obtain ⟨X2,j,i,C4,hids,rfl,rfl,rfl,hr4,H⟩:=hrel;have HR4:=zh hr4;obtain ⟨hij,hik,hjl,hI4,hA4,hE4,hO4,hS4⟩:=hr4;have hcap:=hA4.size;have HSZC:Hid (C4.size=cap):=zh hcap;have hcapk:k<=cap:=by
          have h1:=HR3.out.2.2.2.2.2.1;have h2:=HR3.out.2.2.1;have h3:=h1.od (k-1) (nids[k-1]'(by omega)) (Nat.zero_le _) (by simp);have:=(Array.getElem?_eq_some_iff.1 h3).1;rw [h1.size] at this;omega
         have htu:totL (halveL us)=tot:=by
          rw [totL_halve];have h1:=HR3.out.2.2.2.2.1;have h2:=HIN.out.2.2.2.1;unfold totL at h2 ⊢;rw [h1];exact h2
         have HTU:=zh htu;have hul:us.length=k:=(by rw [← HR3.out.2.2.2.1.len];exact HR3.out.2.2.1);have hhl:(halveL us).length=(k+1)/2:=(by rw [halveL_len,hul]);have HHL:=zh hhl;have hb3:=HR3.out.2.2.2.2.2.2.2.2;have hroom3:X3.S.list.length+tot<=X.S.most:=by
          have h1:=HIN.out.2.2.2.2.2;have h2:1*tot<=k*tot:=Nat.mul_le_mul_right _ hk1;rw [h1.2.1] at hb3;omega
         by_cases hlt:i+1<k
         ·obtain ⟨i1,hi1⟩:∃ n,i+1=n:=⟨_,rfl⟩
          obtain ⟨i2,hi2⟩:∃ n,i+2=n:=⟨_,rfl⟩
          obtain ⟨a,ha⟩:∃ a,nids[i]?=some a:=⟨_,zg (by rw [HR3.out.2.2.1];omega)⟩
          obtain ⟨b,hb⟩:∃ a,nids[i1]?=some a:=⟨_,zg (by rw [HR3.out.2.2.1];omega)⟩
          obtain ⟨sa,hsa,hia⟩:=HR3.out.2.2.2.1.get ha;obtain ⟨sb,hsb,hib⟩:=HR3.out.2.2.2.1.get hb;have hga:(halveL us)[j]?=some (sa++sb):=halveL_get (by rw [← hij];exact hsa) (by rw [← hij,hi1];exact hsb);have htk:totL ((halveL us).take (j+1))=totL ((halveL us).take j)+(sa++sb).length:=totL_take_succ hga;have htk2:=totL_take (halveL us) (j+1);rw [htu,htk,List.length_append] at htk2;have HJ:=zh (HJN.out X2 a b sa sb (HR3.out.2.2.2.2.2.2.1.trans hE4) hO4 (hia.le HR3.out.2.2.2.2.2.2.2.1.ok hE4.le) (hib.le HR3.out.2.2.2.2.2.2.2.1.ok hE4.le) (by have:=HIN.out.2.2.2.2.1;omega) (by omega));have HA1:Hid (C4[i]?=some (.int .i64 (a:Nat))):=zh (hA4.od i a (Nat.le_refl _) ha);have HA2:Hid (C4[i1]?=some (.int .i64 (b:Nat))):=zh (hA4.od i1 b (by omega) hb);have i9:(i:Int)+1=(i1:Nat):=(by omega);have i10:(i:Int)+2=(i2:Nat):=(by omega);have d5:decide ((i1:Int)<(k:Int))=true:=(by simp;omega);have d5n:decide (i1<k)=true:=(by simp;omega);have hjc:j+1<=cap:=(by omega);have HI:=zh (za hij (za hi2 (za hlt hga)));have hil:i<=65536:=(by omega);have hik9:i<k:=(by omega);have hik8:i1<k:=(by omega);clear hij hik hjl hI4 hA4 hE4 hO4 hS4 hcap htu hul hhl hb3 hroom3 hlt hi1 hi2 ha hb hsa hsb hia hib hga htk htk2;go_wp2_with (first|refine sL ?_|(refine sS ?_;clear H;intros;rename_i H));replace H:=H.picks (.cons (A:=pA X2) pk (.cons (A:=blk g (.cells C4 26)) pk .nil));refine wp_region_sgx 16 [⟨[],fun v _=>v=.pointer (some ⟨X.p,0,none⟩)⟩,⟨[],fun v _=>v=.slice (some ⟨g,0,none⟩) k cap⟩,⟨[],fun v _=>v=.int .i64 i⟩,⟨[1,2],fun v _=>v=.pointer (some ⟨g,i,none⟩)⟩,⟨[3],fun v _=>v=.int .i64 (a:Nat)⟩,⟨[],fun v _=>v=.slice (some ⟨g,0,none⟩) k cap⟩,⟨[],fun v _=>v=.int .i64 i⟩,⟨[6],fun v _=>v=.int .i64 (i1:Nat)⟩,⟨[5,7],fun v _=>v=.pointer (some ⟨g,i1,none⟩)⟩,⟨[8],fun v _=>v=.int .i64 (b:Nat)⟩,⟨[0,4,9],fun v _=>∃ id:Nat,v=.tuple #[.int .i64 id,.nilIface]⟩,⟨[10],fun v ds=>ds=[v]⟩,⟨[11],fun v ds=>∃ id:Nat,ds=[.tuple #[.int .i64 id,.nilIface]]∧v=.int .i64 id⟩,⟨[11],fun v ds=>∃ id:Nat,ds=[.tuple #[.int .i64 id,.nilIface]]∧v=.nilIface⟩,⟨[12],fun v ds=>ds=[v]⟩,⟨[13],fun v ds=>ds=[v]⟩] [10] [[0],[0],[0],[0],[0],[0],[0],[0],[0],[0],[0],[1],[1],[1],[1],[1]] [fun _ wx=>St w N [pA X2,blk g (.cells C4 26)] wx,fun vals wx=>∃ (X5:Px) (id:Nat),vals 10=.tuple #[.int .i64 id,.nilIface]∧(X2.Ext X5∧PxOk X5∧IdIs X5.S id (sa++sb)∧X5.S.list.length<=X2.S.list.length+(sa.length+sb.length))∧St w N [pA X5,blk g (.cells C4 26)] wx]
           [[],[],[],[(1,86),(2,87)],[(3,88)],[],[],[(6,91)],[(5,90),(7,92)],[(8,93)],[(0,85),(4,89),(9,94)],[(10,95)],[(11,84)],[(11,84)],[(12,96)],[(13,97)]] [(0,85),(1,86),(2,87),(3,88),(4,89),(5,90),(6,91),(7,92),(8,93),(9,94),(10,95),(11,84),(12,96),(13,97),(14,17),(15,18)] (by kernel_rfl) (by kernel_rfl) H.drew ⟨⟨qo,trivial⟩,⟨qo,trivial⟩,⟨qo,trivial⟩,⟨?_,trivial⟩,⟨ql,trivial⟩,⟨qo,trivial⟩,⟨qo,trivial⟩,⟨qo,trivial⟩,⟨?_,trivial⟩,⟨ql,trivial⟩,⟨?_,trivial⟩,⟨?_,trivial⟩,⟨?_,trivial⟩,⟨?_,trivial⟩,⟨?_,trivial⟩,⟨?_,trivial⟩,trivial⟩ ?_
          ·intro vals wx hd HC;simp only [GF] at hd;have H:=HC;simp only [CA] at H;simp only [PS,hd];go_simp;first|exact HC|exact ⟨rfl,HC⟩|(rw [if_pos hik9];exact ⟨rfl,HC⟩)
          ·intro vals wx hd HC;simp only [GF] at hd;have H:=HC;simp only [CA] at H;simp only [PS,hd];go_simp;first|exact HC|exact ⟨rfl,HC⟩|(rw [if_pos hik8];exact ⟨rfl,HC⟩)
          ·intro vals wx hd HC;simp only [GF] at hd;obtain ⟨h0,h4,h9⟩:=hd;have H:=HC;simp only [CA] at H;simp only [PS,h0,h4,h9];clear h0 h4 h9 HC;go_simp;with_reducible refine zm (HJ.out _ (H.sepK HK pk pk)) ?_
           rintro e wz ⟨X5,id5,rfl,y1,y2,y3,y4,hb⟩;have H2:=(H.pick pk).call hb;exact ⟨_,rfl,⟨_,rfl⟩,X5,id5,rfl,⟨y1,y2,y3,y4⟩,by simpa using H2⟩
          ·intro vals wx hd HC;simp only [GF] at hd;have h10:=hd;clear hd;have H:=HC;simp only [CA] at H;obtain ⟨X5,id5,hv10,hj5,H⟩:=H;simp only [PS];clear h10;go_simp;first|exact HC|exact ⟨rfl,HC⟩
          ·intro vals wx hd HC;simp only [GF] at hd;have h11:=hd;clear hd;have H:=HC;simp only [CA] at H;obtain ⟨X5,id5,hv10,hj5,H⟩:=H;simp only [PS];have e11:vals 11=.tuple #[.int .i64 id5,.nilIface]:=(by rw [← hv10];exact X8 (show [vals 10]=[vals 11] from h11));simp only [e11];clear h11;go_simp;first|exact ⟨⟨id5,by simp [e11],rfl⟩,HC⟩|exact ⟨⟨id5,rfl⟩,HC⟩|exact ⟨rfl,HC⟩|exact HC|exact ⟨⟨⟨id5,rfl⟩,rfl⟩,HC⟩|exact ⟨⟨id5,rfl,rfl⟩,HC⟩|fail "Z9"
          ·intro vals wx hd HC;simp only [GF] at hd;have h11:=hd;clear hd;have H:=HC;simp only [CA] at H;obtain ⟨X5,id5,hv10,hj5,H⟩:=H;simp only [PS];have e11:vals 11=.tuple #[.int .i64 id5,.nilIface]:=(by rw [← hv10];exact X8 (show [vals 10]=[vals 11] from h11));simp only [e11];clear h11;go_simp;first|exact ⟨⟨id5,by simp [e11],rfl⟩,HC⟩|exact ⟨⟨id5,rfl⟩,HC⟩|exact ⟨rfl,HC⟩|exact HC|exact ⟨⟨⟨id5,rfl⟩,rfl⟩,HC⟩|exact ⟨⟨id5,rfl,rfl⟩,HC⟩|fail "Z9"
          ·intro vals wx hd HC;simp only [GF] at hd;have h12:=hd;clear hd;have H:=HC;simp only [CA] at H;obtain ⟨X5,id5,hv10,hj5,H⟩:=H;simp only [PS];clear h12;go_simp;first|exact HC|exact ⟨rfl,HC⟩
          ·intro vals wx hd HC;simp only [GF] at hd;have h13:=hd;clear hd;have H:=HC;simp only [CA] at H;obtain ⟨X5,id5,hv10,hj5,H⟩:=H;simp only [PS];clear h13;go_simp;first|exact HC|exact ⟨rfl,HC⟩
          intro vals wx hd HC;have h10:=hd.2.2.2.2.2.2.2.2.2.2.1;have h11:=hd.2.2.2.2.2.2.2.2.2.2.2.1;have h12:=hd.2.2.2.2.2.2.2.2.2.2.2.2.1;have h13:=hd.2.2.2.2.2.2.2.2.2.2.2.2.2.1;have h14:=hd.2.2.2.2.2.2.2.2.2.2.2.2.2.2.1;have h15:=hd.2.2.2.2.2.2.2.2.2.2.2.2.2.2.2.1;simp only [CA] at HC;obtain ⟨X5,id5,hv10,hj5,H⟩:=HC;simp only [GF] at hd;simp only [PS,hd];clear hd;have e11:vals 11=.tuple #[.int .i64 id5,.nilIface]:=(by rw [← hv10];exact X8 (show [vals 10]=[vals 11] from h11));have e14:vals 14=.int .i64 id5:=by
           obtain ⟨q,q1,q2⟩:=(h12:∃ id:Nat,[vals 11]=[.tuple #[.int .i64 id,.nilIface]]∧vals 12=.int .i64 id)
           replace q1:[vals 11]=[Value.tuple #[.int .i64 q,.nilIface]]:=q1;rw [e11] at q1;simp only [List.cons.injEq,and_true,Value.tuple.injEq,Array.mk.injEq,Value.int.injEq,true_and] at q1;rw [X8 (show [vals 12]=[vals 14] from h14),q2,q1]
          have e15:vals 15=.nilIface:=by
           obtain ⟨q,q1,q2⟩:=(h13:∃ id:Nat,[vals 11]=[.tuple #[.int .i64 id,.nilIface]]∧vals 13=.nilIface)
           rw [X8 (show [vals 13]=[vals 15] from h15),q2]
          simp only [e14,e15];have HY:=zh hj5;clear e11 e14 e15 h10 h11 h12 h13 h14 h15 hv10 hj5;go_wp2_with (first|refine sL ?_|(refine sS ?_;clear H;intros;rename_i H)|((with_reducible refine isSlice ?_);refine AtSlice.one H rfl rfl rfl rfl rfl rfl rfl rfl rfl ?_;clear H;intro b _ H;simp only [Act.put,puA,puB,puC])|((with_reducible refine isAppend ?_);refine AtAppend.room H rfl rfl rfl rfl rfl rfl (cur:=C4) pk [.int .i64 (id5:Nat)] rfl (one_new (H.at pk)) (by intro u hu;simp at hu;subst hu;rfl) (by omega) HSZC.out ?_;clear H;intro _ H;simp only [Act.put,puA,puB,puC]));go_roundg (k-(j+1));case measure=>have:=HI.out;omega
          case rel =>
           have h4:=HR4.out;have h5:=HI.out;have htk:totL ((halveL us).take (j+1))=totL ((halveL us).take j)+(sa++sb).length:=totL_take_succ h5.2.2.2;refine ⟨X5,j+1,i2,_,hids++[id5],rfl,rfl,rfl,⟨by omega,by omega,by simp [h4.2.2.1],?_,?_,h4.2.2.2.2.2.1.trans HY.out.1,HY.out.2.1,by rw [htk,List.length_append];have:=HY.out.2.2.2;omega⟩,H.picks (.cons pk (.cons pk .nil))⟩
           ·rw [List.take_add_one,h5.2.2.2];exact (h4.2.2.2.1.le h4.2.2.2.2.2.2.1.ok HY.out.1.le).snoc HY.out.2.2.1
           ·have:=h4.2.2.2.2.1.app [id5] (a':=i2) (by omega) (by simp;omega) (by simp;omega);rw [h4.2.2.1] at this;exact this
         ·have hcase:k=i∨k=i+1:=(by omega);obtain ⟨i1,hi1⟩:∃ n,i+1=n:=⟨_,rfl⟩
          have i9:(i:Int)+1=(i1:Nat):=(by omega);have d5:decide ((i1:Int)<(k:Int))=false:=(by simp;omega);have d5n:decide (i1<k)=false:=(by simp;omega);have hi1b:i1<=65537:=(by omega);rcases hcase with hc|hc
          ·have hm:((k:Int)%2==1)=false:=by
            have:(k:Int)%2=0:=by omega
            rw [this];rfl
           have HC9:=zh hc;clear hij hik hjl hI4 hA4 hE4 hO4 hS4 hcap htu hul hhl hb3 hroom3 hlt hi1 hc;go_wp2_with (first|refine sL ?_|(refine sS ?_;clear H;intros;rename_i H));go_roundg (2*j);case measure=>have:=HR4.out.1;have:=HC9.out;omega
           case rel =>
            have h4:=HR4.out;have h3:=HR3.out;have hc:=HC9.out;have htk:(halveL us).take j=halveL us:=List.take_of_length_le (by rw [HHL.out];omega);refine ⟨X2,j,C4,hids,halveL us,rfl,rfl,⟨by omega,by omega,h4.2.2.1,by have:=h4.2.2.2.1;rwa [htk] at this,by rw [halveL_flat];exact h3.2.2.2.2.1,h4.2.2.2.2.1.forget.start,h3.2.2.2.2.2.2.1.trans h4.2.2.2.2.2.1,h4.2.2.2.2.2.2.1,?_⟩,H.picks (.cons pk (.cons pk .nil))⟩;have h6:=h4.2.2.2.2.2.2.2;rw [htk,HTU.out] at h6;have h7:(j+1)*tot<=k*tot:=Nat.mul_le_mul_right _ (by omega);rw [Nat.add_mul,Nat.one_mul] at h7;have h8:=h3.2.2.2.2.2.2.2.2;omega
          ·obtain ⟨a,ha⟩:∃ a,nids[i]?=some a:=⟨_,zg (by rw [HR3.out.2.2.1];omega)⟩
           obtain ⟨sa,hsa,hia⟩:=HR3.out.2.2.2.1.get ha;have HA1:Hid (C4[i]?=some (.int .i64 (a:Nat))):=zh (hA4.od i a (Nat.le_refl _) ha);have hm:((k:Int)%2==1)=true:=by
            have:(k:Int)%2=1:=by omega
            rw [this];rfl
           have hik9:i<k:=(by omega);have i11:(k:Int)-1=(i:Nat):=(by omega);have hjc:j+1<=cap:=(by omega);have hga:(halveL us)[j]?=some sa:=halveL_last (by omega) (by rw [← hij];exact hsa);have HI:=zh (za hc (za hga (hia.le HR3.out.2.2.2.2.2.2.2.1.ok hE4.le)));clear hij hik hjl hI4 hA4 hE4 hO4 hS4 hcap htu hul hhl hb3 hroom3 hlt hi1 hia hsa ha hga hc;go_wp2_with (first|refine sL ?_|(refine sS ?_;clear H;intros;rename_i H)|((with_reducible refine isSlice ?_);refine AtSlice.one H rfl rfl rfl rfl rfl rfl rfl rfl rfl ?_;clear H;intro b _ H;simp only [Act.put,puA,puB,puC])|((with_reducible refine isAppend ?_);refine AtAppend.room H rfl rfl rfl rfl rfl rfl (cur:=C4) pk [.int .i64 (a:Nat)] rfl (one_new (H.at pk)) (by intro u hu;simp at hu;subst hu;rfl) (by omega) HSZC.out ?_;clear H;intro _ H;simp only [Act.put,puA,puB,puC]));go_roundg (2*(j+1));case measure=>have:=HR4.out.1;have:=HI.out.1;omega
           case rel =>
            have h4:=HR4.out;have h3:=HR3.out;have h5:=HI.out;have hc:=h5.1;have htk:(halveL us).take (j+1)=halveL us:=List.take_of_length_le (by rw [HHL.out];omega);have htk2:=totL_take (halveL us) j;rw [HTU.out] at htk2;refine ⟨X2,j+1,_,hids++[a],halveL us,rfl,rfl,⟨by omega,by omega,by simp [h4.2.2.1],?_,by rw [halveL_flat];exact h3.2.2.2.2.1,?_,h3.2.2.2.2.2.2.1.trans h4.2.2.2.2.2.1,h4.2.2.2.2.2.2.1,?_⟩,H.picks (.cons pk (.cons pk .nil))⟩
            ·rw [← htk,List.take_add_one,h5.2.1];exact h4.2.2.2.1.snoc h5.2.2
            ·have:=h4.2.2.2.2.1.app [a] (a':=i+1) (by omega) (by simp;omega) (by simp;omega);rw [h4.2.2.1] at this;exact this.forget.start
            ·have h6:=h4.2.2.2.2.2.2.2;have h7:(j+1+1)*tot<=k*tot:=Nat.mul_le_mul_right _ (by omega);rw [Nat.add_mul,Nat.one_mul] at h7;have h8:=h3.2.2.2.2.2.2.2.2;omega
       ·have hk0:k=1:=(by omega);have d5:decide (1<(k:Int))=false:=(by simp;omega);have d5n:decide (1<k)=false:=(by simp;omega);obtain ⟨a,ha⟩:∃ a,nids[0]?=some a:=⟨_,zg (by rw [HR3.out.2.2.1];omega)⟩
        obtain ⟨sa,hsa,hia⟩:=HR3.out.2.2.2.1.get ha;have hul:us.length=1:=(by rw [← HR3.out.2.2.2.1.len,HR3.out.2.2.1];exact hk0);have husa:us=[sa]:=by
         cases us with
         |nil=>simp at hsa
         |cons u r =>
          simp at hsa hul;subst hsa;have hr0:r=[]:=List.eq_nil_of_length_eq_zero (by simpa using hul);rw [hr0]
        have HA1:Hid (C3[0]?=some (.int .i64 (a:Nat))):=zh (HR3.out.2.2.2.2.2.1.od 0 a (Nat.le_refl _) ha);have HFIN:Hid (IdIs X3.S a ss.flatten):=zh (by
         have:=HR3.out.2.2.2.2.1;rw [husa] at this;simp at this;rw [← this];exact hia)
        have hkz:0<k:=hk1;clear ha hsa hia hul husa hk1 hkn hk;go_wp2_with (first|refine sL ?_|(refine sS ?_;clear H;intros;rename_i H));go_ret2;exact ⟨X3,a,rfl,HR3.out.2.2.2.2.2.2.1,HR3.out.2.2.2.2.2.2.2.1,HFIN.out,by have:=HR3.out.2.2.2.2.2.2.2.2;omega,H.picks (.cons pk .nil)⟩
end
section
open Go.RowKit Go.Maps
attribute [local go_sem] InGr
section
variable {ops:Array Oper} {Q:Exit->Act->World->Prop} {rest:List Oper} {a:Act} {w w0:World} {M:List Nat} {L:List As} {o1:Oper}
theorem AtSlice.lit {t e:TypeId} {n:Nat} {ps:Array (Nat×Operand)} (H:St w0 M L w) (hw:Region.wanted o1 (yielded ops a.tmps)=true) (ho:o1.op=.buildSlice t n ps) (hte:sliceO t=some e) {z:Value} {k bytes:Nat} {cs:Array Value} (hi:infoO e=some (z,k,bytes)) (hk:k=1) (hz:z.cells.size=1) (hn:¬ n*1 > 2 ^ 24) (hn0:¬ n*1=0)
  (hf:Instr.fill (fun i=>some (i*1,1)) ((Array.range (n*1)).map (z.cells[·%z.cells.size]!)) (ps.map fun (i,x)=>(i,a.eval x)).toList=some cs)
  (h:∀ b w',St w0 M (blk b (.cells cs e)::L) w'->wpList Tryz.prog ops Q rest (a.put o1.dst (.slice (some ⟨b,0,none⟩) n n)) w'):AtSlice Tryz.prog ops Q o1 t n ps rest a w :=
 wpList_step fun _ hK=>by
  rw [if_pos hw];obtain ⟨i,h2,h3,h4,h5⟩:=infoO_ok hi;subst hk;have hr:=run_buildSlice (P:=Tryz.prog) w t e n (ps.map fun (i,x)=>(i,a.eval x)) cs i z (sliceO_ok hte) h2 h3 (by rw [h4];exact hn) (by rw [h4];exact hn0) (by rw [h4];exact hf);unfold Oper.wp execOp;simp only [ho,Sem.run_bind,hr,Result.andThen_ok,Sem.run_pure];exact hK _ _ (h _ _ (H.alloc _))
end
theorem St.freeze {g:Nat} {cs:Array Value} {e:TypeId} {w0 w:World} {M:List Nat} {L:List As} (h:St w0 M (blk g (.cells cs e)::L) w):St w0 M (blk g (.cells cs e (cs.size,cs.size+1))::L) (w.freeze ⟨g,cs.size,none⟩ 1):=by
 have hg:w.heap[g]?=some (.cells cs e):=h.at Pick.here;have hs:(w.freeze ⟨g,cs.size,none⟩ 1).heap.size=w.heap.size:=(by unfold World.freeze;simp);have hlt:g<w.heap.size:=(Array.getElem?_eq_some_iff.1 hg).1;refine St.turn h (A':=blk g (.cells cs e (cs.size,cs.size+1))) (fun b hb=>?_) rfl rfl rfl hs ?_ (by rw [blk_fp,blk_fp])
 ·have hne:g≠b:=fun e'=>hb (by simp [blk,e'])
  unfold World.freeze;simp only [Nat.succ_ne_zero,if_false];rw [Array.getElem?_modify,if_neg hne]
 ·rw [blk_ho];unfold World.freeze;simp only [Nat.succ_ne_zero,if_false];rw [Array.getElem?_modify,if_pos rfl,hg];rfl
theorem run_conv {t:TypeId} (hte:sliceO t=some 5) {g n c:Nat} {cs:Array Value} {e:TypeId} {w:World} (hg:w.heap[g]?=some (.cells cs e)):(convert t t (.slice (some ⟨g,0,none⟩) n c)).run Tryz.prog w=.ok (.slice (some ⟨g,0,none⟩) n c) (w.freeze ⟨g,cs.size,none⟩ 1):=by
 have hu:=run_underlying (P:=Tryz.prog) (sliceO_ok hte);have hu5:Tryz.prog.underlying 5=some (.int .u8):=(by kernel_rfl);have hu6:=run_underlying (P:=Tryz.prog) hu5;simp [convert,hu,hu6,markStringish,shape,freeze,Sem.run,World.shape?,hg]
def AtConv (P:Program) (ops:Array Oper) (Q:Exit->Act->World->Prop) (o:Oper) (_:TypeId) (_:Operand) (rest:List Oper) (a:Act) (w:World):Prop:=wpList P ops Q (o::rest) a w
section
variable {ops:Array Oper} {Q:Exit->Act->World->Prop} {rest:List Oper} {a:Act} {w w0:World} {M:List Nat} {L R:List As} {o1:Oper} {dst:Option Tmp} {ty0:TypeId} {pos:String} {aft:Array Edge} {gd:Option (Nat×Bool)}
theorem isConv {P:Program} {t:TypeId} {x:Operand} (h:AtConv P ops Q ⟨dst,.convert t t x,ty0,pos,aft,gd⟩ t x rest a w):wpList P ops Q (⟨dst,.convert t t x,ty0,pos,aft,gd⟩::rest) a w:=h
theorem AtConv.bytes {t e:TypeId} {x:Operand} (H:St w0 M L w) (hw:Region.wanted o1 (yielded ops a.tmps)=true) (ho:o1.op=.convert t t x) (hte:sliceO t=some 5) {g n c:Nat} (hx:a.eval x=.slice (some ⟨g,0,none⟩) n c) {cs:Array Value} (hp:Pick L (blk g (.cells cs e)) R)
  (h:∀ w',St w0 M (blk g (.cells cs e (cs.size,cs.size+1))::R) w'->wpList Tryz.prog ops Q rest (a.put o1.dst (.slice (some ⟨g,0,none⟩) n c)) w'):AtConv Tryz.prog ops Q o1 t x rest a w :=
 wpList_step fun _ hK=>by
  rw [if_pos hw];have H':=H.pick hp;have hg:w.heap[g]?=some (.cells cs e):=H'.at Pick.here;unfold Oper.wp execOp;simp only [ho,hx,Sem.run_bind,run_conv hte hg,Result.andThen_ok,Sem.run_pure];exact hK _ _ (h _ H'.freeze)
end
theorem St.blk_poolF {e:TypeId} {g:Nat} {cs:Array Value} {fr:Nat×Nat} {w0 w:World} {M:List Nat} {R:List As} (h:St w0 M (blk g (.cells cs e fr)::R) w):St w0 M (poolA [(g,0,cs.toList)]::R) w :=
 h.conv (by rw [poolA_fp,blk_fp];rfl) fun hb=>by
  rw [blk_ho] at hb;rw [poolA_ho];intro x hx;simp only [List.mem_cons,List.not_mem_nil,or_false] at hx;subst hx;refine ⟨(Array.getElem?_eq_some_iff.1 hb).1,fun j u hj=>?_⟩;rw [cell_of_row w g (0+j) cs e fr hb];simpa using hj
theorem sto_nil_ok:Sto.Ok ⟨1048576,[]⟩:=⟨Nat.le_refl _,by simp,fun i j x y h=>by simp at h,fun i x h=>by simp at h⟩
end
section
open Go.RowKit Go.Maps
attribute [local go_sem] InGr
theorem run_assert_int {P:Program} {t xT:TypeId} {k:IntKind} {v:Value} {w:World} (h:P.underlying t=some (.int k)):(Instr.typeAssert (.iface t v) xT t true).run P w=.ok (.tuple #[v,.bool true]) w:=by
 simp [Instr.typeAssert,run_underlying h,go_sem,Result.andThen]
theorem errno_under:Tryz.prog.underlying 73=some (.int .i64):=by kernel_rfl
section
variable {ops:Array Oper} {Q:Exit->Act->World->Prop} {rest:List Oper} {a:Act} {w:World} {o1:Oper} {dst:Option Tmp} {ty0:TypeId} {pos:String} {aft:Array Edge} {gd:Option (Nat×Bool)}
def AtAssert (P:Program) (ops:Array Oper) (Q:Exit->Act->World->Prop) (o:Oper) (_:Operand) (_ _:TypeId) (_:Bool) (rest:List Oper) (a:Act) (w:World):Prop:=wpList P ops Q (o::rest) a w
theorem isAssert {P:Program} {t u:TypeId} {x:Operand} {ok:Bool} (h:AtAssert P ops Q ⟨dst,.typeAssert x t u ok,ty0,pos,aft,gd⟩ x t u ok rest a w):wpList P ops Q (⟨dst,.typeAssert x t u ok,ty0,pos,aft,gd⟩::rest) a w:=h
theorem AtAssert.errno {x:Operand} {xT:TypeId} {v:Value} (hw:Region.wanted o1 (yielded ops a.tmps)=true) (ho:o1.op=.typeAssert x xT 73 true) (hx:a.eval x=.iface 73 v)
  (h:wpList Tryz.prog ops Q rest (a.put o1.dst (.tuple #[v,.bool true])) w):AtAssert Tryz.prog ops Q o1 x xT 73 true rest a w :=
 wpList_step fun _ hK=>by
  rw [if_pos hw];unfold Oper.wp execOp;simp only [ho,hx,Sem.run_bind,run_assert_int errno_under,Result.andThen_ok];exact hK _ _ h
end
theorem num_nil (w:World):Calls Tryz.prog 20 #[.nilIface] w fun e w'=>e=.returned (.int .i64 0)∧w'=w:=by
 have H:=St.nil w [];have HK:=Ks.nil w [];go_enter Tryz.func20,Tryz.ntmps20;go_wp2_with (first|refine sL ?_);go_ret;exact ⟨rfl,rfl⟩
theorem num_ev (n:Nat) (w:World):Calls Tryz.prog 20 #[.iface 73 (.int .i64 n)] w fun e w'=>e=.returned (.int .i64 n)∧w'=w:=by
 have H:=St.nil w [];have HK:=Ks.nil w [];go_enter Tryz.func20,Tryz.ntmps20;go_wp2_with (first|refine sL ?_|((with_reducible refine isAssert ?_);refine AtAssert.errno rfl rfl rfl ?_;simp only [Act.put,puA,puB,puC]));go_ret;exact ⟨rfl,rfl⟩
end
section
open Go.RowKit Go.Maps
attribute [local go_sem] InGr
structure Pz where
 c:Bool
 f:Int
 n:Int
 t:List Nat
structure Pi where
 c:Bool
 f:Int
 n:Int
 id:Nat
def encPi (p:Pi):List Value:=[.bool p.c,.int .i64 p.f,.int .i64 p.n,.int .i64 p.id]
theorem encPi_len (p:Pi):(encPi p).length=4:=rfl
theorem encPi_one (p:Pi):∀ u∈encPi p,u.oneCell'=true:=by
 intro u hu;simp [encPi] at hu;rcases hu with rfl|rfl|rfl|rfl <;> rfl
structure PiOk (S:Sto) (p:Pi) (q:Pz):Prop where
 c:p.c=q.c
 f:p.f=q.f
 n:p.n=q.n
 id:IdIs S p.id (q.t.map Tr.leaf)
theorem PiOk.le {S S':Sto} {p:Pi} {q:Pz} (h:PiOk S p q) (hS:S.Ok) (hl:S.Le S'):PiOk S' p q:=⟨h.c,h.f,h.n,h.id.le hS hl⟩
def PiL (S:Sto):List Pi->List Pz->Prop
 |[],[]=>True
 |a::l,t::u=>PiOk S a t∧PiL S l u
 |_,_=>False
theorem PiL.len {S:Sto}:∀ {l:List Pi} {u:List Pz},PiL S l u->l.length=u.length
 |[],[],_=>rfl
 |a::l,t::u,h=>by simp [PiL.len h.2]
 |[],_::_,h=>h.elim
 |_::_,[],h=>h.elim
theorem PiL.get {S:Sto}:∀ {l:List Pi} {u:List Pz} {i:Nat} {a:Pi},PiL S l u->l[i]?=some a->∃ t,u[i]?=some t∧PiOk S a t
 |[],[],i,a,_,h=>by simp at h
 |b::l,t::u,0,a,h,e=>by
  simp only [List.getElem?_cons_zero,Option.some.injEq] at e;subst e;exact ⟨t,rfl,h.1⟩
 |b::l,t::u,i+1,a,h,e=>by
  simp only [List.getElem?_cons_succ] at e ⊢;exact PiL.get h.2 e
 |[],_::_,_,_,h,_=>h.elim
 |_::_,[],_,_,h,_=>h.elim
theorem PiL.le {S S':Sto} (hS:S.Ok) (hl:S.Le S'):∀ {l:List Pi} {u:List Pz},PiL S l u->PiL S' l u
 |[],[],_=>trivial
 |a::l,t::u,h=>⟨h.1.le hS hl,PiL.le hS hl h.2⟩
 |[],_::_,h=>h.elim
 |_::_,[],h=>h.elim
theorem PiL.append {S:Sto}:∀ {l l':List Pi} {u u':List Pz},PiL S l u->PiL S l' u'->PiL S (l++l') (u++u')
 |[],_,[],_,_,h=>h
 |a::l,_,t::u,_,h,k=>⟨h.1,PiL.append h.2 k⟩
 |[],_,_::_,_,h,_=>h.elim
 |_::_,_,[],_,h,_=>h.elim
def chkP (size:Nat) (q:Pz):Nat :=
 if q.c then (if q.t≠[]∨q.n<1 then 4 else if 0<=q.f∧q.f+q.n<=size then 0 else 1)
 else (if q.f≠0∨q.n≠0∨q.t=[] then 4 else 0)
def chkL (size:Nat):List Pz->Nat
 |[]=>0
 |q::r=>if chkP size q=0 then chkL size r else chkP size q
theorem chkL_zero {size:Nat}:∀ {l:List Pz},chkL size l=0↔∀ q∈l,chkP size q=0
 |[]=>by simp [chkL]
 |q::r=>by
  rw [chkL];split
  ·rename_i h;simp [h,chkL_zero (l:=r)]
  ·rename_i h;simp [h]
theorem chkL_first {size:Nat}:∀ {l:List Pz} {i:Nat} {q:Pz},(∀ j x,j<i->l[j]?=some x->chkP size x=0)->l[i]?=some q->chkP size q≠0->chkL size l=chkP size q
 |[],i,q,_,h,_=>by simp at h
 |x::r,0,q,_,h,h1=>by
  simp at h;subst h;rw [chkL,if_neg h1]
 |x::r,i+1,q,hb,h,h1=>by
  rw [chkL,if_pos (hb 0 x (by omega) (by simp))];exact chkL_first (i:=i) (q:=q) (fun j y hj hy=>hb (j+1) y (by omega) (by simpa using hy)) (by simpa using h) h1
def szP (q:Pz):Nat:=if q.c then q.n.toNat else q.t.length
def szL (l:List Pz):Nat:=(l.map szP).sum
def erN (k:Nat):Value:=if k=0 then .nilIface else .iface 73 (.int .i64 (k:Nat))
theorem idIs_zero {S:Sto} {id:Nat} {t:List Nat} (h:IdIs S id (t.map Tr.leaf)):id=0↔t=[]:=by
 rcases h with ⟨h1,rfl⟩|⟨T,h1,h2,h3⟩
 ·simpa using h1
 ·have:=canon_pos h2;rw [h3] at this;have h4:=h1.1;constructor
  ·intro h;exact absurd h4 (by omega)
  ·intro h;subst h;simp at this
theorem baseSize_c {X:Px} {b:Nat} {s:List Tr} (hX:PxOk X) (hd:IdIs X.S b s) (w:World) (h:PH X w) :
  Calls Tryz.prog 59 #[.pointer (some ⟨X.p,0,none⟩),.int .i64 b] w (PPost X (.tuple #[.int .i64 (s.length:Nat),.nilIface]) (pA X).fp w):=by
 have h:((pA X).sep deA).ho w:=h;rw [sep_ho] at h;obtain ⟨k1,k2,hdd⟩:=h;have H:=St.one k1;have HK:Ks w (pA X).fp [deA]:=⟨by simpa using k2,by simpa using fun b hb hm=>hdd b hm hb⟩
 generalize (pA X).fp=N at *;clear k1 k2 hdd;obtain ⟨a2,a3,a4,a5,a6,hw⟩:=weight_any hX hd;obtain ⟨l,_,htop⟩:=top_any hX hd;have HW:Hid (∀ w,(pA X).ho w->Calls Tryz.prog 40 #[.pointer (some ⟨X.s,0,none⟩),.int .i64 b] w fun e w'=>e=.returned (.tuple #[.agg #[.int .i64 (s.length:Nat),.int .i64 a2,.int .i64 a3,.int .i64 a4,.int .u64 a5,.int .u64 a6],.nilIface])∧St w [] [] w'):=zh fun w h=>hw X w (.refl _) rfl h
 have HS:Hid (∀ w,(pA X).ho w->Calls Tryz.prog 53 #[.pointer (some ⟨X.p,0,none⟩)] w fun e w'=>e=.returned (.pointer (some ⟨X.s,0,none⟩))∧w'=w):=zh fun w h=>store_p w h
 have HT:Hid (∀ w,((pA X).sep deA).ho w->Calls Tryz.prog 91 #[.pointer (some ⟨X.p,0,none⟩),.int .i64 b] w (PPost X (.tuple #[.int .i64 (l:Nat),.nilIface]) (pA X).fp w)):=zh fun w h=>htop X w (.refl _) hX rfl h
 obtain ⟨n,hn⟩:∃ n,s.length=n:=⟨_,rfl⟩
 rw [hn] at HW ⊢;clear hX hd hw htop hn;go_enter Tryz.func59,Tryz.ntmps59;go_wp2_with (first|refine sL ?_|(refine sS ?_;clear H;intros;rename_i H)|(go_at_call 53;with_reducible refine same (HS.out _ (H.get pk)) ?_)|(go_at_call 40;with_reducible refine zm (HW.out _ (H.get pk)) ?_;rintro e9 wc ⟨rfl,hb⟩;replace H:=H.grew hb.below;clear hb)|(go_at_call 91;with_reducible refine zm (HT.out _ (H.sepK HK pk pk)) ?_;rintro e9 wc ⟨X2,y1,y2,y3,rfl,hb⟩;have HY:=zh (za y1 (za y2 y3));clear y1 y2 y3;replace H:=zn ((H.pick pk).call hb);clear hb));go_ret2;exact ⟨X2,HY.out.1,HY.out.2.1,HY.out.2.2,rfl,H.picks (.cons pk .nil)⟩
attribute [local go_sem] StStep stAt stUpon in
theorem pieceSize_c {X:Px} {p:Pi} {q:Pz} (hX:PxOk X) (hp:PiOk X.S p q) (hn:0<=q.n) (w:World) (h:(pA X).ho w) :
  Calls Tryz.prog 58 #[.pointer (some ⟨X.p,0,none⟩),.agg #[.bool p.c,.int .i64 p.f,.int .i64 p.n,.int .i64 p.id]] w fun e w'=>e=.returned (.tuple #[.int .i64 (szP q:Nat),.nilIface])∧St w [] [] w':=by
 have H:=St.nil w [];have HK:=Ks.one h;obtain ⟨pc,pf,pn,id⟩:=p;obtain ⟨qc,qf,qn,qt⟩:=q;obtain ⟨h1,h2,h3,h4⟩:=hp;simp only at h1 h2 h3 h4 hn ⊢;subst h1 h2 h3;cases pc with
 |true =>
  obtain ⟨n,rfl⟩:∃ n:Nat,pn=n:=⟨pn.toNat,by omega⟩
  have he:szP ⟨true,pf,(n:Int),qt⟩=n:=(by simp [szP]);rw [he];clear h hX h4 he hn;go_enter Tryz.func58,Tryz.ntmps58;go_wp2_with (first|refine sL ?_|(refine sS ?_;clear H;intros;rename_i H));go_ret2;exact ⟨rfl,H.nix⟩
 |false =>
  obtain ⟨a2,a3,a4,a5,a6,hw⟩:=weight_any hX h4;have he:szP ⟨false,pf,pn,qt⟩=(qt.map Tr.leaf).length:=(by simp [szP]);rw [he];have HW:Hid (∀ w,(pA X).ho w->Calls Tryz.prog 40 #[.pointer (some ⟨X.s,0,none⟩),.int .i64 id] w fun e w'=>e=.returned (.tuple #[.agg #[.int .i64 ((qt.map Tr.leaf).length:Nat),.int .i64 a2,.int .i64 a3,.int .i64 a4,.int .u64 a5,.int .u64 a6],.nilIface])∧St w [] [] w'):=zh fun w h=>hw X w (.refl _) rfl h
  have HS:Hid (∀ w,(pA X).ho w->Calls Tryz.prog 53 #[.pointer (some ⟨X.p,0,none⟩)] w fun e w'=>e=.returned (.pointer (some ⟨X.s,0,none⟩))∧w'=w):=zh fun w h=>store_p w h
  generalize (qt.map Tr.leaf).length=n at *;clear h hX h4 he hn hw;go_enter Tryz.func58,Tryz.ntmps58;go_wp2_with (first|refine sL ?_|(refine sS ?_;clear H;intros;rename_i H));rename_i b3 _ _ _;refine wp_region_sgx 11 [⟨[],fun v _=>v=.pointer (some ⟨X.p,0,none⟩)⟩,⟨[0],fun v _=>v=.pointer (some ⟨X.s,0,none⟩)⟩,⟨[],fun v _=>v=.pointer (some ⟨b3,3,none⟩)⟩,⟨[2],fun v _=>v=.int .i64 id⟩,⟨[1,3],fun v _=>v=.tuple #[.agg #[.int .i64 (n:Nat),.int .i64 a2,.int .i64 a3,.int .i64 a4,.int .u64 a5,.int .u64 a6],.nilIface]⟩,⟨[4],fun v _=>v=.tuple #[.agg #[.int .i64 (n:Nat),.int .i64 a2,.int .i64 a3,.int .i64 a4,.int .u64 a5,.int .u64 a6],.nilIface]⟩,⟨[5],fun v _=>v=.agg #[.int .i64 (n:Nat),.int .i64 a2,.int .i64 a3,.int .i64 a4,.int .u64 a5,.int .u64 a6]⟩,⟨[5],fun v _=>v=.nilIface⟩,⟨[],fun v _=>∃ b4:Nat,v=.pointer (some ⟨b4,0,none⟩)⟩,⟨[6,8],fun _ _=>True⟩,⟨[7],fun v _=>v=.nilIface⟩] [8,9] [[0,1],[0,1],[0,1],[0,1],[0,1],[0,1],[0,1],[0,1,2],[0],[1],[2]] [fun _ wx=>St w [] [blk b3 (.cells #[.bool false,.int .i64 pf,.int .i64 pn,.int .i64 id] 98)] wx,fun vals wx=>∃ b4:Nat,vals 8=.pointer (some ⟨b4,0,none⟩)∧St w [] [blk b4 (.cells #[.int .i64 0,.int .i64 0,.int .i64 0,.int .i64 0,.int .u64 0,.int .u64 0] 78),blk b3 (.cells #[.bool false,.int .i64 pf,.int .i64 pn,.int .i64 id] 98)] wx,fun vals wx=>∃ b4:Nat,vals 8=.pointer (some ⟨b4,0,none⟩)∧St w [] [blk b4 (.cells #[.int .i64 (n:Nat),.int .i64 a2,.int .i64 a3,.int .i64 a4,.int .u64 a5,.int .u64 a6] 78),blk b3 (.cells #[.bool false,.int .i64 pf,.int .i64 pn,.int .i64 id] 98)] wx]
   [[],[(0,13)],[],[(2,15)],[(1,14),(3,16)],[(4,17)],[(5,12)],[(5,12)],[],[(6,18),(8,6)],[(7,19)]] [(0,13),(1,14),(2,15),(3,16),(4,17),(5,12),(6,18),(7,19),(8,6),(10,7)] (by kernel_rfl) (by kernel_rfl) H.drew ⟨⟨qo,qo,trivial⟩,⟨?_,?_,trivial⟩,⟨qo,qo,trivial⟩,⟨ql,ql,trivial⟩,⟨?_,?_,trivial⟩,⟨qo,qo,trivial⟩,⟨qo,qo,trivial⟩,⟨qo,qo,qo,trivial⟩,⟨?_,trivial⟩,⟨?_,trivial⟩,⟨qo,trivial⟩,trivial⟩ ?_
  ·intro vals wx hd HC;simp only [GF] at hd;have h0:=hd;clear hd;have H:=HC;simp only [CA] at H;simp only [PS,h0];clear h0;go_simp;with_reducible refine zm (HS.out _ (H.known HK pk)) ?_
   rintro e wz ⟨rfl,rfl⟩;first|exact ⟨_,rfl,rfl,HC⟩|exact ⟨_,rfl,HC⟩
  ·intro vals wx hd HC;simp only [GF] at hd;have h0:=hd;clear hd;have H:=HC;simp only [CA] at H;obtain ⟨b4,hv,H⟩:=H;simp only [PS,h0];clear h0;go_simp;with_reducible refine zm (HS.out _ (H.known HK pk)) ?_
   rintro e wz ⟨rfl,rfl⟩;first|exact ⟨_,rfl,rfl,HC⟩|exact ⟨_,rfl,HC⟩
  ·intro vals wx hd HC;simp only [GF] at hd;obtain ⟨h1,h3⟩:=hd;have H:=HC;simp only [CA] at H;simp only [PS,h1,h3];clear h1 h3 HC;go_simp;with_reducible refine zm (HW.out _ (H.known HK pk)) ?_
   rintro e wz ⟨rfl,hb⟩;replace H:=H.grew hb.below;exact ⟨_,rfl,rfl,H⟩
  ·intro vals wx hd HC;simp only [GF] at hd;obtain ⟨h1,h3⟩:=hd;have H:=HC;simp only [CA] at H;obtain ⟨b4,hv,H⟩:=H;simp only [PS,h1,h3];clear h1 h3 HC;go_simp;with_reducible refine zm (HW.out _ (H.known HK pk)) ?_
   rintro e wz ⟨rfl,hb⟩;replace H:=H.grew hb.below;exact ⟨_,rfl,rfl,⟨b4,hv,H⟩⟩
  ·intro vals wx hd HC;clear hd;have H:=HC;simp only [CA] at H;simp only [PS];clear HC;refine StStep.allocT H rfl rfl rfl rfl ?_;intro b4 wz H;exact ⟨⟨b4,rfl⟩,b4,rfl,H⟩
  ·intro vals wx hd HC;simp only [GF] at hd;obtain ⟨h6,h8⟩:=hd;have H:=HC;simp only [CA] at H;obtain ⟨b4,hv,H⟩:=H;simp only [PS,h6,hv,h6];refine StStep.storeT rfl rfl rfl rfl rfl rfl H rfl ?_;intro wz H;exact ⟨trivial,b4,hv,H⟩
  intro vals wx hd HC;have h8:=hd.2.2.2.2.2.2.2.2.1;simp only [CA] at HC;obtain ⟨b4,hv,H⟩:=HC;simp only [GF] at hd;simp only [PS,hd];clear hd;simp only [hv];go_wp2_with (first|refine sL ?_|(refine sS ?_;clear H;intros;rename_i H));go_ret2;exact ⟨rfl,H.nix⟩
theorem checkPiece_c {X:Px} {p:Pi} {q:Pz} {size:Nat} (hX:PxOk X) (hp:PiOk X.S p q) (hsz:size<=1048576) (w:World) (h:PH X w) :
  Calls Tryz.prog 60 #[.pointer (some ⟨X.p,0,none⟩),.int .i64 (size:Nat),.agg #[.bool p.c,.int .i64 p.f,.int .i64 p.n,.int .i64 p.id]] w (PPost X (erN (chkP size q)) (pA X).fp w):=by
 have h:((pA X).sep deA).ho w:=h;rw [sep_ho] at h;obtain ⟨k1,k2,hdd⟩:=h;have H:=St.one k1;have HK:Ks w (pA X).fp [deA]:=⟨by simpa using k2,by simpa using fun b hb hm=>hdd b hm hb⟩
 generalize (pA X).fp=N at *;clear k1 k2 hdd;obtain ⟨pc,pf,pn,id⟩:=p;obtain ⟨qc,qf,qn,qt⟩:=q;obtain ⟨h1,h2,h3,h4⟩:=hp;simp only at h1 h2 h3 h4 ⊢;subst h1 h2 h3;have hz:=idIs_zero h4;obtain ⟨l,_,htop⟩:=top_any hX h4;have HT:Hid (∀ w,((pA X).sep deA).ho w->Calls Tryz.prog 91 #[.pointer (some ⟨X.p,0,none⟩),.int .i64 id] w (PPost X (.tuple #[.int .i64 (l:Nat),.nilIface]) (pA X).fp w)):=zh fun w h=>htop X w (.refl _) hX rfl h
 have HX:=zh hX;clear hX h4 htop;cases pc with
 |true =>
  by_cases h0:id=0
  ·have ht:=hz.1 h0;have d0:((id:Int) != 0)=false:=(by simp;omega);by_cases hn:pn<1
   ·have d1:decide (pn<1)=true:=(by simp;omega);have he:erN (chkP size ⟨true,pf,pn,qt⟩)=.iface 73 (.int .i64 (4:Nat)):=(by simp [chkP,hn,erN]);rw [he];clear he hz h0 ht hn;go_enter Tryz.func60,Tryz.ntmps60;go_wp2_with (first|refine sL ?_|(refine sS ?_;clear H;intros;rename_i H));go_ret;exact ⟨X,.refl _,HX.out,rfl,rfl,H.picks (.cons pk .nil)⟩
   ·have d1:decide (pn<1)=false:=(by simp;omega);by_cases hr:0<=pf∧pf+pn<=size
    ·obtain ⟨f,rfl⟩:∃ f:Nat,pf=f:=⟨pf.toNat,by omega⟩
     obtain ⟨n,rfl⟩:∃ n:Nat,pn=n:=⟨pn.toNat,by omega⟩
     have he:erN (chkP size ⟨true,(f:Int),(n:Int),qt⟩)=.nilIface:=by
      have:chkP size ⟨true,(f:Int),(n:Int),qt⟩=0:=by
       simp only [chkP,if_true];rw [if_neg (by simp only [ht];simp;omega),if_pos hr]
      rw [this];rfl
     rw [he];have HR:Hid (∀ w,Calls Tryz.prog 89 #[.int .i64 (f:Nat),.int .i64 (n:Nat),.int .i64 (size:Nat)] w fun e w'=>e=.returned .nilIface∧w'=w):=zh fun w=>range_ok f n size (by omega) (by omega) w
     clear he hz h0 ht hn hr;go_enter Tryz.func60,Tryz.ntmps60;go_wp2_with (first|refine sL ?_|(refine sS ?_;clear H;intros;rename_i H)|(go_at_call 89;with_reducible refine same (HR.out _) ?_));go_ret;exact ⟨X,.refl _,HX.out,rfl,rfl,H.picks (.cons pk .nil)⟩
    ·have he:erN (chkP size ⟨true,pf,pn,qt⟩)=.iface 73 (.int .i64 (1:Nat)):=by
      have:chkP size ⟨true,pf,pn,qt⟩=1:=by
       simp only [chkP,if_true];rw [if_neg (by simp only [ht];simp;omega),if_neg hr]
      rw [this];rfl
     rw [he];have hrn:=fun w=>range_no pf pn size (by omega) (by omega) w
     simp only [EV] at hrn;have HR:=zh hrn;clear he hz h0 ht hn hr hrn;go_enter Tryz.func60,Tryz.ntmps60;go_wp2_with (first|refine sL ?_|(refine sS ?_;clear H;intros;rename_i H)|(go_at_call 89;with_reducible refine same (HR.out _) ?_));go_ret;exact ⟨X,.refl _,HX.out,rfl,rfl,H.picks (.cons pk .nil)⟩
  ·have ht:qt≠[]:=fun h=>h0 (hz.2 h)
   have d0:((id:Int) != 0)=true:=(by simp;omega);have he:erN (chkP size ⟨true,pf,pn,qt⟩)=.iface 73 (.int .i64 (4:Nat)):=(by simp [chkP,ht,erN]);rw [he];clear he hz h0 ht;go_enter Tryz.func60,Tryz.ntmps60;go_wp2_with (first|refine sL ?_|(refine sS ?_;clear H;intros;rename_i H));go_ret;exact ⟨X,.refl _,HX.out,rfl,rfl,H.picks (.cons pk .nil)⟩
 |false =>
  by_cases hf:pf=0
  case' neg =>
   have d0:(pf != 0)=true:=(by simpa using hf);have he:erN (chkP size ⟨false,pf,pn,qt⟩)=.iface 73 (.int .i64 (4:Nat)):=by simp [chkP,hf,erN]
  case' pos =>
   have d0:(pf != 0)=false:=(by simpa using hf);by_cases hn:pn=0
   case' neg =>
    have d1:(pn != 0)=true:=(by simpa using hn);have he:erN (chkP size ⟨false,pf,pn,qt⟩)=.iface 73 (.int .i64 (4:Nat)):=by simp [chkP,hn,erN]
   case' pos =>
    have d1:(pn != 0)=false:=(by simpa using hn);by_cases h0:id=0
    case' pos =>
     have d2:((id:Int)==0)=true:=(by simp;omega);have he:erN (chkP size ⟨false,pf,pn,qt⟩)=.iface 73 (.int .i64 (4:Nat)):=by simp [chkP,hz.1 h0,erN]
    case' neg =>
     have d2:((id:Int)==0)=false:=(by simp;omega);have he:erN (chkP size ⟨false,pf,pn,qt⟩)=.nilIface:=by
      have:qt≠[]:=fun h=>h0 (hz.2 h)
      simp [chkP,hf,hn,this,erN]
  all_goals
   rw [he];clear he hz;try clear hn
   try clear h0
   clear hf;go_enter Tryz.func60,Tryz.ntmps60;go_wp2_with (first|refine sL ?_|(refine sS ?_;clear H;intros;rename_i H)|(go_at_call 91;with_reducible refine zm (HT.out _ (H.sepK HK pk pk)) ?_;rintro e9 wc ⟨X2,y1,y2,y3,rfl,hb⟩;have HY:=zh (za y1 (za y2 y3));clear y1 y2 y3;replace H:=zn ((H.pick pk).call hb);clear hb));go_ret;first|exact ⟨X,.refl _,HX.out,rfl,rfl,H.picks (.cons pk .nil)⟩|exact ⟨X2,HY.out.1,HY.out.2.1,HY.out.2.2,rfl,H.picks (.cons pk .nil)⟩
end
end Go.Proofs.YtgnppnokkdghcaaGreatDoor
