/-
  Part 7 of the texts behind the statements of this seat: walks and laws Cz, Fa, Da, Db, Dc. Conditions: as each states.
-/
import Derived.Test.YtgnppnokkdghcaaGreatDoorAs6
set_option linter.unusedSimpArgs false
set_option linter.unusedVariables false
set_option maxRecDepth 100000
set_option maxHeartbeats 80000000
namespace Go.Proofs.YtgnppnokkdghcaaGreatDoor
section
open Go.RowKit Go.Maps
attribute [local go_sem] InGr
end
section
open Go.RowKit Go.Maps
def IdL (S:Sto):List Nat→List (List Tr)→Prop
 |[],[]=>True
 |a::l,t::u=>IdIs S a t∧IdL S l u
 |_,_=>False
theorem IdL.len {S:Sto}:∀ {l:List Nat} {u:List (List Tr)},IdL S l u→l.length=u.length
 |[],[],_=>rfl
 |a::l,t::u,h=>by simp [IdL.len h.2]
 |[],_::_,h=>h.elim
 |_::_,[],h=>h.elim
theorem IdL.get {S:Sto}:∀ {l:List Nat} {u:List (List Tr)} {i:Nat} {a:Nat},IdL S l u→l[i]?=some a→∃ t,u[i]?=some t∧IdIs S a t
 |[],[],i,a,_,h=>by simp at h
 |b::l,t::u,0,a,h,e=>by
  simp only [List.getElem?_cons_zero,Option.some.injEq] at e
  subst e
  exact ⟨t,rfl,h.1⟩
 |b::l,t::u,i+1,a,h,e=>by
  simp only [List.getElem?_cons_succ] at e ⊢
  exact IdL.get h.2 e
 |[],_::_,_,_,h,_=>h.elim
 |_::_,[],_,_,h,_=>h.elim
theorem IdL.of {S:Sto}:∀ {l:List Nat} {u:List (List Tr)} {i:Nat} {t:List Tr},IdL S l u→u[i]?=some t→∃ a,l[i]?=some a∧IdIs S a t
 |[],[],i,a,_,h=>by simp at h
 |b::l,t::u,0,a,h,e=>by
  simp only [List.getElem?_cons_zero,Option.some.injEq] at e
  subst e
  exact ⟨b,rfl,h.1⟩
 |b::l,t::u,i+1,a,h,e=>by
  simp only [List.getElem?_cons_succ] at e ⊢
  exact IdL.of h.2 e
 |[],_::_,_,_,h,_=>h.elim
 |_::_,[],_,_,h,_=>h.elim
theorem IdL.le {S S':Sto} (hS:S.Ok) (hl:S.Le S'):∀ {l:List Nat} {u:List (List Tr)},IdL S l u→IdL S' l u
 |[],[],_=>trivial
 |a::l,t::u,h=>⟨h.1.le hS hl,IdL.le hS hl h.2⟩
 |[],_::_,h=>h.elim
 |_::_,[],h=>h.elim
theorem IdL.append {S:Sto}:∀ {l l':List Nat} {u u':List (List Tr)},IdL S l u→IdL S l' u'→IdL S (l++l') (u++u')
 |[],_,[],_,_,h=>h
 |a::l,_,t::u,_,h,k=>⟨h.1,IdL.append h.2 k⟩
 |[],_,_::_,_,h,_=>h.elim
 |_::_,_,[],_,h,_=>h.elim
theorem IdL.snoc {S:Sto} {l:List Nat} {u:List (List Tr)} {a:Nat} {t:List Tr} (h:IdL S l u) (ha:IdIs S a t):IdL S (l++[a]) (u++[t]):=h.append ⟨ha,trivial⟩
end
section
theorem step_cut {m:Nat} {a:Tr} (h:Canon a) {A C B:List Tr} (e:a.lay (m+1)=A++C++B) (hC:C.flatMap (Tr.lay m)≠[]):stepP (m+1) (C.flatMap (Tr.lay m))=C:=by
 have e1:a.lay (m+1)=A++(C++B):=by rw [e];simp
 have hd:∀ y,(C.flatMap (Tr.lay m)).head?=some y→((C++B).flatMap (Tr.lay m)).head?=some y:=fun y hy=>by
  rw [List.flatMap_append]
  cases hq:C.flatMap (Tr.lay m) with
  |nil=>exact absurd hq hC
  |cons z l=>rw [hq] at hy;simpa using hy
 by_cases he:m%2=0
 ·obtain ⟨_,c2,c3⟩:=cut_runs he h e1
  obtain ⟨_,_,d3⟩:=cut_runs he h e
  have h1:=d3 [] (fun x y _ hy=>by simp at hy)
  have h2:=c3 (C.flatMap (Tr.lay m)) (fun x y hx hy=>c2 x y hx (hd y hy))
  rw [List.flatMap_append,List.append_nil,h2] at h1
  have h3:runs ([]:List Tr)=[]:=rfl
  rw [h3,List.append_nil] at h1
  rw [step_odd he]
  exact List.append_cancel_left h1
 ·have ho:m%2=1:=by omega
  obtain ⟨_,c2,c3⟩:=cut_pairs ho h e1
  obtain ⟨_,_,d3⟩:=cut_pairs ho h e
  have h1:=d3 [] (fun x y _ _ hy=>by simp at hy)
  have h2:=c3 (C.flatMap (Tr.lay m)) (fun x y hx hl hy=>c2 x y hx hl (hd y hy))
  rw [List.flatMap_append,List.append_nil,h2] at h1
  have h3:pairsF (fits (m+1)) ([]:List Tr)=[]:=by simp [pairsF]
  rw [h3,List.append_nil] at h1
  rw [step_even ho]
  exact List.append_cancel_left h1
theorem Canon.kid {a c:Tr} (h:Canon a) {j:Nat} (hj:(kids a)[j]?=some c):Canon c:=by
 have hc:=h.gd.kid (List.mem_of_getElem? hj)
 have hk:kids a=(kids a).take j++c::(kids a).drop (j+1):=by
  have hlt:=gelt hj
  rw [List.getElem?_eq_getElem hlt] at hj
  injection hj with hj
  conv=>lhs;rw [← List.take_append_drop j (kids a),List.drop_eq_getElem_cons hlt,hj]
 have hlay:∀ m,m<a.lv→a.lay m=((kids a).take j).flatMap (Tr.lay m)++c.lay m++((kids a).drop (j+1)).flatMap (Tr.lay m):=fun m hm=>by
  rw [lay_high hm]
  conv=>lhs;rw [hk]
  rw [List.flatMap_append,List.flatMap_cons]
  simp
 refine ⟨fun t ht=>h.leaves t (by rw [hlay 0 (by omega)];simp [ht]),fun m=>?_⟩
 induction m with
 |zero=>rfl
 |succ m ih =>
  show stepP (m+1) (seqP (c.lay 0) m)=c.lay (m+1)
  rw [ih]
  by_cases hm:c.lv≤m
  ·rw [lay_low hm,lay_low (Nat.le_succ_of_le hm),step_one]
  ·have h1:=step_cut h (m:=m) (hlay (m+1) (by omega))
   rw [lay_lay (Nat.le_succ m) c] at h1
   refine h1 fun e=>?_
   have:=lay_pos (m:=m) hc.1.2
   rw [e] at this
   simp at this
end
section
open Go.RowKit Go.Maps
attribute [local go_sem] InGr
end
section
open Go.RowKit Go.Maps
attribute [local go_sem] InGr
end
end Go.Proofs.YtgnppnokkdghcaaGreatDoor
