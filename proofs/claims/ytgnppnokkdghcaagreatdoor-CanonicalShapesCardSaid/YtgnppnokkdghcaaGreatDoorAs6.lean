/-
  Part 6 of the texts behind the statements of this seat: walks and laws Cv, Cq, Cx, Ck, Cy. Conditions: as each states.
-/
import Derived.Test.YtgnppnokkdghcaaGreatDoorAs5
set_option linter.unusedSimpArgs false
set_option linter.unusedVariables false
set_option maxRecDepth 100000
set_option maxHeartbeats 80000000
namespace Go.Proofs.YtgnppnokkdghcaaGreatDoor
section
open Go.RowKit Go.Maps
attribute [local go_sem] InGr
def OddOf (S:Sto) (o:Option Tr) (od:ItR):Prop:=match o with|none=>od.id=0|some t=>ItOf S ⟨t,none,1⟩ od
structure MtIn (X X1:Px) (M:List It) (k:Nat) (l:List It) (o:Option Tr) (acc:List ItR) (od:ItR):Prop where
 ext:X.Ext X1
 ok:PxOk X1
 its:ItsOf X1.S l acc
 odd:OddOf X1.S o od
 sg:Sg l
 way:(M.drop k).foldl mStr1 (l,o)=M.foldl mStr1 ([],none)
 sum:X1.S.list.length+((expI l).length+o.toList.length+(expI (M.drop k)).length)≤X.S.list.length+(expI M).length
 cnt:(expI l).length+o.toList.length+(expI (M.drop k)).length≤(expI M).length
 len:lenL o.toList+lenL (expI (M.drop k))≤maxT
theorem MtIn.next {X X1 X2:Px} {M l l':List It} {k:Nat} {o o':Option Tr} {acc acc':List ItR} {od od':ItR} {i:It} (h:MtIn X X1 M k l o acc od) (hi:M[k]?=some i) (he:X1.Ext X2) (ho:PxOk X2) (hm:mStr1 (l,o) i=(l',o')) (hits:ItsOf X2.S l' acc') (hodd:OddOf X2.S o' od') (hsg:Sg l')
  (hs:X2.S.list.length+((expI l').length+o'.toList.length)≤X1.S.list.length+((expI l).length+o.toList.length+i.exp.length)) (hc:(expI l').length+o'.toList.length≤(expI l).length+o.toList.length+i.exp.length) (hl:lenL o'.toList≤lenL o.toList+lenL i.exp):MtIn X X2 M (k+1) l' o' acc' od':=by
 have e1:=drop_one hi
 have h1:=h.way
 have h2:=h.sum
 have h3:=h.cnt
 have h4:=h.len
 rw [e1,List.foldl_cons,hm] at h1
 rw [e1,expI_cons] at h2 h3 h4
 rw [lenL_append] at h4
 simp only [List.length_append] at h2 h3
 exact ⟨h.ext.trans he,ho,hits,hodd,hsg,h1,by omega,by omega,by omega⟩
theorem MtIn.last {X X1:Px} {M:List It} {k:Nat} {l:List It} {o:Option Tr} {acc:List ItR} {od:ItR} (h:MtIn X X1 M k l o acc od) (hm:(expI M).length≤1048576):acc.length≤1048576∧∀ j,acc.getLast?=some j→j.n≤1048576:=by
 have h1:=h.its.len
 have h2:=tie_len2 h.sg
 have h3:=h.cnt
 refine ⟨by omega,fun j hj=>?_⟩
 obtain ⟨q,hq⟩:=List.mem_iff_getElem?.1 (List.mem_of_getLast? hj)
 have hql:q<l.length:=by rw [← h1];exact gelt hq
 obtain ⟨jr,e1,e2⟩:=h.its.get (k:=q) (i:=l[q]) (by simp)
 rw [hq] at e1
 injection e1 with e1
 have h4:=item_n_le (List.getElem_mem hql)
 rw [e1,e2.n]
 omega
end
section
open Go.RowKit Go.Maps
attribute [local go_sem] InGr
end
section
open Go.RowKit Go.Maps
attribute [local go_sem] InGr
end
section
open Go.RowKit Go.Maps
attribute [local go_sem] InGr
theorem den_len_le {S:Sto} (hS:S.Ok) {id:Nat} {t:Tr} (h:Den S id t):t.len≤1152921504606846976:=by
 obtain ⟨i,x,rfl,hx,ht⟩:=den_get h
 have hl:=(tr_len hS i x hx).1
 rw [ht] at hl
 cases rule_of hS hx with
 |letter b hb hr hw h1=>omega
 |pair l r y z _ _ _ _ _ hw hs _=>simp only [maxT] at hs;omega
 |pow l k y _ _ _ _ hw hs _=>simp only [maxT] at hs;omega
end
section
open Go.RowKit Go.Maps
attribute [local go_sem] InGr
def IdIs (S:Sto) (id:Nat) (s:List Tr):Prop:=(s=[]∧id=0)∨∃ T,Den S id T∧Canon T∧T.lay 0=s
theorem IdIs.le {S S':Sto} {id:Nat} {s:List Tr} (h:IdIs S id s) (hS:S.Ok) (hl:S.Le S'):IdIs S' id s:=by
 rcases h with h|⟨T,h1,h2⟩
 ·exact .inl h
 ·exact .inr ⟨T,h1.le hS hl,h2⟩
theorem canon_pos {T:Tr} (h:Canon T):1≤(T.lay 0).length:=lay_pos h.gd.2
theorem canon_high {T:Tr} (h:Canon T) {m:Nat} (hm:T.lv≤m):seqP (T.lay 0) m=[T]:=by rw [h.seq m,lay_low hm]
theorem canon_uniq {T U:Tr} (h:Canon T) (k:Canon U) (e:T.lay 0=U.lay 0):T=U:=by
 have h1:=canon_high h (Nat.le_max_left T.lv U.lv)
 have h2:=canon_high k (Nat.le_max_right T.lv U.lv)
 rw [e,h2] at h1
 injection h1 with h1
 exact h1.symm
theorem IdIs.len {S:Sto} (hS:S.Ok) {id:Nat} {s:List Tr} (h:IdIs S id s):s.length≤1152921504606846976:=by
 rcases h with ⟨rfl,_⟩|⟨T,h1,h2,rfl⟩
 ·simp
 ·rw [len_lay0 h2.gd];exact den_len_le hS h1
theorem IdIs.leaves {S:Sto} {id:Nat} {s:List Tr} (h:IdIs S id s):Leaves s:=by
 rcases h with ⟨rfl,_⟩|⟨T,h1,h2,rfl⟩
 ·intro t ht;simp at ht
 ·exact h2.leaves
theorem IdIs.uniq {S:Sto} (hS:S.Ok) {a b:Nat} {s:List Tr} (h:IdIs S a s) (k:IdIs S b s):a=b:=by
 rcases h with ⟨rfl,rfl⟩|⟨T,h1,h2,rfl⟩
 ·rcases k with ⟨_,rfl⟩|⟨U,_,k2,k3⟩
  ·rfl
  ·have:=canon_pos k2;rw [k3] at this;simp at this
 ·rcases k with ⟨k1,_⟩|⟨U,k1,k2,k3⟩
  ·have:=canon_pos h2;rw [k1] at this;simp at this
  ·have:=canon_uniq h2 k2 k3.symm
   subst this
   exact Den.id_inj hS h1 k1
end
end Go.Proofs.YtgnppnokkdghcaaGreatDoor
