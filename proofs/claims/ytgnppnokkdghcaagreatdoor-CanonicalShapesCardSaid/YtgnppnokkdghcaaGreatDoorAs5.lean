/-
  Part 5 of the texts behind the statements of this seat: walks and laws Cr. Conditions: as each states.
-/
import Derived.Test.YtgnppnokkdghcaaGreatDoorAs4
set_option linter.unusedSimpArgs false
set_option linter.unusedVariables false
set_option maxRecDepth 100000
set_option maxHeartbeats 80000000
namespace Go.Proofs.YtgnppnokkdghcaaGreatDoor
section
open Go.RowKit Go.Maps
attribute [local go_sem] InGr
theorem tieI_len {i:It} (h:TieI i):1≤i.exp.length:=by
 obtain ⟨h1,h2⟩:=h
 rcases h2 with ⟨h3,h4⟩|⟨y,h3,_⟩
 ·simp [It.exp,h3,h4]
 ·simp [It.exp,h3];omega
theorem strStep_snoc (lv:Nat) (p:List (Tr×Nat)) (x:Tr) (M:List It):∃ i,(strStep lv p x M).2=M++[i]:=by
 unfold strStep
 split
 ·split
  ·split
   ·exact ⟨_,rfl⟩
   ·exact ⟨_,rfl⟩
  ·exact ⟨_,rfl⟩
 ·exact ⟨_,rfl⟩
structure StrPl (b:Tr) (lv ky T:Nat) (e0:EndP) (M0:List It) (e1:EndP) (M1:List It):Prop where
 strs:Strs lv ky e0 M0 e1 M1
 z:EndZ b e1
 tie:Tie M1
 le:(expI M1).length≤T
 next:∀ p y,e1=(p,some y)→y.key=ky→EndZ b (strStep lv p y M1).1∧Tie (strStep lv p y M1).2∧(expI (strStep lv p y M1).2).length≤T∧(expI M1).length<(expI (strStep lv p y M1).2).length
theorem StrPl.of {b:Tr} {m lv ky T:Nat} {e0 e1:EndP} {M0 M1:List It} {R0:List Tr} (hlv:lv=m+1) (ho:m%2=1) (htie:isTie lv=true) (hc:Canon b) (hd:EndR b m e0 R0) (hM0:Tie M0) (hT:(expI M0).length+R0.length=T) (h:Strs lv ky e0 M0 e1 M1):StrPl b lv ky T e0 M0 e1 M1:=by
 subst hlv
 obtain ⟨R,Y,h1,h2,h3,h4,_⟩:=strs_inv ho htie hc hd hM0 h
 refine ⟨h,.ofR h1,h4,by rw [h3,← hT,h2];simp,?_⟩
 rintro p y rfl hk
 obtain ⟨R',Y',k1,k2,k3,k4,_⟩:=strs_inv ho htie hc hd hM0 (.step h hk)
 refine ⟨.ofR k1,k4,by rw [k3,← hT,k2];simp,?_⟩
 obtain ⟨i,hi⟩:=strStep_snoc (m+1) p y M1
 rw [hi] at k4 ⊢
 have:=tieI_len (k4 i (by simp))
 rw [expI_snoc]
 simp
 omega
end
end Go.Proofs.YtgnppnokkdghcaaGreatDoor
