/-
  CanonicalClasses: the given tied card: for every input the law returns true and leaves its arguments; the library's table is tied to the program's text by the given tie. No condition beyond the statement's own.
-/
import Derived.Test.YtgnppnokkdghcaaGreatDoorAk10
set_option linter.unusedSimpArgs false
set_option linter.unusedVariables false
set_option maxRecDepth 100000
set_option maxHeartbeats 80000000
open List renaming append_nil→qO,cons_append→zl,drop_succ_cons→wL,drop_zero→yx,flatMap_cons→zu,flatMap_nil→wR,map_cons→q7,map_nil→yh,nil_append→zr,take_zero→jB
open Nat renaming zero_add→qT
namespace Go.Proofs.YtgnppnokkdghcaaGreatDoor
end Go.Proofs.YtgnppnokkdghcaaGreatDoor
section
namespace Go.Proofs.YtgnppnokkdghcaaGreatDoor.lawCanonicalClasses
open Go.ChangeShapes Go.WideShapes Go.ChangeAt Go.RowKit
open Go.Proofs.YtgnppnokkdghcaaGreatDoor
set_option linter.unusedVariables false
set_option maxRecDepth 100000 in
theorem lifted (os:Os) (started:os.Started) (H:Type) (enc:TypeId×Value→H) :
  ReturnsInHanded {} Tryz.checked os 10 .any (fun w args=>(Rows.canonicalClassesSpec.pre enc Tryz.prog Tryz.f10 [] false w args∧laidMetH Tryz.prog [("math/bits.deBruijn64tab",Rows.laid_math_bits_deBruijn64tab)] w)∧sizedMet enc Tryz.prog Tryz.f10 (OpenSpec.ofChange Rows.canonicalClassesSpec) false w args)
   (Rows.canonicalClassesSpec.post enc Tryz.prog Tryz.f10 false true false false):=by
 refine returnsInHanded_of_change_and (C:=Tryz.checked) (X:=fun w _=>laidMetH Tryz.prog [("math/bits.deBruijn64tab",Rows.laid_math_bits_deBruijn64tab)] w) (fun _ _ _ hh h=>h.of_heap hh) ownK started (by kernel_rfl) Tryz.func10
  (ChangeSpec.witness_shaped (enc:=enc) (C:=Tryz.checked) (os:=os) (X:=fun w _=>laidMetH Tryz.prog [("math/bits.deBruijn64tab",Rows.laid_math_bits_deBruijn64tab)] w) false (World.doorLaid Tryz.prog 400 os) #[.slice none 0 0,.int .i64 0,.int .i64 0] 8 rfl (World.shaped_of_RefB (by kernel_rfl) (by kernel_rfl)) (by kernel_rfl) (by kernel_rfl) (by kernel_rfl) (door_met os _)) ?_
 intro W base args ds gs qj hval0 hW _ _ hL _;have hval:∀ (j:Nat) t v,Tryz.f10.params[j]?=some t→args[j]?=some v→Value.okWide Tryz.prog W .any base t v:=hval0;have hW':=hW;obtain ⟨p,q,hA0,hV,rfl,hfz,hnd⟩:=hW;have hA:DataW.TrodAll enc Tryz.prog W 0 (fun _=>true) true Tryz.f10.params.toList args.toList ds p:=hA0;rw [Tryz.params10] at hA hval;obtain ⟨v0,vs0,d0,ds0,p0,q0,hargs,rfl,rfl,h0,r0⟩:=trodAll_cons hA;obtain ⟨v1,vs1,d1,ds1,p1,q1,rfl,rfl,rfl,h1,r1⟩:=trodAll_cons r0;obtain ⟨v2,vs2,d2,ds2,p2,q2,rfl,rfl,rfl,h2,r2⟩:=trodAll_cons r1;obtain ⟨rfl,rfl,rfl⟩:=trodAll_nil r2;obtain rfl:args=#[v0,v1,v2]:=by cases args;simp_all
 obtain ⟨rfl,rfl⟩:=trodVars_none hV;have k0:=h0;have lt0:∀ x∈p0,x.block<W.heap.size:=(by obtain ⟨m,hm⟩:=k0;exact DataW.trod_lt m _ _ _ hm);have k1:=h1;have lt1:∀ x∈p1,x.block<W.heap.size:=(by obtain ⟨m,hm⟩:=k1;exact DataW.trod_lt m _ _ _ hm);have k2:=h2;have lt2:∀ x∈p2,x.block<W.heap.size:=(by obtain ⟨m,hm⟩:=k2;exact DataW.trod_lt m _ _ _ hm);obtain ⟨x0,P0,t0,b0,w0⟩:=arg_rules (hval 0 54 v0 rfl rfl) h0;obtain ⟨z1,rfl,_⟩:=arg_int (hval 1 3 v1 rfl rfl) h1;obtain ⟨z2,rfl,_⟩:=arg_int (hval 2 3 v2 rfl rfl) h2;have hde:=tab_of hL;clear hA0 hval0;refine (V6 t0 b0 z1 z2 W hde w0).mono fun e W' ⟨he,bel⟩=>?_
 subst he;exact ⟨_,rfl,_,_,_,[],_,[],hW',trodAll_mk1 (shut_bool Tryz.underlying4 _),(trodAll_cons_mk (Below.trod Zk (by kernel_rfl) (of_decide_eq_true (by kernel_rfl)) k0 bel.below lt0) (trodAll_cons_mk (Below.trod Zk (by kernel_rfl) (of_decide_eq_true (by kernel_rfl)) k1 bel.below lt1) (trodAll_cons_mk (Below.trod Zk (by kernel_rfl) (of_decide_eq_true (by kernel_rfl)) k2 bel.below lt2) trodAll_mk0))),rfl,bel.below.frame _,fun h=>by cases h⟩
theorem over:Rows.canonicalClassesRow.holds Tryz.pinned (OpenSpec.ofChange Rows.canonicalClassesSpec) :=
 OpenClaim.holds_of_wide 10 Tryz.f10 rfl rfl rfl rfl rfl rfl rfl ⟨rfl,rfl,rfl,rfl,rfl⟩ rfl rfl rfl rfl rfl (by kernel_rfl) Tryz.func10 (by kernel_rfl)
  (of_decide_eq_true (by kernel_rfl)) (by unfold Func.isWrapper;first|(rw [if_pos (by decide +kernel)];kernel_rfl)|(rw [if_neg (by decide +kernel)];exact ⟨rfl,rfl⟩))
  (fun os started H enc _=>lifted os started H enc)
theorem proved:Rows.CanonicalClassesCardSaid :=
 Claim7.holds_tied_plain_at .later [] [.data] true (true,"6e50a225e209f2ae990c6073ab2e17c0e24770994b7a6d006b0bd6af646f7499") true
  over (fun _ h=>by cases h) (by kernel_rfl) (fun _ h=>by cases h) canonicalClasses_row_tie rfl ⟨rfl,rfl⟩ (by kernel_rfl) rfl
  (fun f fn hf hfn=>by
   obtain rfl:f=10:=Option.some.inj ((show Tryz.prog.funcNamed "evergreen/evergreenlaw25.CanonicalClasses"=some 10 by kernel_rfl).symm.trans hf) |>.symm
   obtain rfl:fn=Tryz.f10:=(Option.some.inj (Tryz.func10.symm.trans hfn)).symm;exact ⟨by kernel_rfl,fun j t ht=>by
    rw [Tryz.params10] at ht;have hm:t∈[54,3,3]:=(by simpa using Array.mem_of_getElem? ht);have hall:([54,3,3].all fun u=>!Tryz.prog.wantsStandIn u)=true:=(by kernel_rfl);exact (show Tryz.prog.wantsStandIn t=false by simpa using List.all_eq_true.1 hall t hm)⟩)
  (by kernel_rfl)
#print axioms proved
end Go.Proofs.YtgnppnokkdghcaaGreatDoor.lawCanonicalClasses
end
namespace Go.Proofs.YtgnppnokkdghcaaGreatDoor
end Go.Proofs.YtgnppnokkdghcaaGreatDoor
