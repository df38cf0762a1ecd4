/-
  DeltaWhole: the given tied card: for every input the law returns true and leaves its arguments; the library's table is tied to the program's text by the given tie. No condition beyond the statement's own.
-/
import Derived.Test.YtgnppnokkdghcaaGreatDoorAw4
set_option linter.unusedSimpArgs false
set_option linter.unusedVariables false
set_option maxRecDepth 100000
set_option maxHeartbeats 80000000
namespace Go.Proofs.YtgnppnokkdghcaaGreatDoor
end Go.Proofs.YtgnppnokkdghcaaGreatDoor
section
namespace Go.Proofs.YtgnppnokkdghcaaGreatDoor.lawDeltaWhole
open Go.ChangeShapes Go.WideShapes Go.ChangeAt Go.RowKit
open Go.ChangeMaps (open_string shut_string)
open Go.Proofs.YtgnppnokkdghcaaGreatDoor
set_option linter.unusedVariables false
set_option maxRecDepth 100000 in
theorem lifted (os:Os) (started:os.Started) (H:Type) (enc:TypeId×Value→H) :
  ReturnsInHanded {} Tryz.checked os 11 .any (fun w args=>(Rows.deltaWholeSpec.pre enc Tryz.prog Tryz.f11 [] false w args∧laidMetH Tryz.prog [("math/bits.deBruijn64tab",Rows.laid_math_bits_deBruijn64tab)] w)∧sizedMet enc Tryz.prog Tryz.f11 (OpenSpec.ofChange Rows.deltaWholeSpec) false w args)
   (Rows.deltaWholeSpec.post enc Tryz.prog Tryz.f11 false true false false):=by
 refine returnsInHanded_of_change_and (C:=Tryz.checked) (X:=fun w _=>laidMetH Tryz.prog [("math/bits.deBruijn64tab",Rows.laid_math_bits_deBruijn64tab)] w) (fun _ _ _ hh h=>h.of_heap hh) ownK started (by kernel_rfl) Tryz.func11
  (ChangeSpec.witness_shaped (enc:=enc) (C:=Tryz.checked) (os:=os) (X:=fun w _=>laidMetH Tryz.prog [("math/bits.deBruijn64tab",Rows.laid_math_bits_deBruijn64tab)] w) false (World.doorLaid Tryz.prog 400 os) #[.string ⟨#[]⟩,.slice none 0 0] 8 rfl (World.shaped_of_RefB (by kernel_rfl) (by kernel_rfl)) (by kernel_rfl) (by kernel_rfl) (by kernel_rfl) (door_met os _)) ?_
 intro W base args ds gs before hval0 hW _ hsz0 hL _;have hval:∀ (j:Nat) t v,Tryz.f11.params[j]?=some t→args[j]?=some v→Value.okWide Tryz.prog W .any base t v:=hval0;have hW':=hW;obtain ⟨p,q,hA0,hV,rfl,hfz,hnd⟩:=hW;have hA:DataW.TrodAll enc Tryz.prog W 0 (fun _=>true) true Tryz.f11.params.toList args.toList ds p:=hA0;have hsz:(DataW.weightsEach Tryz.prog (Tryz.f11.params.toList++Rows.deltaWholeSpec.plain.varTypes Tryz.prog) (ds++gs)).all (·≤reachBytes)=true:=hsz0;rw [Tryz.params11] at hA hval hsz;obtain ⟨v0,vs0,d0,ds0,p0,q0,hargs,rfl,rfl,h0,r0⟩:=trodAll_cons hA;obtain ⟨v1,vs1,d1,ds1,p1,q1,rfl,rfl,rfl,h1,r1⟩:=trodAll_cons r0;obtain ⟨rfl,rfl,rfl⟩:=trodAll_nil r1;obtain rfl:args=#[v0,v1]:=by cases args;simp_all
 obtain ⟨rfl,rfl⟩:=trodVars_none hV;have k0:=h0;have lt0:∀ x∈p0,x.block<W.heap.size:=(by obtain ⟨m,hm⟩:=k0;exact DataW.trod_lt m _ _ _ hm);have k1:=h1;have lt1:∀ x∈p1,x.block<W.heap.size:=(by obtain ⟨m,hm⟩:=k1;exact DataW.trod_lt m _ _ _ hm);obtain ⟨s0,rfl,rfl,rfl,-⟩:=open_string Tryz.underlying9 (hval 0 9 v0 rfl rfl) h0;obtain ⟨L0,rfl,b0⟩:=strB_of s0;have n0:L0.length≤1152921504606846976:=by
  have h1:=sized_string hsz (j:=0) rfl rfl;have h2:=reachBytes_lt;rw [strB_dlen] at h1;omega
 obtain ⟨x1,P1,t1,w1,c1⟩:=arg_pieces (hval 1 22 v1 rfl rfl) h1;have n1:∀ q∈x1,q.t.length≤1152921504606846976:=fun q hq=>by
  have h1:=List.all_eq_true.1 hsz _ (DataW.weights_mem_each (j:=1) rfl rfl _ (c1 q hq).2.2);have h2:=reachBytes_lt;have h3:=of_decide_eq_true h1;omega
 have hde:=tab_of hL;clear hA0 hval0 hsz0;refine (whole_law t1 b0 (fun q hq=>(c1 q hq).1) n0 n1 (fun q hq=>(c1 q hq).2.1) W hde w1).mono fun e W' ⟨he,bel⟩=>?_
 subst he;exact ⟨_,rfl,_,_,_,[],_,[],hW',trodAll_mk1 (shut_bool Tryz.underlying4 _),(trodAll_cons_mk (Below.trod laidOut_ok (by kernel_rfl) (of_decide_eq_true (by kernel_rfl)) k0 bel.below lt0) (trodAll_cons_mk (Below.trod laidOut_ok (by kernel_rfl) (of_decide_eq_true (by kernel_rfl)) k1 bel.below lt1) trodAll_mk0)),rfl,bel.below.frame _,fun h=>by cases h⟩
theorem over:Rows.deltaWholeRow.holds Tryz.pinned (OpenSpec.ofChange Rows.deltaWholeSpec) :=
 OpenClaim.holds_of_wide 11 Tryz.f11 rfl rfl rfl rfl rfl rfl rfl ⟨rfl,rfl,rfl,rfl,rfl⟩ rfl rfl rfl rfl rfl (by kernel_rfl) Tryz.func11 (by kernel_rfl)
  (of_decide_eq_true (by kernel_rfl)) (by unfold Func.isWrapper;first|(rw [if_pos (by decide +kernel)];kernel_rfl)|(rw [if_neg (by decide +kernel)];exact ⟨rfl,rfl⟩))
  (fun os started H enc _=>lifted os started H enc)
theorem proved:Rows.DeltaWholeCardSaid :=
 Claim7.holds_tied_plain_at .later [] [.data] true (true,"6e50a225e209f2ae990c6073ab2e17c0e24770994b7a6d006b0bd6af646f7499") true
  over (fun _ h=>by cases h) (by kernel_rfl) (fun _ h=>by cases h) deltaWhole_row_tie rfl ⟨rfl,rfl⟩ (by kernel_rfl) rfl
  (fun f fn hf hfn=>by
   obtain rfl:f=11:=Option.some.inj ((show Tryz.prog.funcNamed "evergreen/evergreenlaw41.DeltaWhole"=some 11 by kernel_rfl).symm.trans hf) |>.symm
   obtain rfl:fn=Tryz.f11:=(Option.some.inj (Tryz.func11.symm.trans hfn)).symm;exact ⟨by kernel_rfl,fun j t ht=>by
    rw [Tryz.params11] at ht;have hm:t∈[9,22]:=(by simpa using Array.mem_of_getElem? ht);have hall:([9,22].all fun u=>!Tryz.prog.wantsStandIn u)=true:=(by kernel_rfl);exact (show Tryz.prog.wantsStandIn t=false by simpa using List.all_eq_true.1 hall t hm)⟩)
  (by kernel_rfl)
#print axioms proved
end Go.Proofs.YtgnppnokkdghcaaGreatDoor.lawDeltaWhole
end
namespace Go.Proofs.YtgnppnokkdghcaaGreatDoor
end Go.Proofs.YtgnppnokkdghcaaGreatDoor
