/-
  CompilePattern: the given tied card: for every text the law returns true and leaves its argument; the library's table is tied to the program's text by the given tie. No condition beyond the statement's own.
-/
import Derived.Test.YtminpdngkjlehaaDoorCq8
import Derived.ChangeOld
import Derived.Deep.Slices
import Derived.LaidMore
import Derived.Laws.Rows
import Derived.OpenShut
import Derived.ProofKit
import Derived.SevenTiedAt
import Derived.ShutString
import Derived.SizedLaws
import Derived.Stop.Joined
import Derived.Test.YtminpdngkjlehaaDoorCards
import Derived.Test.YtminpdngkjlehaaDoorTie
set_option linter.unusedSimpArgs false
set_option linter.unusedVariables false
set_option maxRecDepth 100000
set_option maxHeartbeats 80000000
open List renaming cons_append→z7,drop_succ_cons→wO,drop_zero→y8,map_cons→qU,map_nil→k6,nil_append→z8,take_zero→jG
open Nat renaming zero_add→qA
namespace Go.Proofs.YtminpdngkjlehaaDoor
end Go.Proofs.YtminpdngkjlehaaDoor
section
namespace Go.Proofs.YtminpdngkjlehaaDoor
open Go.ChangeShapes Go.WideShapes Go.ChangeAt Go.RowKit Go.Deep
set_option linter.unusedVariables false
set_option linter.unusedSimpArgs false
set_option maxRecDepth 100000
theorem ownK:ownKnob Tryd.prog.godebug=none:=by kernel_rfl
theorem strL_of (s:ByteArray):∃ L:List Nat,StrL s L:=by
 refine ⟨s.data.toList.map UInt8.toNat,?_,fun i c h w=>?_,fun c hc=>?_⟩
 ·rw [List.length_map,Array.length_toList];rfl
 ·rw [List.getElem?_map] at h;cases h9:s.data.toList[i]? with
  |none=>rw [h9] at h;simp at h
  |some u =>
   rw [h9] at h;simp at h;subst h;obtain ⟨h1,h2⟩:=List.getElem?_eq_some_iff.1 h9;have hs:i<s.size:=(by rw [Array.length_toList] at h1;exact h1);rw [run_index_string _ _ _ _ _ (by kernel_rfl),dif_pos ⟨by omega,by omega⟩];subst h2;rfl
 ·obtain ⟨u,_,rfl⟩:=List.mem_map.1 hc;exact u.toNat_lt
theorem gTab:Tryd.prog.globalNamed "math/bits.deBruijn64tab"=some 1:=by kernel_rfl
theorem tTab:(Tryd.prog.globals[1]?).map (·.type)=some 127:=by kernel_rfl
theorem tab_is {H:Type}:(Rows.laid_math_bits_deBruijn64tab:DataW H)=.agg (Lib.deBruijn64tab.map fun (n:Nat)=>.lit (.int .u8 n)):=rfl
theorem tab_of {W:World} (h:laidMetH Tryd.prog [("math/bits.deBruijn64tab",Rows.laid_math_bits_deBruijn64tab)] W):deA.ho W:=by
  rw [Jy];rw [MakeChecks.laidMetH_plain _ _ _ (by kernel_rfl)] at h;obtain ⟨ps,⟨g0,t0,cs0,f0,p0,q0,hg0,ht0,hv0,hd0,_,_⟩,_,_⟩:=h;obtain rfl:=Option.some.inj (gTab.symm.trans hg0);obtain rfl:=Option.some.inj (tTab.symm.trans ht0);obtain ⟨xs,m1,hfu,hx1,hlen,hn3,hel⟩:=DataW.trod_array Tryd.underlying127 hd0;have c5:Tryd.prog.cellsOf 5=1:=(by kernel_rfl);have key:∀ j,j<64->W.cell? ⟨1,j,none⟩=some (.int .u8 (Lib.deBruijn64tab.getD j 0:Nat)):=fun j hj=>by
    have h0:=hel j hj;rw [c5] at h0;obtain ⟨y,hy⟩:∃ y,xs[j]?=some y:=⟨xs[j]'(by omega),zg _⟩
    rw [hy] at h0;obtain ⟨k,e1,e2,_⟩:=DataW.trod_int Tryd.underlying5 h0;rw [tab_is] at hx1;simp only [Prod.mk.injEq,DataW.agg.injEq] at hx1;have e3:=congrArg (fun l:List (DataW Unit)=>l[j]?) hx1.1;simp only [List.getElem?_map,hy,Option.map_some] at e3
    have hl : j < Lib.deBruijn64tab.length := by have : Lib.deBruijn64tab.length = 64 := by decide
                                                 omega
    rw [zg hl,Option.map_some] at e3;have hk:k=(Lib.deBruijn64tab[j]:Nat):=by
      have:=Option.some.inj e3;rw [e2] at this;simp at this;exact this.symm
    have hcl:=World.var?_cell hg0 hv0 j;have e4:cs0.toList[j]?=some (.int .u8 k):=by
      have:=congrArg List.head? e1;rw [Nat.mul_one,List.head?_take,if_neg (by omega),List.head?_drop] at this;simpa using this
    rw [hcl,← Array.getElem?_toList,e4,hk];simp [List.getD,hl]
  have h64:Lib.deBruijn64tab.length=64:=(by decide);exact ⟨fun j hj=>key j (by omega),by have:=block_lt_of_cell (key 0 (by omega));exact this⟩
theorem door_met (os:Os) (args:Array Value):laidMetH Tryd.prog [("math/bits.deBruijn64tab",Rows.laid_math_bits_deBruijn64tab)] ((World.doorLaid Tryd.prog 400 os).forCall (fun _ _=>0) ⟨#[],args,[]⟩).memory :=
 laidMetH_of_parts3 (fuel:=80) (laidMet_of_run' 80 (by kernel_rfl) (by kernel_rfl)) (by kernel_rfl) (by kernel_rfl)
end Go.Proofs.YtminpdngkjlehaaDoor
namespace Go.Proofs.YtminpdngkjlehaaDoor.lawCompilePattern
open Go.ChangeShapes Go.WideShapes Go.ChangeAt Go.RowKit
open Go.ChangeMaps (open_string shut_string)
open Go.Proofs.YtminpdngkjlehaaDoor
set_option linter.unusedVariables false
set_option maxRecDepth 100000 in
theorem lifted (os:Os) (started:os.Started) (H:Type) (enc:TypeId×Value→H) :
  ReturnsInHanded {} Tryd.checked os 3 .any (fun w args=>(Rows.compilePatternSpec.pre enc Tryd.prog Tryd.f3 [] false w args∧laidMetH Tryd.prog [("math/bits.deBruijn64tab",Rows.laid_math_bits_deBruijn64tab)] w)∧sizedMet enc Tryd.prog Tryd.f3 (OpenSpec.ofChange Rows.compilePatternSpec) false w args)
   (Rows.compilePatternSpec.post enc Tryd.prog Tryd.f3 false true false false):=by
 refine returnsInHanded_of_change_and (C:=Tryd.checked) (X:=fun w _=>laidMetH Tryd.prog [("math/bits.deBruijn64tab",Rows.laid_math_bits_deBruijn64tab)] w) (fun _ _ _ hh h=>h.of_heap hh) ownK started (by kernel_rfl) Tryd.func3
  (ChangeSpec.witness_shaped (enc:=enc) (C:=Tryd.checked) (os:=os) (X:=fun w _=>laidMetH Tryd.prog [("math/bits.deBruijn64tab",Rows.laid_math_bits_deBruijn64tab)] w) false (World.doorLaid Tryd.prog 400 os) #[.string ⟨#[]⟩] 8 rfl (World.shaped_of_RefB (by kernel_rfl) (by kernel_rfl)) (by kernel_rfl) (by kernel_rfl) (by kernel_rfl) (door_met os _)) ?_
 intro W base args ds gs before hval0 hW _ hsz0 hL _;have hval:∀ (j:Nat) t v,Tryd.f3.params[j]?=some t→args[j]?=some v→Value.okWide Tryd.prog W .any base t v:=hval0;have hW':=hW;obtain ⟨p,q,hA0,hV,rfl,hfz,hnd⟩:=hW;have hA:DataW.TrodAll enc Tryd.prog W 0 (fun _=>true) true Tryd.f3.params.toList args.toList ds p:=hA0;have hsz:(DataW.weightsEach Tryd.prog (Tryd.f3.params.toList++Rows.compilePatternSpec.plain.varTypes Tryd.prog) (ds++gs)).all (·≤reachBytes)=true:=hsz0;rw [Tryd.params3] at hA hval hsz;obtain ⟨v0,vs0,d0,ds0,p0,q0,hargs,rfl,rfl,h0,r0⟩:=trodAll_cons hA;obtain ⟨rfl,rfl,rfl⟩:=trodAll_nil r0;obtain rfl:args=#[v0]:=by cases args;simp_all
 obtain ⟨rfl,rfl⟩:=trodVars_none hV;have k0:=h0;have lt0:∀ x∈p0,x.block<W.heap.size:=(by obtain ⟨m,hm⟩:=k0;exact DataW.trod_lt m _ _ _ hm);obtain ⟨s0,rfl,rfl,rfl,-⟩:=open_string Tryd.underlying9 (hval 0 9 v0 rfl rfl) h0;obtain ⟨L0,hs0⟩:=strL_of s0;have hde:=tab_of hL;clear hA0 hval0 hsz0;refine (JY hs0 W hde).mono fun e W' ⟨he,bel⟩=>?_
 subst he;exact ⟨_,rfl,_,_,_,[],_,[],hW',trodAll_mk1 (shut_bool Tryd.underlying4 _),(trodAll_cons_mk (Below.trod JN (by kernel_rfl) (of_decide_eq_true (by kernel_rfl)) k0 bel.below lt0) trodAll_mk0),rfl,bel.below.frame _,fun h=>by cases h⟩
theorem over:Rows.compilePatternRow.holds Tryd.pinned (OpenSpec.ofChange Rows.compilePatternSpec) :=
 OpenClaim.holds_of_wide 3 Tryd.f3 rfl rfl rfl rfl rfl rfl rfl ⟨rfl,rfl,rfl,rfl,rfl⟩ rfl rfl rfl rfl rfl (by kernel_rfl) Tryd.func3 (by kernel_rfl)
  (of_decide_eq_true (by kernel_rfl)) (by unfold Func.isWrapper;first|(rw [if_pos (by decide +kernel)];kernel_rfl)|(rw [if_neg (by decide +kernel)];exact ⟨rfl,rfl⟩))
  (fun os started H enc _=>lifted os started H enc)
theorem proved:Rows.CompilePatternCardSaid :=
 Claim7.holds_tied_plain_at .later [] [.data] true (true,"8a4c91440e978d8b2581034d835acd49ab2bb084da284671d791dd2841488053") true
  over (fun _ h=>by cases h) (by kernel_rfl) (fun _ h=>by cases h) compilePattern_row_tie rfl ⟨rfl,rfl⟩ (by kernel_rfl) rfl
  (fun f fn hf hfn=>by
   obtain rfl:f=3:=Option.some.inj ((show Tryd.prog.funcNamed "evergreen/evergreenlaw31.CompilePattern"=some 3 by kernel_rfl).symm.trans hf) |>.symm
   obtain rfl:fn=Tryd.f3:=(Option.some.inj (Tryd.func3.symm.trans hfn)).symm;exact ⟨by kernel_rfl,fun j t ht=>by
    rw [Tryd.params3] at ht;have hm:t∈[9]:=(by simpa using Array.mem_of_getElem? ht);have hall:([9].all fun u=>!Tryd.prog.wantsStandIn u)=true:=(by kernel_rfl);exact (show Tryd.prog.wantsStandIn t=false by simpa using List.all_eq_true.1 hall t hm)⟩)
  (by kernel_rfl)
#print axioms proved
end Go.Proofs.YtminpdngkjlehaaDoor.lawCompilePattern
end
namespace Go.Proofs.YtminpdngkjlehaaDoor
end Go.Proofs.YtminpdngkjlehaaDoor
