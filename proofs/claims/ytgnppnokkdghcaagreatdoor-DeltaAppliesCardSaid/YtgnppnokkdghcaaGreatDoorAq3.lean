/-
  DeltaApplies: the given tied card: for every input the law returns true and leaves its arguments; the library's table is tied to the program's text by the given tie. No condition beyond the statement's own.
-/
import Derived.Test.YtgnppnokkdghcaaGreatDoorAq2
import Derived.ChangeMaps5
import Derived.ChangeOld
import Derived.Deep.Slices
import Derived.LaidMore
import Derived.Laws.Rows
import Derived.Lib.SmallJoins
import Derived.OpenShut
import Derived.ProofKit
import Derived.SevenTiedAt
import Derived.ShutString
import Derived.SizedLaws
import Derived.Stop.Joined
import Derived.Test.YtgnppnokkdghcaaGreatDoorCards
import Derived.Test.YtgnppnokkdghcaaGreatDoorTie
set_option linter.unusedSimpArgs false
set_option linter.unusedVariables false
set_option maxRecDepth 100000
set_option maxHeartbeats 80000000
namespace Go.Proofs.YtgnppnokkdghcaaGreatDoor
section
open Go.RowKit Go.Maps
attribute [local go_sem] InGr
section
variable {ops:Array Oper} {a:Act} {w w0:World} {M:List Nat} {L R:List As} {o1:Oper} {Rr:Value→World→Prop}
theorem run_append_nil {t e ty:TypeId} (hte:sliceO t = some e) {z:Value} {k bytes:Nat} (hi:infoO e = some (z,k,bytes)) {n c c':Nat} {ad ad':Option Addr} (hn:n≤c) {w:World}:(Builtin.append_ #[t,t] ty #[.slice ad n c,.slice ad' 0 c']).run Tryz.prog w = .ok (.slice ad n c) w:=by
 obtain ⟨i,h2,h3,h4,h5⟩:=infoO_ok hi
 have hu:=sliceO_ok hte
 cases ad with
 |none=>cases ad' with
  |none=>simp [Builtin.append_,run_underlying hu,sizeOf,typeInfo,h2,Builtin.lenOf,Builtin.firstCells,loadCells,loadCellsFrom,storeCells,hn]
  |some x=>simp [Builtin.append_,run_underlying hu,sizeOf,typeInfo,h2,Builtin.lenOf,Builtin.firstCells,loadCells,loadCellsFrom,storeCells,hn]
 |some y=>cases ad' with
  |none=>simp [Builtin.append_,run_underlying hu,sizeOf,typeInfo,h2,Builtin.lenOf,Builtin.firstCells,loadCells,loadCellsFrom,storeCells,hn]
  |some x=>simp [Builtin.append_,run_underlying hu,sizeOf,typeInfo,h2,Builtin.lenOf,Builtin.firstCells,loadCells,loadCellsFrom,storeCells,hn]
end
end
section
open Go.ChangeShapes Go.WideShapes Go.ChangeAt Go.RowKit Go.Deep
def fits64 (z:Int):Prop:=-9223372036854775808≤z∧z≤9223372036854775807
theorem ownK:ownKnob Tryz.prog.godebug = none:=by kernel_rfl
theorem i64_wf {x:Int} (h:(Lit.int .i64 x).wf = true):fits64 x:=by
 simp [Lit.wf,IntKind.min,IntKind.max,IntKind.signed,IntKind.bits] at h
 unfold fits64
 omega
theorem gTab:Tryz.prog.globalNamed "math/bits.deBruijn64tab" = some 0:=by kernel_rfl
theorem tTab:(Tryz.prog.globals[0]?).map (·.type) = some 291:=by kernel_rfl
theorem tab_is {H:Type}:(Rows.laid_math_bits_deBruijn64tab:DataW H) = .agg (Lib.deBruijn64tab.map fun (n:Nat)=>.lit (.int .u8 n)):=rfl
theorem tab_of {W:World} (h:laidMetH Tryz.prog [("math/bits.deBruijn64tab",Rows.laid_math_bits_deBruijn64tab)] W):deA.ho W:=by
  rw [deA_ho]
  rw [MakeChecks.laidMetH_plain _ _ _ (by kernel_rfl)] at h
  obtain ⟨ps,⟨g0,t0,cs0,f0,p0,q0,hg0,ht0,hv0,hd0,_,_⟩,_,_⟩:=h
  obtain rfl:=Option.some.inj (gTab.symm.trans hg0)
  obtain rfl:=Option.some.inj (tTab.symm.trans ht0)
  obtain ⟨xs,m1,hfu,hx1,hlen,hn3,hel⟩:=DataW.trod_array Tryz.underlying291 hd0
  have c5:Tryz.prog.cellsOf 5 = 1:=by kernel_rfl
  have key:∀ j,j < 64→W.cell? ⟨0,j,none⟩ = some (.int .u8 (Lib.deBruijn64tab.getD j 0:Nat)):=fun j hj=>by
    have h0:=hel j hj
    rw [c5] at h0
    obtain ⟨y,hy⟩:∃ y,xs[j]? = some y:=⟨xs[j]'(by omega),List.getElem?_eq_getElem _⟩
    rw [hy] at h0
    obtain ⟨k,e1,e2,_⟩:=DataW.trod_int Tryz.underlying5 h0
    rw [tab_is] at hx1
    simp only [Prod.mk.injEq,DataW.agg.injEq] at hx1
    have e3:=congrArg (fun l:List (DataW Unit)=>l[j]?) hx1.1
    simp only [List.getElem?_map,hy,Option.map_some] at e3
    have hl : j < Lib.deBruijn64tab.length := by have : Lib.deBruijn64tab.length = 64 := by decide
                                                 omega
    rw [List.getElem?_eq_getElem hl,Option.map_some] at e3
    have hk:k = (Lib.deBruijn64tab[j]:Nat):=by
      have:=Option.some.inj e3
      rw [e2] at this
      simp at this
      exact this.symm
    have hcl:=World.var?_cell hg0 hv0 j
    have e4:cs0.toList[j]? = some (.int .u8 k):=by
      have:=congrArg List.head? e1
      rw [Nat.mul_one,List.head?_take,if_neg (by omega),List.head?_drop] at this
      simpa using this
    rw [hcl,← Array.getElem?_toList,e4,hk]
    simp [List.getD,hl]
  have h64:Lib.deBruijn64tab.length = 64:=by decide
  exact ⟨fun j hj=>key j (by omega),by have:=block_lt_of_cell (key 0 (by omega));exact this⟩
theorem door_met (os:Os) (args:Array Value):laidMetH Tryz.prog [("math/bits.deBruijn64tab",Rows.laid_math_bits_deBruijn64tab)] ((World.doorLaid Tryz.prog 400 os).forCall (fun _ _=>0) ⟨#[],args,[]⟩).memory :=
 laidMetH_of_parts3 (fuel:=80) (laidMet_of_run' 80 (by kernel_rfl) (by kernel_rfl)) (by kernel_rfl) (by kernel_rfl)
end
section
open Go.ChangeShapes Go.WideShapes Go.ChangeAt Go.RowKit Go.Deep
open Go.ChangeMaps (open_string shut_string)
theorem strB_of (b:ByteArray):∃ L:List Nat,b = strB L∧∀ x∈L,x < 256:=by
 refine ⟨b.data.toList.map UInt8.toNat,?_,?_⟩
 ·apply ByteArray.ext
  unfold strB
  apply Array.ext'
  have e:∀ l:List UInt8,l = (l.map UInt8.toNat).map UInt8.ofNat:=fun l=>by
   induction l with
   |nil=>rfl
   |cons x l ih=>rw [List.map_cons,List.map_cons,← ih,UInt8.ofNat_toNat]
  exact e _
 ·intro x hx
  obtain ⟨u,_,rfl⟩:=List.mem_map.1 hx
  exact u.toNat_lt
theorem strB_dlen (L:List Nat):(strB L).data.toList.length = L.length:=by
 have h1:=strB_size L
 have h2:(strB L).data.toList.length = (strB L).size:=Array.length_toList
 omega
section
variable {H:Type} {enc:TypeId × Value→H} {w:World} {base:Nat} {spare:Nat→Bool} {held:Bool}
theorem weightsAll_mem {P:Program} {e:TypeId} {m:Nat} {d:DataW H} (hm:m∈d.weights P e):∀ {ds:List (DataW H)},d∈ds→m∈DataW.weightsAll P e ds
 |[],h=>by simp at h
 |x :: r,h=>by
  simp only [DataW.weightsAll,List.mem_append]
  rcases List.mem_cons.1 h with h | h
  ·subst h;exact .inl hm
  ·exact .inr (weightsAll_mem hm h)
instance:Inhabited Pz:=⟨⟨false,0,0,[]⟩⟩
theorem open_rowD {α:Type} [Inhabited α] {ec:α→List Value} {k:Nat} (hk:∀ x,(ec x).length = k) (hk0:0 < k) {t e:TypeId} (ht:Tryz.prog.underlying t = some (.slice e)) (hc:Tryz.prog.cellsOf e = k) (Ok:α→DataW H→Prop)
  (el:∀ n cs y,cs.length = k→DataW.trod enc Tryz.prog w base spare held n e cs = some y→∃ x,cs = ec x∧Ok x y.1) {fuel:Nat} {cs:List Value} {x:DataW H × List MemPlace} (h:DataW.trod enc Tryz.prog w base spare held fuel t cs = some x) :
  ∃ (v:Value) (xs:List α) (P:PoolT),cs = [v]∧RowIn P ec k v xs∧(poolA P).ho w∧∀ y∈xs,∃ d,Ok y d∧∀ m∈d.weights Tryz.prog e,m∈x.1.weights Tryz.prog t:=by
 rcases open_slice ht h with ⟨hcs,_⟩ | ⟨a,len,cap,m,n,D,Pl,hcs,_,hl,hm,hmm,hxx,hx⟩
 ·exact ⟨_,[],[],hcs,RowIn.nil 0,poolA_nil w,by simp⟩
 ·have hml:len≤m:=by rw [hmm];split <;> omega
  rw [hc] at hx
  by_cases h0:len = 0
  ·subst h0
   exact ⟨_,[],[],hcs,⟨some a,cap,rfl,by simp,fun h=>by simp at h⟩,poolA_nil w,by simp⟩
  obtain ⟨b,o,spot⟩:=a
  have key:∀ i,i < len→∃ x:α,w.cells? base ((⟨b,o,spot⟩:Addr).add (i * k)) k = some (ec x)∧Ok x (D i):=fun i hi=>by
   obtain ⟨cs',h1,h2⟩:=hx i (by omega)
   obtain ⟨x,rfl,hok⟩:=el _ _ _ (World.cells?_some h1).2.1 h2
   exact ⟨x,h1,hok⟩
  obtain ⟨f,hf2⟩:=choose_lt (α:=α) key
  have hcell:∀ i,i < len→∀ j u,(ec (f i))[j]? = some u→w.cell? (((⟨b,o,spot⟩:Addr).add (i * k)).add j) = some u:=fun i hi j u hj=>by
   have hj4:j < k:=by have:=(List.getElem?_eq_some_iff.1 hj).1;rwa [hk] at this
   have:=(World.cells?_some (hf2 i hi).1).2.2 j hj4
   rw [this,hj]
  have hl4:0 < (ec (f 0)).length:=by rw [hk];omega
  have hspot:spot = none:=by
   have:=World.cell?_spot (hcell 0 (by omega) 0 _ (List.getElem?_eq_getElem hl4))
   simpa [Addr.add] using this
  subst hspot
  have hadd:∀ i j,((⟨b,o,none⟩:Addr).add (i * k)).add j = ⟨b,o + (i * k + j),none⟩:=fun i j=>by rw [Addr.add_mid,Addr.add_mid];congr 1;omega
  have hblk:b < w.heap.size:=by
   have:=block_lt_of_cell (hcell 0 (by omega) 0 _ (List.getElem?_eq_getElem hl4))
   rw [hadd] at this
   exact this
  unfold maxLen at hm
  have hlen:((List.range len).map f).length = len:=by simp
  refine ⟨_,(List.range len).map f,[(b,o,flatG ec ((List.range len).map f))],hcs,⟨some ⟨b,o,none⟩,cap,by rw [hlen],by rw [hlen];unfold maxLen;omega,fun _=>⟨b,o,rfl,by simp⟩⟩,?_,?_⟩
  ·rw [poolA_ho]
   intro y hy
   simp only [List.mem_singleton] at hy
   subst hy
   refine ⟨hblk,fun jj u hj=>?_⟩
   have hjl:=getElem_len hj
   rw [flatG_len ec k hk,hlen] at hjl
   have hi:jj / k < len:=by rw [Nat.div_lt_iff_lt_mul hk0];exact hjl
   have hjk:jj % k < k:=Nat.mod_lt _ hk0
   have hget:((List.range len).map f)[jj / k]? = some (f (jj / k)):=by rw [List.getElem?_map,List.getElem?_range hi];rfl
   have hfl:=flatG_get ec k hk _ (jj / k) _ hget (jj % k) hjk
   have hdm:jj / k * k + jj % k = jj:=by have:=Nat.div_add_mod jj k;rw [Nat.mul_comm] at this;exact this
   rw [hdm,hj] at hfl
   have:=hcell (jj / k) hi (jj % k) u hfl.symm
   rw [hadd,hdm] at this
   exact this
  ·intro y hy
   obtain ⟨i,hi,rfl⟩:=List.mem_map.1 hy
   have hi2:=List.mem_range.1 hi
   refine ⟨D i,(hf2 i hi2).2,fun m hm=>?_⟩
   rw [hxx]
   simp only [DataW.weights,ht,List.mem_cons,List.mem_append]
   exact .inr (.inl (weightsAll_mem hm (List.mem_map.2 ⟨i,hi,rfl⟩)))
def PzOk (q:Pz) (d:DataW H):Prop:=(∀ x∈q.t,x < 256)∧q.n≤9223372036854775807∧q.t.length∈d.weights Tryz.prog 106
theorem open_piece {n:Nat} {cs:List Value} {y:DataW H × List MemPlace} (hl:cs.length = 4) (h:DataW.trod enc Tryz.prog w base spare held n 106 cs = some y):∃ q:Pz,cs = encR q∧PzOk q y.1:=by
 obtain ⟨a0,a1,a2,a3,rfl⟩:∃ a0 a1 a2 a3,cs = [a0,a1,a2,a3]:=by
  match cs,hl with
  |[a0,a1,a2,a3],_=>exact ⟨a0,a1,a2,a3,rfl⟩
 have c3:Tryz.prog.cellsOf 3 = 1:=by kernel_rfl
 have c4:Tryz.prog.cellsOf 4 = 1:=by kernel_rfl
 have c9:Tryz.prog.cellsOf 9 = 1:=by kernel_rfl
 obtain ⟨y0,y1,y2,y3,n2,hy,_,f0,f1,f2,f3⟩:=Joins.trod_struct4 Tryz.underlying106 h
 simp only [c3,c4,c9,List.drop_zero,List.take_succ_cons,List.take_zero,List.drop_succ_cons] at f0 f1 f2 f3
 obtain ⟨b0,e0,_⟩:=DataW.trod_bool Tryz.underlying4 f0
 obtain ⟨z1,e1,_,w1⟩:=DataW.trod_int Tryz.underlying3 f1
 obtain ⟨z2,e2,_,w2⟩:=DataW.trod_int Tryz.underlying3 f2
 obtain ⟨s3,e3,hy3,_⟩:=DataW.trod_string Tryz.underlying9 f3
 obtain ⟨L,rfl,hL⟩:=strB_of s3
 simp only [List.cons.injEq,and_true] at e0 e1 e2 e3
 subst e0 e1 e2 e3
 refine ⟨⟨b0,z1,z2,L⟩,rfl,hL,(i64_wf w2).2,?_⟩
 rw [hy]
 simp only [DataW.weights,Tryz.underlying106]
 simp only [List.toList_toArray,List.map_cons,List.map_nil,DataW.weightsEach,List.mem_append]
 refine .inr (.inr (.inr (.inl ?_)))
 rw [hy3]
 simp [DataW.weights,strB_dlen,strB_size]
theorem arg_pieces {r:Reach} {b0:Nat} {v:Value} {d:DataW H} {p:List MemPlace} (hv:Value.okWide Tryz.prog w r b0 22 v) (h:DataW.Trod enc Tryz.prog w base spare held 22 v d p) :
  ∃ (qs:List Pz) (P:PoolT),RowIn P encR 4 v qs∧(poolA P).ho w∧∀ q∈qs,(∀ x∈q.t,x < 256)∧q.n≤9223372036854775807∧q.t.length∈d.weights Tryz.prog 22:=by
 obtain ⟨a,n,c,rfl⟩:=okWide_slice Tryz.underlying22 hv
 obtain ⟨fuel,hf⟩:=h
 have c5:Tryz.prog.cellsOf 106 = 4:=by kernel_rfl
 obtain ⟨v2,qs,P,e,h1,h2,h3⟩:=open_rowD (ec:=encR) encR_len (by omega) Tryz.underlying22 c5 PzOk (fun n cs y hl hy=>open_piece hl hy) hf
 simp only [Value.cells,List.cons.injEq,and_true] at e
 first | subst e | (have e:=(List.cons.inj e).1;subst e)
 exact ⟨qs,P,h1,h2,fun q hq=>by
  obtain ⟨d',⟨k1,k2,k3⟩,k4⟩:=h3 q hq
  exact ⟨k1,k2,k4 _ k3⟩⟩
end
end
end Go.Proofs.YtgnppnokkdghcaaGreatDoor
section
namespace Go.Proofs.YtgnppnokkdghcaaGreatDoor.lawDeltaApplies
open Go.ChangeShapes Go.WideShapes Go.ChangeAt Go.RowKit
open Go.ChangeMaps (open_string shut_string)
open Go.Proofs.YtgnppnokkdghcaaGreatDoor
set_option linter.unusedVariables false
set_option maxRecDepth 100000 in
theorem lifted (os:Os) (started:os.Started) (H:Type) (enc:TypeId × Value→H) :
  ReturnsInHanded {} Tryz.checked os 3 .any (fun w args=>(Rows.deltaAppliesSpec.pre enc Tryz.prog Tryz.f3 [] false w args∧laidMetH Tryz.prog [("math/bits.deBruijn64tab",Rows.laid_math_bits_deBruijn64tab)] w)∧sizedMet enc Tryz.prog Tryz.f3 (OpenSpec.ofChange Rows.deltaAppliesSpec) false w args)
   (Rows.deltaAppliesSpec.post enc Tryz.prog Tryz.f3 false true false false):=by
 refine returnsInHanded_of_change_and (C:=Tryz.checked) (X:=fun w _=>laidMetH Tryz.prog [("math/bits.deBruijn64tab",Rows.laid_math_bits_deBruijn64tab)] w) (fun _ _ _ hh h=>h.of_heap hh) ownK started (by kernel_rfl) Tryz.func3
  (ChangeSpec.witness_shaped (enc:=enc) (C:=Tryz.checked) (os:=os) (X:=fun w _=>laidMetH Tryz.prog [("math/bits.deBruijn64tab",Rows.laid_math_bits_deBruijn64tab)] w) false (World.doorLaid Tryz.prog 400 os) #[.string ⟨#[]⟩,.slice none 0 0] 8 rfl (World.shaped_of_RefB (by kernel_rfl) (by kernel_rfl)) (by kernel_rfl) (by kernel_rfl) (by kernel_rfl) (door_met os _)) ?_
 intro W base args ds gs before hval0 hW _ hsz0 hL _
 have hval:∀ (j:Nat) t v,Tryz.f3.params[j]? = some t→args[j]? = some v→Value.okWide Tryz.prog W .any base t v:=hval0
 have hW':=hW
 obtain ⟨p,q,hA0,hV,rfl,hfz,hnd⟩:=hW
 have hA:DataW.TrodAll enc Tryz.prog W 0 (fun _=>true) true Tryz.f3.params.toList args.toList ds p:=hA0
 have hsz:(DataW.weightsEach Tryz.prog (Tryz.f3.params.toList ++ Rows.deltaAppliesSpec.plain.varTypes Tryz.prog) (ds ++ gs)).all (·≤reachBytes) = true:=hsz0
 rw [Tryz.params3] at hA hval hsz
 obtain ⟨v0,vs0,d0,ds0,p0,q0,hargs,rfl,rfl,h0,r0⟩:=trodAll_cons hA
 obtain ⟨v1,vs1,d1,ds1,p1,q1,rfl,rfl,rfl,h1,r1⟩:=trodAll_cons r0
 obtain ⟨rfl,rfl,rfl⟩:=trodAll_nil r1
 obtain rfl:args = #[v0,v1]:=by cases args;simp_all
 obtain ⟨rfl,rfl⟩:=trodVars_none hV
 have k0:=h0
 have lt0:∀ x∈p0,x.block < W.heap.size:=by obtain ⟨m,hm⟩:=k0;exact DataW.trod_lt m _ _ _ hm
 have k1:=h1
 have lt1:∀ x∈p1,x.block < W.heap.size:=by obtain ⟨m,hm⟩:=k1;exact DataW.trod_lt m _ _ _ hm
 obtain ⟨s0,rfl,rfl,rfl,-⟩:=open_string Tryz.underlying9 (hval 0 9 v0 rfl rfl) h0
 obtain ⟨L0,rfl,b0⟩:=strB_of s0
 have n0:L0.length≤1152921504606846976:=by
  have h1:=sized_string hsz (j:=0) rfl rfl
  have h2:=reachBytes_lt
  rw [strB_dlen] at h1
  omega
 obtain ⟨x1,P1,t1,w1,c1⟩:=arg_pieces (hval 1 22 v1 rfl rfl) h1
 have n1:∀ q∈x1,q.t.length≤1152921504606846976:=fun q hq=>by
  have h1:=List.all_eq_true.1 hsz _ (DataW.weights_mem_each (j:=1) rfl rfl _ (c1 q hq).2.2)
  have h2:=reachBytes_lt
  have h3:=of_decide_eq_true h1
  omega
 have hde:=tab_of hL
 clear hA0 hval0 hsz0
 refine (applies_c t1 b0 (fun q hq=>(c1 q hq).1) n0 n1 (fun q hq=>(c1 q hq).2.1) W hde w1).mono fun e W' ⟨he,bel⟩=>?_
 subst he
 exact ⟨_,rfl,_,_,_,[],_,[],hW',trodAll_mk1 (shut_bool Tryz.underlying4 _),(trodAll_cons_mk (Below.trod laidOut_ok (by kernel_rfl) (of_decide_eq_true (by kernel_rfl)) k0 bel.below lt0) (trodAll_cons_mk (Below.trod laidOut_ok (by kernel_rfl) (of_decide_eq_true (by kernel_rfl)) k1 bel.below lt1) trodAll_mk0)),rfl,bel.below.frame _,fun h=>by cases h⟩
theorem over:Rows.deltaAppliesRow.holds Tryz.pinned (OpenSpec.ofChange Rows.deltaAppliesSpec) :=
 OpenClaim.holds_of_wide 3 Tryz.f3 rfl rfl rfl rfl rfl rfl rfl ⟨rfl,rfl,rfl,rfl,rfl⟩ rfl rfl rfl rfl rfl (by kernel_rfl) Tryz.func3 (by kernel_rfl)
  (of_decide_eq_true (by kernel_rfl)) (by unfold Func.isWrapper;first | (rw [if_pos (by decide +kernel)];kernel_rfl) | (rw [if_neg (by decide +kernel)];exact ⟨rfl,rfl⟩))
  (fun os started H enc _=>lifted os started H enc)
theorem proved:Rows.DeltaAppliesCardSaid :=
 Claim7.holds_tied_plain_at .later [] [.data] true (true,"6e50a225e209f2ae990c6073ab2e17c0e24770994b7a6d006b0bd6af646f7499") true
  over (fun _ h=>by cases h) (by kernel_rfl) (fun _ h=>by cases h) deltaApplies_row_tie rfl ⟨rfl,rfl⟩ (by kernel_rfl) rfl
  (fun f fn hf hfn=>by
   obtain rfl:f = 3:=Option.some.inj ((show Tryz.prog.funcNamed "evergreen/evergreenlaw41.DeltaApplies" = some 3 by kernel_rfl).symm.trans hf) |>.symm
   obtain rfl:fn = Tryz.f3:=(Option.some.inj (Tryz.func3.symm.trans hfn)).symm
   exact ⟨by kernel_rfl,fun j t ht=>by
    rw [Tryz.params3] at ht
    have hm:t∈[9,22]:=by simpa using Array.mem_of_getElem? ht
    have hall:([9,22].all fun u=>!Tryz.prog.wantsStandIn u) = true:=by kernel_rfl
    exact (show Tryz.prog.wantsStandIn t = false by simpa using List.all_eq_true.1 hall t hm)⟩)
  (by kernel_rfl)
#print axioms proved
end Go.Proofs.YtgnppnokkdghcaaGreatDoor.lawDeltaApplies
end
namespace Go.Proofs.YtgnppnokkdghcaaGreatDoor
end Go.Proofs.YtgnppnokkdghcaaGreatDoor
