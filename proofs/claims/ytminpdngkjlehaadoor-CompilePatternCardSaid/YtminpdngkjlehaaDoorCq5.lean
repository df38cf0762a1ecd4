/-
  Part 5 of the texts behind the statements of this seat: walks and laws Na, Nb, Nc, Nd, Nf, Ng, Nh, Ni, Nj, Ks, Nk, Nl, Lo, Lp, Lq, Lr, Ls, Lt, Nm. Conditions: as each states.
-/
import Derived.Test.YtminpdngkjlehaaDoorCq4
import Derived.Deep.LoopGhost
import Derived.Deep.MidRow
import Derived.Deep.RegionWith
import Derived.Great.BuildSlice
import Derived.Ground.SlsfProg
import Derived.Laws.AppendOwn
import Derived.Laws.OwnMore
import Derived.LoopIn
import Derived.LoopNIn
import Derived.OwnWalk
import Derived.OwnWalkIn
import Derived.RangeFuncBound
import Derived.RangeFuncCalls
import Derived.RangeFuncLeaves
import Derived.RangeFuncNested
import Derived.RangeFuncWrites
import Derived.Shelf.Abstract
import Derived.Shelf.SlGeneric
import Derived.Shelf.SlSortCmp.WholeK
import Derived.Shelf.Small.Strs
import Derived.Shelf.Strings.Count
import Derived.Shelf.Strings.Search1
import Derived.Shelf.Strings.Search2
import Derived.Shelf.Strings.Search3
import Derived.TacticsInMore
import Derived.Test.YtminpdngkjlehaaDoorProg
set_option linter.unusedSimpArgs false
set_option linter.unusedVariables false
set_option maxRecDepth 100000
set_option maxHeartbeats 80000000
open Array renaming getElem?_eq_some_iff→xk,getElem?_modify→Z4,getElem?_toList→Zn,setIfInBounds_eq_of_size_le→Qi
open Bool renaming and_eq_true→zf,eq_iff_iff→q5
open Go.Proofs.Tryd renaming prog→z6,underlying3→X1,underlying34→zF,underlying76→kg,underlying9→X2,zeroValue9→YW
open Int renaming natCast_add→wC
open List renaming all_eq_true→zZ,append_assoc→y7,append_nil→xH,cons_append→z7,drop_succ_cons→wO,drop_zero→y8,eq_nil_of_length_eq_zero→qI,ext_getElem?→yF,foldl_append→jf,foldl_cons→zQ,foldl_nil→zY,getD_eq_getElem?_getD→ze,getElem?_append_left→zv,getElem?_cons_succ→qD,getElem?_eq_none→zu,getElem?_eq_none_iff→yh,getElem?_eq_some_iff→zy,getElem?_map→zq,getElem?_mapIdx→yr,getElem?_range→xP,getElem?_take→wZ,getElem_mem→yt,idxOf_append→yU,length_append→zN,length_cons→yZ,length_map→zE,length_replicate→jE,length_set→yi,length_take→yD,map_append→qQ,map_cons→qU,map_map→Y4,map_nil→k6,map_toArray→jt,mem_append→zt,mem_append_left→q6,mem_append_right→qx,mem_cons→zG,mem_cons_of_mem→qv,mem_cons_self→zS,mem_flatMap→qP,mem_iff_getElem?→yj,mem_map→zC,mem_of_getElem?→zc,mem_range→zo,mem_singleton→zV,nil_append→z8,nodup_iff_pairwise_ne→kS,pairwise_cons→zK,pairwise_map→vd,range→zl,replicate→zI,setIfInBounds_toArray→zd,set_cons_succ→zk,set_cons_zero→zj,take_add_one→xZ,take_append_of_le_length→jF,take_length→vX,take_of_length_le→zM,take_succ_eq_append_getElem→jh,take_zero→jG
open Nat renaming and_le_left→vB,and_le_right→wP,eq_of_testBit_eq→yV,eq_zero_or_pos→qR,le_refl→zp,le_trans→qs,lt_of_le_of_lt→yL,lt_of_lt_of_le→qO,lt_or_ge→zD,mul_le_mul_right→kV,mul_one→kW,or_lt_two_pow→yH,pow_lt_pow_right→jO,testBit_and→qj,testBit_lt_two_pow→wU,testBit_or→qH,testBit_two_pow_mul_add→we,zero_add→qA,zero_le→zH,zero_lt_succ→xd
namespace Go.Proofs.YtminpdngkjlehaaDoor
section
open Go.RowKit
def W64 (s:Nat->Nat):Prop:=∀ k,s k<18446744073709551616
def bit (s:Nat->Nat) (b:Nat):Bool:=(s (b/64)).testBit (b%64)
def AV (s:Nat->Nat):Array Value:=#[.int .u64 (s 0),.int .u64 (s 1),.int .u64 (s 2),.int .u64 (s 3)]
theorem kX (s:Nat->Nat) (k:Nat) (hk:k<4):(AV s)[k]?=some (.int .u64 (s k)):=by
 have:k=0∨k=1∨k=2∨k=3:=by omega
 rcases this with h|h|h|h <;> subst h <;> rfl
theorem qB (s:Nat->Nat):(AV s).size=4:=rfl
theorem ws (s:Nat->Nat):(AV s).all (·.oneCell')=true:=by simp [AV,Value.oneCell']
theorem AV_set (s:Nat->Nat) (k:Nat) (v:Nat):(AV s).setIfInBounds k (.int .u64 v)=AV (fun j=>if j=k then v else s j):=by
 by_cases hk:k<4
 ·have:k=0∨k=1∨k=2∨k=3:=by omega
  rcases this with h|h|h|h <;> subst h <;> rfl
 ·rw [Qi (by rw [qB];omega)];simp only [AV];rw [if_neg (by omega),if_neg (by omega),if_neg (by omega),if_neg (by omega)]
theorem Zm {s t:Nat->Nat} (h:∀ k,k<4->s k=t k):AV s=AV t:=by
 unfold AV;rw [h 0 (by omega),h 1 (by omega),h 2 (by omega),h 3 (by omega)]
theorem z26 (w:World):(zeroValue 34).run z6 w=.ok (.agg (AV fun _=>0)) w:=by kernel_rfl
theorem i26 (s:Nat->Nat):(z6.info? 34).map (·.size)=some (AV s).size:=by rw [qB];kernel_rfl
theorem YU (s:Nat->Nat) (b:Nat) (hb:b<256) (x:Nat) (hx:x=s (b/64)):(AV s)[b/64]?=some (.int .u64 x):=by
 rw [hx];exact kX s (b/64) (by omega)
theorem wh (s:Nat->Nat):AV s=#[.int .u64 (s 0),.int .u64 (s 1),.int .u64 (s 2),.int .u64 (s 3)]:=rfl
attribute [irreducible] AV
theorem Wl {w:World} {B:Nat} {s:Nat->Nat} {t:TypeId} (h:w.heap[B]?=some (.cells (AV s) t)) :
  w.cell? ⟨B,0,none⟩=some (.int .u64 (s 0))∧w.cell? ⟨B,1,none⟩=some (.int .u64 (s 1))∧w.cell? ⟨B,2,none⟩=some (.int .u64 (s 2))∧w.cell? ⟨B,3,none⟩=some (.int .u64 (s 3)):=by
 refine ⟨?_,?_,?_,?_⟩ <;> rw [cell_of_row w B _ _ _ _ h,kX _ _ (by omega)]
theorem bit_form (s:Nat->Nat) (hs:W64 s) (b x:Nat) (hx:x=s (b/64)):(bits .and .u64 ((x:Int)/2 ^ (b%64)) 1==1)=bit s b:=by
 have hb:=hs (b/64);rw [← hx] at hb;have e:((x:Int)/2 ^ (b%64))=((x/2 ^ (b%64):Nat):Int):=(by simp);have h1:x/2 ^ (b%64)<18446744073709551616:=yL (Nat.div_le_self _ _) hb;have:=u64_and_nat (x/2 ^ (b%64)) 1 h1 (by decide);rw [e];rw [show (1:Int)=((1:Nat):Int) from rfl,this,bit,← hx,Nat.testBit_eq_decide_div_mod_eq,nat_mask1,q5];simp;omega
def Y9 (s:Nat->Nat) (b:Nat):Nat->Nat:=fun k=>if k=b/64 then s k ||| 2 ^ (b%64) else s k
theorem addB_W64 {s:Nat->Nat} (hs:W64 s) (b:Nat):W64 (Y9 s b):=by
 intro k;have h1:=hs k;unfold Y9;split
 ·exact yH (n:=64) (by omega) (jO (by omega) (by omega))
 ·exact h1
theorem bit_addB (s:Nat->Nat) (b c:Nat):bit (Y9 s b) c=(bit s c || decide (c=b)):=by
 unfold bit Y9;split
 ·rename_i h;rw [qH,Nat.testBit_two_pow];congr 1
  simp;omega
 ·rename_i h;have:c≠b:=by intro e;exact h (by rw [e])
  simp [this]
theorem vg:W64 fun _=>0:=fun _=>by show 0<18446744073709551616;omega
theorem bit_zero (c:Nat):bit (fun _=>0) c=false:=by simp [bit]
def orW (a b:Nat->Nat):Nat->Nat:=fun k=>a k ||| b k
def vU (a b:Nat->Nat):Nat->Nat:=fun k=>a k &&& b k
def ZQ (a b:Nat->Nat):Nat->Nat:=fun k=>a k &&& (18446744073709551615-b k)
def ZH (a:Nat->Nat):Nat->Nat:=fun k=>18446744073709551615-a k
theorem QY {a b:Nat->Nat} (ha:W64 a) (hb:W64 b):W64 (orW a b):=fun k=>yH (n:=64) (ha k) (hb k)
theorem andW_W64 {a:Nat->Nat} (ha:W64 a) (b:Nat->Nat):W64 (vU a b):=fun k=>yL vB (ha k)
theorem subW_W64 {a:Nat->Nat} (ha:W64 a) (b:Nat->Nat):W64 (ZQ a b):=fun k=>yL vB (ha k)
theorem J2 (a:Nat->Nat):W64 (ZH a):=fun k=>by unfold ZH;omega
theorem bit_andW (a b:Nat->Nat) (c:Nat):bit (vU a b) c=(bit a c&&bit b c):=by simp [bit,vU]
theorem kf {x i:Nat} (hx:x<18446744073709551616) (hi:i<64):(18446744073709551615-x).testBit i = !x.testBit i:=by
 have:=Nat.testBit_two_pow_sub_succ (n:=64) (x:=x) hx i;rw [show 2 ^ 64-(x+1)=18446744073709551615-x by omega] at this;rw [this];simp [hi]
theorem bit_subW {a b:Nat->Nat} (hb:W64 b) (c:Nat):bit (ZQ a b) c=(bit a c && !bit b c):=by
 simp only [bit,ZQ,qj];rw [kf (hb _) (by omega)]
theorem not_form (x:Nat) (hx:x<18446744073709551616):bits .xor .u64 (if IntKind.u64.signed=true then -1 else IntKind.u64.max) (x:Int)=((18446744073709551615-x:Nat):Int):=by
 have e:(if IntKind.u64.signed=true then (-1:Int) else IntKind.u64.max)=((18446744073709551615:Nat):Int):=(by decide);rw [e,u64_xor_nat _ _ (by omega) hx];congr 1
 apply yV;intro i;rw [Nat.testBit_xor];by_cases hi:i<64
 ·rw [kf hx hi];have:=kf (x:=0) (i:=i) (by omega) hi;simp at this;rw [this];simp
 ·have hp:=Nat.pow_le_pow_right (n:=2) (by omega) (show 64<=i by omega);rw [wU (x:=x) (by omega),wU (x:=18446744073709551615) (by omega),wU (x:=18446744073709551615-x) (by omega)];rfl
theorem pow_form (i:Nat) (hi:i<64):IntKind.u64.wrap (2 ^ i)=((2 ^ i:Nat):Int):=by
 have h:(2:Nat) ^ i<2 ^ 64:=jO (by omega) hi;have e:((2:Int) ^ i)=((2 ^ i:Nat):Int):=(by simp);rw [e];generalize (2:Nat) ^ i=p at h;exact IntWalk.u64_in _ (by omega)
theorem or_form (x b:Nat) (hx:x<18446744073709551616):bits .or .u64 (x:Int) (IntKind.u64.wrap (2 ^ (b%64)))=((x ||| 2 ^ (b%64):Nat):Int):=by
 have h:(2:Nat) ^ (b%64)<2 ^ 64:=jO (by omega) (Nat.mod_lt _ (by omega));rw [pow_form _ (Nat.mod_lt _ (by omega)),u64_or_nat _ _ hx (by omega)]
theorem Wn (s:Nat->Nat) (hs:W64 s) (b x:Nat) (hx:x=s (b/64)):(AV s).setIfInBounds (b/64) (.int .u64 (bits .or .u64 (x:Int) (IntKind.u64.wrap (2 ^ (b%64)))))=AV (Y9 s b):=by
 rw [or_form x b (by rw [hx];exact hs _),AV_set];refine Zm fun j _=>?_
 unfold Y9;by_cases h:j=b/64
 ·subst h;simp [hx]
 ·simp [h]
def ofL (zs:List Nat):Nat->Nat:=zs.foldl Y9 fun _=>0
theorem J7 (zs:List Nat) (b:Nat):ofL (zs++[b])=Y9 (ofL zs) b:=by simp [ofL]
theorem Yr (zs:List Nat):∀ s,(W64 s->W64 (zs.foldl Y9 s))∧∀ c,bit (zs.foldl Y9 s) c=(bit s c || decide (c∈zs)):=by
 induction zs with
 |nil=>intro s;exact ⟨id,fun c=>by simp⟩
 |cons z zs ih =>
  intro s;refine ⟨fun h=>(ih _).1 (addB_W64 h z),fun c=>?_⟩;rw [zQ,(ih _).2,bit_addB];by_cases h:c=z <;> simp [h]
theorem wM (zs:List Nat):W64 (ofL zs):=(Yr zs _).1 vg
theorem Kq (zs:List Nat) (c:Nat):bit (ofL zs) c=decide (c∈zs):=by rw [ofL,(Yr zs _).2,bit_zero];simp
theorem Kh (zs:List Nat) (k:Nat) (h:k<zs.length):zs.take (k+1)=zs.take k++[zs.getD k 0]:=by
 rw [jh h];simp [List.getD,h]
end
section
open Go.RowKit
def Q9 (f s:Nat->Nat) (k:Nat):Nat->Nat:=fun j=>if j<k then f j else s j
theorem ZG (f s:Nat->Nat):AV s=AV (Q9 f s 0):=Zm fun j _=>by simp [Q9]
theorem ZE (f s:Nat->Nat):AV (Q9 f s 4)=AV f:=Zm fun j hj=>by simp [Q9,hj]
theorem QX (f s:Nat->Nat) (k:Nat) (hk:k<4):(AV (Q9 f s k))[k]?=some (.int .u64 (s k)):=by rw [kX _ _ hk];simp [Q9]
theorem ZF (f s:Nat->Nat) (k:Nat) (x:Int) (hx:x=(f k:Nat)):(AV (Q9 f s k)).setIfInBounds k (.int .u64 x)=AV (Q9 f s (k+1)):=by
 rw [hx,AV_set];refine Zm fun j _=>?_
 unfold Q9;by_cases h:j=k
 ·subst h;simp
 ·by_cases h2:j<k
  ·simp [h,h2,show j<k+1 by omega]
  ·simp [h,h2,show ¬ j<k+1 by omega]
theorem Wi (s t:Nat->Nat) (hs:W64 s) (ht:W64 t) (w:World) :
  Calls z6 100 #[.agg (AV s),.agg (AV t)] w fun e w'=>e=.returned (.agg (AV (orW s t)))∧Below w.heap.size w w':=by
 go_enter Tryd.func100,Tryd.ntmps100;go_wp2_with (refine qT rfl 34 rfl _ z26 ?_;simp only [Act.put,zd,zj,zk,World.size_alloc])
 go_loopw [5,6] (fun _ i wr=>∃ k n:Nat,k<=4∧i=.int .i64 k∧wr=(((w.alloc (.cells (AV (Q9 (orW s t) s k)) 34)).alloc (.cells (AV t) 34)).alloc (.cells (AV fun _=>0) 34)).drewN n) (fun _ i _=>4-(intOf i).toNat)
 case atStart=>exact ⟨0,0,by omega,rfl,by rw [← ZG];rfl⟩
 case round =>
  obtain ⟨k,n,hk,rfl,rfl⟩:=hrel;by_cases hlt:k<4
  ·have h1:=QX (orW s t) s k hlt;have h2:=kX t k hlt
   go_wp2
   go_region
   go_wp2
   go_roundw
   case rel =>
    refine ⟨k+1,n+1,by omega,by go_num,?_⟩;rw [j7,World.setCell_alloc_past _ _ _ _ (by simp;omega),World.setCell_alloc_past _ _ _ _ (by simp),World.setCell_alloc_at _ _ _ _ _ rfl,ZF (orW s t) s k _ (u64_or_nat (s k) (t k) (hs k) (ht k))]
   case measure=>simp [intOf];omega
  ·obtain rfl:k=4:=by omega
   rw [ZE];go_wp2_with (first|(refine wpList_load_row rfl 34 _ rfl _ rfl _ _ _ _ ((yJ _ _ _ (by simp;omega)).trans ((yJ _ _ _ (by simp)).trans (qS _ _ _ rfl))) zF rfl (i26 _) ?_;simp only [Act.put,zd,zj,zk])|(refine qr rfl 34 _ _ rfl _ rfl _ rfl _ _ (qS _ _ _ (by simp)) (i26 _) (by rw [qB,qB]) (ws _) ?_;rw [ju,yQ _ _ _ _ _ (by simp)];simp only [Act.put,zd,zj,zk]));exact bodyPost_ret (results_cell_row rfl _ _ _ _ _ _ _ rfl (qS _ _ _ (by simp)) zF rfl (i26 _)) rfl
    ⟨rfl,jj ((((Below.refl _ _).alloc (by simp) _).alloc (by simp) _).alloc (by simp;omega) _) _⟩
theorem meet_c (s t:Nat->Nat) (hs:W64 s) (ht:W64 t) (w:World) :
  Calls z6 51 #[.agg (AV s),.agg (AV t)] w fun e w'=>e=.returned (.agg (AV (vU s t)))∧Below w.heap.size w w':=by
 go_enter Tryd.func51,Tryd.ntmps51;go_wp2_with (refine qT rfl 34 rfl _ z26 ?_;simp only [Act.put,zd,zj,zk,World.size_alloc])
 go_loopw [5,6] (fun _ i wr=>∃ k n:Nat,k<=4∧i=.int .i64 k∧wr=(((w.alloc (.cells (AV (Q9 (vU s t) s k)) 34)).alloc (.cells (AV t) 34)).alloc (.cells (AV fun _=>0) 34)).drewN n) (fun _ i _=>4-(intOf i).toNat)
 case atStart=>exact ⟨0,0,by omega,rfl,by rw [← ZG];rfl⟩
 case round =>
  obtain ⟨k,n,hk,rfl,rfl⟩:=hrel;by_cases hlt:k<4
  ·have h1:=QX (vU s t) s k hlt;have h2:=kX t k hlt
   go_wp2
   go_region
   go_wp2
   go_roundw
   case rel =>
    refine ⟨k+1,n+1,by omega,by go_num,?_⟩;rw [j7,World.setCell_alloc_past _ _ _ _ (by simp;omega),World.setCell_alloc_past _ _ _ _ (by simp),World.setCell_alloc_at _ _ _ _ _ rfl,ZF (vU s t) s k _ (u64_and_nat (s k) (t k) (hs k) (ht k))]
   case measure=>simp [intOf];omega
  ·obtain rfl:k=4:=by omega
   rw [ZE];go_wp2_with (first|(refine wpList_load_row rfl 34 _ rfl _ rfl _ _ _ _ ((yJ _ _ _ (by simp;omega)).trans ((yJ _ _ _ (by simp)).trans (qS _ _ _ rfl))) zF rfl (i26 _) ?_;simp only [Act.put,zd,zj,zk])|(refine qr rfl 34 _ _ rfl _ rfl _ rfl _ _ (qS _ _ _ (by simp)) (i26 _) (by rw [qB,qB]) (ws _) ?_;rw [ju,yQ _ _ _ _ _ (by simp)];simp only [Act.put,zd,zj,zk]));exact bodyPost_ret (results_cell_row rfl _ _ _ _ _ _ _ rfl (qS _ _ _ (by simp)) zF rfl (i26 _)) rfl
    ⟨rfl,jj ((((Below.refl _ _).alloc (by simp) _).alloc (by simp) _).alloc (by simp;omega) _) _⟩
theorem minus_c (s t:Nat->Nat) (hs:W64 s) (ht:W64 t) (w:World) :
  Calls z6 61 #[.agg (AV s),.agg (AV t)] w fun e w'=>e=.returned (.agg (AV (ZQ s t)))∧Below w.heap.size w w':=by
 go_enter Tryd.func61,Tryd.ntmps61;go_wp2_with (refine qT rfl 34 rfl _ z26 ?_;simp only [Act.put,zd,zj,zk,World.size_alloc])
 go_loopw [5,6] (fun _ i wr=>∃ k n:Nat,k<=4∧i=.int .i64 k∧wr=(((w.alloc (.cells (AV (Q9 (ZQ s t) s k)) 34)).alloc (.cells (AV t) 34)).alloc (.cells (AV fun _=>0) 34)).drewN n) (fun _ i _=>4-(intOf i).toNat)
 case atStart=>exact ⟨0,0,by omega,rfl,by rw [← ZG];rfl⟩
 case round =>
  obtain ⟨k,n,hk,rfl,rfl⟩:=hrel;by_cases hlt:k<4
  ·have h1:=QX (ZQ s t) s k hlt;have h2:=kX t k hlt
   go_wp2
   go_region
   go_wp2
   go_roundw
   case rel =>
    refine ⟨k+1,n+1,by omega,by go_num,?_⟩;rw [j7,World.setCell_alloc_past _ _ _ _ (by simp;omega),World.setCell_alloc_past _ _ _ _ (by simp),World.setCell_alloc_at _ _ _ _ _ rfl,ZF (ZQ s t) s k _ (u64_andNot_nat (s k) (t k) (hs k) (ht k))]
   case measure=>simp [intOf];omega
  ·obtain rfl:k=4:=by omega
   rw [ZE];go_wp2_with (first|(refine wpList_load_row rfl 34 _ rfl _ rfl _ _ _ _ ((yJ _ _ _ (by simp;omega)).trans ((yJ _ _ _ (by simp)).trans (qS _ _ _ rfl))) zF rfl (i26 _) ?_;simp only [Act.put,zd,zj,zk])|(refine qr rfl 34 _ _ rfl _ rfl _ rfl _ _ (qS _ _ _ (by simp)) (i26 _) (by rw [qB,qB]) (ws _) ?_;rw [ju,yQ _ _ _ _ _ (by simp)];simp only [Act.put,zd,zj,zk]));exact bodyPost_ret (results_cell_row rfl _ _ _ _ _ _ _ rfl (qS _ _ _ (by simp)) zF rfl (i26 _)) rfl
    ⟨rfl,jj ((((Below.refl _ _).alloc (by simp) _).alloc (by simp) _).alloc (by simp;omega) _) _⟩
end
section
open Go.RowKit
def btw (lo n:Nat):Nat->Nat:=ofL (List.range' lo n)
theorem j6 (lo n:Nat):W64 (btw lo n):=wM _
theorem btw_succ (lo n:Nat):btw lo (n+1)=Y9 (btw lo n) (lo+n):=by
 unfold btw;rw [List.range'_concat,J7];simp
theorem XM (lo n c:Nat):bit (btw lo n) c=decide (lo<=c∧c<lo+n):=by
 unfold btw;rw [Kq];simp [List.mem_range'_1]
theorem ZZ (lo hi:Nat) (h1:lo<256) (h2:hi<256) (w:World) :
  Calls z6 60 #[.int .u8 lo,.int .u8 hi] w fun e w'=>e=.returned (.agg (AV (btw lo (hi+1-lo))))∧Below w.heap.size w w':=by
 go_enter Tryd.func60,Tryd.ntmps60;go_wp2_with (refine qT rfl 34 rfl _ z26 ?_;simp only [Act.put,zd,zj,zk,World.size_alloc])
 go_loopw [6] (fun i wr=>∃ k n:Nat,lo+k<=max lo (hi+1)∧i=.int .i64 (lo+k:Nat)∧wr=((w.alloc (.cells (AV fun _=>0) 34)).alloc (.cells (AV (btw lo k)) 34)).drewN n) (fun i _=>256-(intOf i).toNat)
 case atStart=>exact ⟨0,0,by omega,by simp,rfl⟩
 case round =>
  obtain ⟨k,n,hk,rfl,rfl⟩:=hrel;obtain ⟨z,hz⟩:∃ z,z=lo+k:=⟨_,rfl⟩
  rw [← hz];have HZ:=zh hz;have hz3:lo<=z:=(by omega);have hz4:z<=256:=(by omega);clear hz;by_cases hlt:z<=hi
  ·have hz2:z<256:=(by omega);obtain ⟨x,hx⟩:∃ x,x=btw lo k (z/64):=⟨_,rfl⟩
   have hxb:x<=18446744073709551615:=(by have:=j6 lo k (z/64);omega);have hc:=YU (btw lo k) z hz2 x hx;have h64:((z:Int)/64).toNat=z/64:=(by omega);have h65:(z:Int)/64<4:=(by omega);have HX:=zh hx;clear hx
   go_wp2
   go_region
   go_wp2
   go_roundw
   case rel =>
    refine ⟨k+1,n+1,by have:=HZ.out;omega,by rw [HZ.out];go_num,?_⟩;rw [j7,World.setCell_alloc_at _ _ _ _ _ (by simp),Wn _ (j6 _ _) _ _ HX.out,btw_succ,HZ.out]
   case measure=>simp [intOf];omega
  ·have hk2:k=hi+1-lo:=(by have:=HZ.out;omega);rw [hk2];clear hk2;go_wp2_with (first|(refine wpList_load_row rfl 34 _ rfl _ rfl _ _ _ _ (qS _ _ _ (by simp)) zF rfl (i26 _) ?_;simp only [Act.put,zd,zj,zk])|(refine qr rfl 34 _ _ rfl _ rfl _ rfl _ _ ((yJ _ _ _ (by simp)).trans (qS _ _ _ rfl)) (i26 _) (by rw [qB,qB]) (ws _) ?_;rw [ju,jZ _ _ _ _ (by simp),yQ _ _ _ _ _ rfl];simp only [Act.put,zd,zj,zk]));exact bodyPost_ret (results_cell_row rfl _ _ _ _ _ _ _ rfl ((yJ _ _ _ (by simp)).trans (qS _ _ _ rfl)) zF rfl (i26 _)) rfl
    ⟨rfl,jj (((Below.refl _ _).alloc (by simp) _).alloc (by simp) _) _⟩
def cnt (m:Nat->Bool):Nat->Nat
 |0=>0
 |k+1=>cnt m k+if m k then 1 else 0
theorem XQ (m:Nat->Bool) (k:Nat):cnt m k<=k:=by
 induction k with
 |zero=>exact zp _
 |succ k ih=>unfold cnt;split <;> omega
theorem Q2 {m n:Nat->Bool} (k:Nat) (h:∀ j,j<k->m j=n j):cnt m k=cnt n k:=by
 induction k with
 |zero=>rfl
 |succ k ih=>unfold cnt;rw [ih fun j hj=>h j (by omega),h k (by omega)]
end
section
open Go.RowKit
theorem Kx (m:Nat->Bool) (a n:Nat):cnt m (a+n)=cnt m a+cnt (fun j=>m (a+j)) n:=by
 induction n with
 |zero=>rfl
 |succ n ih=>rw [← Nat.add_assoc];simp only [cnt];rw [ih];omega
theorem jL (a p m r:Nat) (ha:a<256) (hm:m<256):(a+256*p) &&& (m+256*r)=(a &&& m)+256*(p &&& r):=by
 apply yV;intro i;have h1:=we (i:=8) p ha i;have h2:=we (i:=8) r hm i;have h3:=we (i:=8) (p &&& r) (b:=a &&& m) (yL vB ha) i;rw [qj,show a+256*p=2 ^ 8*p+a by omega,show m+256*r=2 ^ 8*r+m by omega,show (a &&& m)+256*(p &&& r)=2 ^ 8*(p &&& r)+(a &&& m) by omega,h1,h2,h3];split <;> simp
def st1 (x M:Nat):Nat:=(x/2 &&& M)+(x &&& M)
def st2 (x M:Nat):Nat:=(x/4 &&& M)+(x &&& M)
def st3 (x M:Nat):Nat:=(x/16+x) &&& M
theorem st1_byte (b q M:Nat) (hb:b<256):st1 (b+256*q) (85+256*M)=st1 b 85+256*st1 q M:=by
 unfold st1;have e:(b+256*q)/2=(b/2+128*(q%2))+256*(q/2):=(by omega);have k:(b/2+128*(q%2)) &&& 85=b/2 &&& 85:=by
  have:∀ b:Fin 256,∀ c:Fin 2,(b.val/2+128*c.val) &&& 85=b.val/2 &&& 85:=by decide +kernel
  exact this ⟨b,hb⟩ ⟨q%2,by omega⟩
 rw [e,jL _ _ _ _ (by omega) (by omega),jL _ _ _ _ hb (by omega),k];omega
theorem st2_byte (b q M:Nat) (hb:b<256):st2 (b+256*q) (51+256*M)=st2 b 51+256*st2 q M:=by
 unfold st2;have e:(b+256*q)/4=(b/4+64*(q%4))+256*(q/4):=(by omega);have k:(b/4+64*(q%4)) &&& 51=b/4 &&& 51:=by
  have:∀ b:Fin 256,∀ c:Fin 4,(b.val/4+64*c.val) &&& 51=b.val/4 &&& 51:=by decide +kernel
  exact this ⟨b,hb⟩ ⟨q%4,by omega⟩
 rw [e,jL _ _ _ _ (by omega) (by omega),jL _ _ _ _ hb (by omega),k];omega
theorem st3_byte (b q M:Nat) (hb:b%16<=4) (hb2:b/16<=4) (hq:q%16<=4):st3 (b+256*q) (15+256*M)=st3 b 15+256*st3 q M:=by
 unfold st3;have e:(b+256*q)/16+(b+256*q)=(b/16+16*(q%16)+b)+256*(q/16+q):=(by omega);have k:(b/16+16*(q%16)+b) &&& 15=(b/16+b) &&& 15:=by
  rw [nat_mask4,nat_mask4];omega
 rw [e,jL _ _ _ _ (by omega) (by omega),k]
def jw (b:Nat):Nat:=cnt (fun j=>b.testBit j) 8
theorem Jr (b:Nat) (hb:b<256):st1 b 85<256∧st2 (st1 b 85) 51<256∧st2 (st1 b 85) 51%16<=4∧st2 (st1 b 85) 51/16<=4∧st3 (st2 (st1 b 85) 51) 15=jw b∧jw b<=8:=by
 have:∀ b:Fin 256,st1 b.val 85<256∧st2 (st1 b.val 85) 51<256∧st2 (st1 b.val 85) 51%16<=4∧st2 (st1 b.val 85) 51/16<=4∧st3 (st2 (st1 b.val 85) 51) 15=jw b.val∧jw b.val<=8:=by decide +kernel
 exact this ⟨b,hb⟩
def ZD (m:Nat):Nat->Nat
 |0=>0
 |n+1=>m+256*ZD m n
def K2:Nat->Nat->Nat
 |0,_=>0
 |n+1,x=>jw (x%256)+256*K2 n (x/256)
theorem YP:∀ (n x:Nat),x<256 ^ n->st3 (st2 (st1 x (ZD 85 n)) (ZD 51 n)) (ZD 15 n)=K2 n x∧st2 (st1 x (ZD 85 n)) (ZD 51 n)%16<=4
 |0,x,h=>by
  simp at h;subst h;simp [ZD,st1,st2,st3,K2]
 |n+1,x,h=>by
  have hb:x%256<256:=Nat.mod_lt _ (by omega);have hx:x=x%256+256*(x/256):=(by omega);have hq:x/256<256 ^ n:=(by rw [Nat.pow_succ] at h;omega);obtain ⟨ih1,ih2⟩:=YP n (x/256) hq;obtain ⟨h1,h2,h3,h4,h5,h6⟩:=Jr (x%256) hb;have e1:st1 x (ZD 85 (n+1))=st1 (x%256) 85+256*st1 (x/256) (ZD 85 n):=by
   conv=>lhs;rw [hx]
   exact st1_byte _ _ _ hb
  simp only [ZD,K2];simp only [ZD] at e1;rw [e1,st2_byte _ _ _ h1,st3_byte _ _ _ h3 h4 ih2,h5,ih1];exact ⟨rfl,by omega⟩
theorem cnt_pops:∀ (x:Nat),x<256 ^ 8->cnt (fun j=>x.testBit j) 64=jw (x%256)+jw (x/256%256)+jw (x/256/256%256)+jw (x/256/256/256%256)+jw (x/256/256/256/256%256)+jw (x/256/256/256/256/256%256)+jw (x/256/256/256/256/256/256%256)+jw (x/256/256/256/256/256/256/256%256):=by
 intro x _;have one:∀ (x n:Nat),cnt (fun j=>x.testBit j) (8+n)=jw (x%256)+cnt (fun j=>(x/256).testBit j) n:=by
  intro x n;rw [Kx];congr 1
  ·unfold jw;refine Q2 8 fun j hj=>?_
   have:=Nat.testBit_mod_two_pow x 8 j;simp only [Nat.reducePow] at this;rw [this];simp [hj]
  ·refine Q2 n fun j _=>?_
   have:=Nat.testBit_div_two_pow (n:=8) x j;simp only [Nat.reducePow] at this;rw [this,Nat.add_comm]
 rw [show 64=8+(8+(8+(8+(8+(8+(8+(8+0))))))) by rfl,one,one,one,one,one,one,one,one];simp only [cnt];omega
theorem Ws (x c:Nat) (k:Int) (hk:k=(c:Int)) (hx:x<18446744073709551616) (hc:c<18446744073709551616):bits .and .u64 (x:Int) k=((x &&& c:Nat):Int):=by rw [hk];exact u64_and_nat x c hx hc
theorem mask_85:ZD 85 8=6148914691236517205:=by decide
theorem mask_51:ZD 51 8=3689348814741910323:=by decide
theorem mask_15:ZD 15 8=1085102592571150095:=by decide
theorem VU (a b c d e f g h:Nat) (ha:a<=8) (hb:b<=8) (hc:c<=8) (hd:d<=8) (he:e<=8) (hf:f<=8) (hg:g<=8) (hh:h<=8) :
  let y:=a+256*(b+256*(c+256*(d+256*(e+256*(f+256*(g+256*h))))))
  let y4:=y+y/256
  let y5:=y4+y4/65536
  let y6:=y5+y5/4294967296
  y<=1000000000000000000∧y6%128=a+b+c+d+e+f+g+h:=by
 intro y y4 y5 y6;have h4:y4=(a+b)+256*((b+c)+256*((c+d)+256*((d+e)+256*((e+f)+256*((f+g)+256*((g+h)+256*h)))))):=(by omega);have h5:y5=(a+b+c+d)+256*((b+c+d+e)+256*((c+d+e+f)+256*((d+e+f+g)+256*((e+f+g+h)+256*((f+g+h)+256*((g+h)+256*h)))))):=(by omega);have h6:∃ k,y6=(a+b+c+d+e+f+g+h)+256*k:=⟨(b+c+d+e+f+g+h)+256*((c+d+e+f+g+h)+256*((d+e+f+g+h)+256*((e+f+g+h)+256*((f+g+h)+256*((g+h)+256*h))))),by omega⟩
 obtain ⟨k,hk⟩:=h6;exact ⟨by omega,by omega⟩
theorem pops_eq (x:Nat):K2 8 x=jw (x%256)+256*(jw (x/256%256)+256*(jw (x/256/256%256)+256*(jw (x/256/256/256%256)+256*(jw (x/256/256/256/256%256)+256*(jw (x/256/256/256/256/256%256)+256*(jw (x/256/256/256/256/256/256%256)+256*(jw (x/256/256/256/256/256/256/256%256)))))))):=by simp only [K2];omega
theorem jT (b:Nat):jw b<=8:=XQ _ _
theorem JV (x:Nat) (hx:x<18446744073709551616):∃ y1 y2 y3 y4 y5 y6:Nat,
  IntKind.u64.wrap (bits .and .u64 ((x:Int)/2) 6148914691236517205+bits .and .u64 (x:Int) 6148914691236517205)=(y1:Int) ∧
  IntKind.u64.wrap (bits .and .u64 ((y1:Int)/4) 3689348814741910323+bits .and .u64 (y1:Int) 3689348814741910323)=(y2:Int) ∧
  bits .and .u64 (IntKind.u64.wrap ((y2:Int)/16+(y2:Int))) 1085102592571150095=(y3:Int) ∧
  IntKind.u64.wrap ((y3:Int)+(y3:Int)/256)=(y4:Int)∧IntKind.u64.wrap ((y4:Int)+(y4:Int)/65536)=(y5:Int)∧IntKind.u64.wrap ((y5:Int)+(y5:Int)/4294967296)=(y6:Int) ∧
  y6<9223372036854775808∧y6%128=cnt (fun j=>x.testBit j) 64:=by
 have key:=VU _ _ _ _ _ _ _ _ (jT (x%256)) (jT (x/256%256)) (jT (x/256/256%256)) (jT (x/256/256/256%256)) (jT (x/256/256/256/256%256)) (jT (x/256/256/256/256/256%256)) (jT (x/256/256/256/256/256/256%256)) (jT (x/256/256/256/256/256/256/256%256));simp only [← pops_eq] at key;obtain ⟨k1,k2⟩:=key;have hp:=(YP 8 x (by simpa using hx)).1;rw [mask_85,mask_51,mask_15] at hp;have w64:∀ n:Nat,n<18446744073709551616->IntKind.u64.wrap (n:Int)=(n:Int):=fun n hn=>IntWalk.u64_in _ (by omega)
 have a1:∀ y,y &&& 6148914691236517205<=6148914691236517205:=fun y=>wP
 have a2:∀ y,y &&& 3689348814741910323<=3689348814741910323:=fun y=>wP
 have b1:st1 x 6148914691236517205<=12297829382473034410:=(by unfold st1;have:=a1 (x/2);have:=a1 x;omega);have b2:st2 (st1 x 6148914691236517205) 3689348814741910323<=7378697629483820646:=by
  generalize st1 x 6148914691236517205=y;unfold st2;have:=a2 (y/4);have:=a2 y;omega
 generalize hy1:st1 x 6148914691236517205=y1 at *;generalize hy2:st2 y1 3689348814741910323=y2 at *;generalize hy3:K2 8 x=y3 at *;obtain ⟨y4,hy4⟩:∃ y4,y4=y3+y3/256:=⟨_,rfl⟩
 obtain ⟨y5,hy5⟩:∃ y5,y5=y4+y4/65536:=⟨_,rfl⟩
 obtain ⟨y6,hy6⟩:∃ y6,y6=y5+y5/4294967296:=⟨_,rfl⟩
 rw [← hy4,← hy5,← hy6] at k2;have c4:y4<=2000000000000000000:=(by omega);have c5:y5<=4000000000000000000:=(by omega);have c6:y6<=8000000000000000000:=(by omega);refine ⟨y1,y2,y3,y4,y5,y6,?_,?_,?_,?_,?_,?_,by omega,?_⟩
 ·have h1:=Ws (x/2) 6148914691236517205 6148914691236517205 rfl (by omega) (by decide);have h2:=Ws x 6148914691236517205 6148914691236517205 rfl hx (by decide);rw [show ((x:Int)/2)=((x/2:Nat):Int) from rfl,h1,h2,← wC,show (x/2 &&& 6148914691236517205)+(x &&& 6148914691236517205)=y1 from hy1];exact w64 _ (by omega)
 ·have h1:=Ws (y1/4) 3689348814741910323 3689348814741910323 rfl (by omega) (by decide);have h2:=Ws y1 3689348814741910323 3689348814741910323 rfl (by omega) (by decide);rw [show ((y1:Int)/4)=((y1/4:Nat):Int) from rfl,h1,h2,← wC,show (y1/4 &&& 3689348814741910323)+(y1 &&& 3689348814741910323)=y2 from hy2];exact w64 _ (by omega)
 ·have h1:=Ws (y2/16+y2) 1085102592571150095 1085102592571150095 rfl (by omega) (by decide);rw [show ((y2:Int)/16)=((y2/16:Nat):Int) from rfl,← wC,w64 _ (by omega),h1];exact congrArg _ hp
 ·rw [show ((y3:Int)/256)=((y3/256:Nat):Int) from rfl,← wC,← hy4];exact w64 _ (by omega)
 ·rw [show ((y4:Int)/65536)=((y4/65536:Nat):Int) from rfl,← wC,← hy5];exact w64 _ (by omega)
 ·rw [show ((y5:Int)/4294967296)=((y5/4294967296:Nat):Int) from rfl,← wC,← hy6];exact w64 _ (by omega)
 ·rw [k2,cnt_pops x (by simpa using hx)]
theorem and127 (n:Nat) (h:n<9223372036854775808):bits .and .i64 (n:Int) 127=((n%128:Nat):Int):=by
 have h1:(BitVec.ofInt 64 (n:Int)).toNat=n:=by
  rw [BitVec.ofInt_natCast,BitVec.toNat_ofNat];exact Nat.mod_eq_of_lt (by omega)
 have h2:(BitVec.ofInt 64 (127:Int)).toNat=127:=(by decide);show IntKind.i64.wrap ((BitVec.ofInt 64 (n:Int) &&& BitVec.ofInt 64 127).toNat:Int)=_
 rw [BitVec.toNat_and,h1,h2,nat_mask7];exact IntWalk.i64_in _ (by omega)
theorem ones_c (x:Nat) (hx:x<18446744073709551616) (w:World) :
  Calls z6 79 #[.int .u64 x] w fun e w'=>e=.returned (.int .i64 (cnt (fun j=>x.testBit j) 64:Nat))∧w=w':=by
 obtain ⟨y1,y2,y3,y4,y5,y6,h1,h2,h3,h4,h5,h6,h7,h8⟩:=JV x hx;have hx2:x<=18446744073709551615:=(by omega);go_enter Tryd.func79,Tryd.ntmps79;have H8:=zh h8;have H7:=zh h7;clear h8 h7 hx;have H1:=zh h1;have H2:=zh h2;have H3:=zh h3;have H4:=zh h4;have H5:=zh h5;have H6:=zh h6;clear h1 h2 h3 h4 h5 h6
 go_wp2
 go_ret;refine ⟨congrArg Ending.returned ?_,rfl⟩;show Value.int .i64 (bits .and .i64 _ 127)=_
 rw [H1.out,H2.out,H3.out,H4.out,H5.out,H6.out];rw [IntWalk.wrap64_in _ (by have:=H7.out;omega)];rw [and127 _ H7.out,H8.out]
theorem Vi (s:Nat->Nat) (k:Nat):cnt (bit s) (64*(k+1))=cnt (bit s) (64*k)+cnt (fun j=>(s k).testBit j) 64:=by
 rw [show 64*(k+1)=64*k+64 by omega,Kx];congr 1
 refine Q2 64 fun j hj=>?_
 unfold bit;rw [show (64*k+j)/64=k by omega,show (64*k+j)%64=j by omega]
theorem len_c (s:Nat->Nat) (hs:W64 s) (w:World) :
  Calls z6 62 #[.agg (AV s)] w fun e w'=>e=.returned (.int .i64 (cnt (bit s) 256:Nat))∧Below w.heap.size w w':=by
 go_enter Tryd.func62,Tryd.ntmps62;go_wp2_with (first|(refine wpList_load_row rfl 34 _ rfl _ rfl _ _ _ _ (qS _ _ _ rfl) zF rfl (i26 _) ?_;simp only [Act.put,zd,zj,zk]))
 go_loopw [3,5,7] (fun c _ i wr=>∃ k:Nat,k<=4∧i=.int .i64 k∧c=.int .i64 (cnt (bit s) (64*k):Nat)∧wr=w.alloc (.cells (AV s) 34)) (fun _ _ i _=>4-(intOf i).toNat)
 case atStart=>exact ⟨0,by omega,rfl,rfl,rfl⟩
 case round =>
  obtain ⟨k,hk,rfl,rfl,rfl⟩:=hrel;obtain ⟨wx,hwx⟩:∃ wx,wx=w.alloc (.cells (AV s) 34):=⟨_,rfl⟩
  rw [← hwx];have HWX:=zh hwx;clear hwx;by_cases hlt:k<4
  ·have hi:∀ w,(Instr.index 34 (.agg (AV s)) (.int .i64 k)).run z6 w=.ok (.int .u64 (s k)) w:=fun w=>by
    have hx:=kX s k hlt;have h0:(0:Int)<=k:=(by omega);have h1:(k:Int)<4:=(by omega);simp [Instr.index,asIntOf,part,hx,h0,h1];intro h;omega
   obtain ⟨c,hc⟩:∃ c,c=cnt (bit s) (64*k):=⟨_,rfl⟩
   have hcb:c<=256:=(by rw [hc];exact qs (XQ _ _) (by omega));rw [← hc];have HC:=zh hc;clear hc;obtain ⟨q,hq⟩:∃ q,q=cnt (fun j=>(s k).testBit j) 64:=⟨_,rfl⟩
   have hqb:q<=64:=(by rw [hq];exact XQ _ _);have HQ:=zh hq;clear hq;go_wp2_with (go_at_call 79;refine (ones_c (s k) (hs k) _).mono ?_;rw [← HQ.out];rintro e w' ⟨rfl,rfl⟩)
   go_roundw
   case rel=>exact ⟨k+1,by omega,by go_num,by rw [Vi,← HC.out,← HQ.out];go_num,trivial⟩
   case measure=>simp [intOf];omega
  ·obtain rfl:k=4:=by omega
   go_wp2
   go_ret;exact ⟨rfl,by rw [HWX.out];exact wu _ _⟩
end
section
open Go.RowKit Go.Shelf
abbrev Tab (w:World):Prop:=TabAt 1 Lib.deBruijn64tab w
theorem Tab.below {B:Nat} {w w':World} (h:Tab w) (hb:Below B w w') (h0:1<B):Tab w':=fun j hj=>(hb.cell (p:=⟨1,j,none⟩) h0).trans (h j hj)
theorem tz_t (x:Nat) (hx:x<18446744073709551616) (w:World) (hT:Tab w):Calls z6 52 #[.int .u64 x] w fun e w'=>e=.returned (.int .i64 (Lib.ctz 64 x:Nat))∧w=w':=by
 have h:=Any7.bits_TrailingZeros64 Tryd.lays29 x hx w (fun _=>hT);exact zm h fun _ _ ⟨h1,h2⟩=>⟨h1,h2.symm⟩
def wW (s:Nat->Nat):Nat->Nat->Nat
 |0,_=>256
 |f+1,k=>if s k≠0 then 64*k+Lib.ctz 64 (s k) else wW s f (k+1)
def x6 (s:Nat->Nat):Nat:=wW s 4 0
theorem ctz_le (x:Nat) (hx:x<18446744073709551616):Lib.ctz 64 x<=64:=by
 by_cases h:x=0
 ·unfold Lib.ctz;rw [if_pos h];exact zp _
 ·exact Nat.le_of_lt (Lib.lowest_bit 64 x h hx).2
theorem Xs (s:Nat->Nat) (hs:W64 s):∀ f k,f+k<=4->wW s f k<=256
 |0,k,_=>zp _
 |f+1,k,h=>by
  unfold wW;split
  ·have:=ctz_le (s k) (hs k);omega
  ·exact Xs s hs f (k+1) (by omega)
theorem WY (s:Nat->Nat) (hs:W64 s):x6 s<=256:=Xs s hs 4 0 (by omega)
theorem least_c (s:Nat->Nat) (hs:W64 s) (w:World) (hT:Hid (Tab w)) (h0:1<w.heap.size):Calls z6 65 #[.agg (AV s)] w fun e w'=>e=.returned (.int .i64 (x6 s:Nat))∧w'=w.alloc (.cells (AV s) 34):=by
 go_enter Tryd.func65,Tryd.ntmps65;go_wp2_with (first|(refine wpList_load_row rfl 34 _ rfl _ rfl _ _ _ _ (qS _ _ _ rfl) zF rfl (i26 _) ?_;simp only [Act.put,zd,zj,zk]));obtain ⟨wo,hwo⟩:∃ wo,wo=w.alloc (.cells (AV s) 34):=⟨_,rfl⟩
 have HTO:Hid (Tab wo):=zh (by rw [hwo];exact hT.out.below (wu w _) h0);rw [← hwo];have HWO:=zh hwo;clear hwo;go_loopg [6] 4 (fun g i wr=>∃ k:Nat,k<=4∧g=4-k∧i=.int .i64 k∧wr=wo∧Hid (x6 s=wW s (4-k) k));case atStart=>exact ⟨0,by omega,by omega,rfl,rfl,zh rfl⟩
 case round =>
  obtain ⟨k,hk,rfl,rfl,rfl,HL⟩:=hrel;by_cases hlt:k<4
  ·have hi:∀ w,(Instr.index 34 (.agg (AV s)) (.int .i64 k)).run z6 w=.ok (.int .u64 (s k)) w:=fun w=>by
    have hx:=kX s k hlt;have h0:(0:Int)<=k:=(by omega);have h1:(k:Int)<4:=(by omega);simp [Instr.index,asIntOf,part,hx,h0,h1];intro h;omega
   by_cases hz:s k=0
   ·have HZ:=zh hz;have e:((s k:Int) != 0)=false:=(by rw [hz];rfl);clear hz
    go_wp2
    go_roundg (4-(k+1));case measure=>omega
    case rel=>exact ⟨k+1,by omega,rfl,by go_num,rfl,zh (by rw [HL.out,show 4-k=(4-(k+1))+1 by omega,wW,if_neg (by rw [HZ.out];simp)])⟩
   ·have HZ:=zh hz;have e:((s k:Int) != 0)=true:=(by rw [bne_iff_ne];omega);have hb:=hs k;have hc:=ctz_le (s k) (hs k);have HV:Hid (((64*(k:Int)+(Lib.ctz 64 (s k):Nat)):Int)=(x6 s:Nat)):=zh (by rw [HL.out,show 4-k=(4-(k+1))+1 by omega,wW,if_pos HZ.out];simp);clear hz;generalize hq:Lib.ctz 64 (s k)=q at hc HV;have HQ:=zh hq;clear hq;go_wp2_with fail;refine (tz_t (s k) hb _ HTO.out).mono ?_;rw [HQ.out];rintro e w' ⟨rfl,rfl⟩;go_wp2_with fail;go_ret;exact ⟨congrArg (fun x=>Ending.returned (.int .i64 x)) HV.out,HWO.out⟩
  ·have hk4:k=4:=(by omega);have HV:Hid ((256:Nat)=x6 s):=zh (by rw [HL.out,hk4];rfl);go_wp2_with fail;go_ret;exact ⟨congrArg (fun x:Nat=>Ending.returned (.int .i64 x)) HV.out,HWO.out⟩
abbrev LW:={ s:Nat->Nat // W64 s }
instance:Inhabited LW:=⟨⟨fun _=>0,vg⟩⟩
def cf (x y:LW):Int:=(x6 x.1:Int)-x6 y.1
def mk4 (a b c d:Nat):Nat->Nat:=fun k=>match k with|0=>a|1=>b|2=>c|3=>d|_=>0
theorem KO {a b c d:Nat} (ha:a<18446744073709551616) (hb:b<18446744073709551616) (hc:c<18446744073709551616) (hd:d<18446744073709551616):W64 (mk4 a b c d):=fun k=>by
 match k with
 |0=>exact ha
 |1=>exact hb
 |2=>exact hc
 |3=>exact hd
 |_+4=>exact xd _
theorem vN (s:Nat->Nat):x6 (mk4 (s 0) (s 1) (s 2) (s 3))=x6 s:=by simp [x6,wW,mk4]
theorem Vz (a b c d:Nat) (ha:a<18446744073709551616) (hb:b<18446744073709551616) (hc:c<18446744073709551616) (hd:d<18446744073709551616) (w:World) (hT:Hid (Tab w)) (h0:Hid (1<w.heap.size)) :
  Calls z6 65 #[.agg #[.int .u64 a,.int .u64 b,.int .u64 c,.int .u64 d]] w fun e w'=>e=.returned (.int .i64 (x6 (mk4 a b c d):Nat))∧w'=w.alloc (.cells #[.int .u64 a,.int .u64 b,.int .u64 c,.int .u64 d] 34):=by
 have h:=least_c (mk4 a b c d) (KO ha hb hc hd) w hT h0.out;rw [wh] at h;exact h
theorem Vy (a b c d:Nat) (ha:a<18446744073709551616) (hb:b<18446744073709551616) (hc:c<18446744073709551616) (hd:d<18446744073709551616) {w0 w:World} (hT:Tab w0) (h0:1<w0.heap.size) (hB:Below w0.heap.size w0 w) :
  Calls z6 65 #[.agg #[.int .u64 a,.int .u64 b,.int .u64 c,.int .u64 d]] w fun e w'=>e=.returned (.int .i64 (x6 (mk4 a b c d):Nat))∧w'=w.alloc (.cells #[.int .u64 a,.int .u64 b,.int .u64 c,.int .u64 d] 34) :=
 Vz a b c d ha hb hc hd w (zh (hT.below hB h0)) (zh (qO h0 hB.size))
theorem cmp_lit (a b c d a' b' c' d':Nat) (ha:a<18446744073709551616) (hb:b<18446744073709551616) (hc:c<18446744073709551616) (hd:d<18446744073709551616) (ha':a'<18446744073709551616) (hb':b'<18446744073709551616) (hc':c'<18446744073709551616) (hd':d'<18446744073709551616)
  (hl:x6 (mk4 a b c d)<=256) (hl':x6 (mk4 a' b' c' d')<=256) (w:World) (HT:Hid (Tab w)) (h0:1<w.heap.size) :
  Calls z6 64 #[.agg #[.int .u64 a,.int .u64 b,.int .u64 c,.int .u64 d],.agg #[.int .u64 a',.int .u64 b',.int .u64 c',.int .u64 d']] w fun e w'=>e=.returned (.int .i64 ((x6 (mk4 a b c d):Nat)-(x6 (mk4 a' b' c' d'):Nat):Int))∧∃ q os,w'=Sort.grow (w.drewN q) os:=by
 go_enter Tryd.func64,Tryd.ntmps64;go_wp2_with fail
 go_region_with (go_at_call 65;refine (Vy _ _ _ _ (by assumption) (by assumption) (by assumption) (by assumption) HT.out h0 (by repeat (first|exact Below.refl _ _|refine Below.drew ?_|refine Below.alloc ?_ (by first|(simp;done)|(simp;omega)) _))).mono ?_;rintro e w' ⟨rfl,rfl⟩)
 all_goals go_wp2_with fail
 all_goals go_ret
 all_goals refine ⟨?_,1,_,by rw [Sort.alloc_eq_grow,Sort.alloc_eq_grow,Sort.alloc_eq_grow,Sort.alloc_eq_grow,Sort.grow_grow,Sort.grow_grow,Sort.grow_grow];rfl⟩
 all_goals simp [Act.put]
 all_goals exact IntWalk.i64_in _ (by omega)
theorem cmp_c (x y:LW) (w:World) (HT:Hid (Tab w)) (h0:1<w.heap.size):Calls z6 64 #[.agg (AV x.1),.agg (AV y.1)] w fun e w'=>e=.returned (.int .i64 (cf x y))∧∃ q os,w'=Sort.grow (w.drewN q) os:=by
 have h:=cmp_lit (x.1 0) (x.1 1) (x.1 2) (x.1 3) (y.1 0) (y.1 1) (y.1 2) (y.1 3) (x.2 0) (x.2 1) (x.2 2) (x.2 3) (y.2 0) (y.2 1) (y.2 2) (y.2 3) (by rw [vN];exact WY _ x.2) (by rw [vN];exact WY _ y.2) w HT h0;rw [vN,vN] at h;rw [wh,wh];exact h
end
end Go.Proofs.YtminpdngkjlehaaDoor
section
namespace Go.Proofs
open Go.Shelf
def Tryd.sortL_ren:Go.Shelf.Ren:=⟨fun|6=>63|15=>81|14=>80|28=>97|29=>98|20=>89|21=>90|22=>91|23=>92|24=>93|25=>94|26=>95|27=>96|46=>101|47=>102|48=>103|49=>104|50=>105|57=>108|n=>n,fun|22=>76|24=>34|25=>125|3=>3|39=>128|0=>0|53=>136|55=>32|4=>4|46=>145|45=>144|50=>87|5=>5|9=>9|66=>153|70=>157|76=>160|77=>161|n=>n,fun|n=>n⟩
theorem Tryd.sortL:Go.Proofs.SlLaysF0.n6 z6 Tryd.sortL_ren:={
 mixed:=by kernel_rfl
 f6:=⟨Tryd.f63.name,by decide,Tryd.func63.trans (congrArg some (by kernel_rfl))⟩
 f14:=⟨Tryd.f80.name,by decide,Tryd.func80.trans (congrArg some (by kernel_rfl))⟩
 f15:=Tryd.func81.trans (congrArg some (by kernel_rfl))
 f20:=⟨Tryd.f89.name,by decide,Tryd.func89.trans (congrArg some (by kernel_rfl))⟩
 f21:=⟨Tryd.f90.name,by decide,Tryd.func90.trans (congrArg some (by kernel_rfl))⟩
 f22:=⟨Tryd.f91.name,by decide,Tryd.func91.trans (congrArg some (by kernel_rfl))⟩
 f23:=⟨Tryd.f92.name,by decide,Tryd.func92.trans (congrArg some (by kernel_rfl))⟩
 f24:=⟨Tryd.f93.name,by decide,Tryd.func93.trans (congrArg some (by kernel_rfl))⟩
 f25:=⟨Tryd.f94.name,by decide,Tryd.func94.trans (congrArg some (by kernel_rfl))⟩
 f26:=⟨Tryd.f95.name,by decide,Tryd.func95.trans (congrArg some (by kernel_rfl))⟩
 f27:=⟨Tryd.f96.name,by decide,Tryd.func96.trans (congrArg some (by kernel_rfl))⟩
 f28:=Tryd.func97.trans (congrArg some (by kernel_rfl))
 f29:=Tryd.func98.trans (congrArg some (by kernel_rfl))
 f46:=⟨Tryd.f101.name,by decide,Tryd.func101.trans (congrArg some (by kernel_rfl))⟩
 f47:=Tryd.func102.trans (congrArg some (by kernel_rfl))
 f48:=Tryd.func103.trans (congrArg some (by kernel_rfl))
 f49:=⟨Tryd.f104.name,by decide,Tryd.func104.trans (congrArg some (by kernel_rfl))⟩
 f50:=⟨Tryd.f105.name,by decide,Tryd.func105.trans (congrArg some (by kernel_rfl))⟩
 f57:=⟨Tryd.f108.name,by decide,Tryd.func108.trans (congrArg some (by kernel_rfl))⟩
 t0:=Tryd.underlying0
 a0:=Tryd.isAgg0
 z0:=Tryd.sizeOf0
 v0:=Tryd.zeroValue0
 t3:=X1
 a3:=Tryd.isAgg3
 z3:=Tryd.sizeOf3
 v3:=Tryd.zeroValue3
 t4:=Tryd.underlying4
 a4:=Tryd.isAgg4
 z4:=Tryd.sizeOf4
 v4:=Tryd.zeroValue4
 t5:=Tryd.underlying5
 a5:=Tryd.isAgg5
 z5:=Tryd.sizeOf5
 v5:=Tryd.zeroValue5
 t9:=X2
 a9:=Tryd.isAgg9
 z9:=Tryd.sizeOf9
 v9:=YW
 t22:=kg
 a22:=Tryd.isAgg76
 z22:=Tryd.sizeOf76
 v22:=Tryd.zeroValue76
 t25:=Tryd.underlying125
 a25:=Tryd.isAgg125
 z25:=Tryd.sizeOf125
 v25:=Tryd.zeroValue125
 t39:=Tryd.underlying128
 a39:=Tryd.isAgg128
 z39:=Tryd.sizeOf128
 v39:=Tryd.zeroValue128
 t45:=Tryd.underlying144
 a45:=Tryd.isAgg144
 z45:=Tryd.sizeOf144
 v45:=Tryd.zeroValue144
 t46:=Tryd.underlying145
 a46:=Tryd.isAgg145
 z46:=Tryd.sizeOf145
 v46:=Tryd.zeroValue145
 t50:=Tryd.underlying87
 a50:=Tryd.isAgg87
 z50:=Tryd.sizeOf87
 v50:=Tryd.zeroValue87
 t53:=Tryd.underlying136
 a53:=Tryd.isAgg136
 z53:=Tryd.sizeOf136
 v53:=Tryd.zeroValue136
 t55:=Tryd.underlying32
 a55:=Tryd.isAgg32
 z55:=Tryd.sizeOf32
 v55:=Tryd.zeroValue32
 t66:=Tryd.underlying153
 a66:=Tryd.isAgg153
 z66:=Tryd.sizeOf153
 v66:=Tryd.zeroValue153
 t70:=Tryd.underlying157
 a70:=Tryd.isAgg157
 z70:=Tryd.sizeOf157
 v70:=Tryd.zeroValue157
 t76:=Tryd.underlying160
 a76:=Tryd.isAgg160
 z76:=Tryd.sizeOf160
 v76:=Tryd.zeroValue160
 t77:=Tryd.underlying161
 a77:=Tryd.isAgg161
 z77:=Tryd.sizeOf161
 v77:=Tryd.zeroValue161 }
end Go.Proofs
end
namespace Go.Proofs.YtminpdngkjlehaaDoor
section
open Go.RowKit Go.Shelf
def yM (x:LW):List Value:=(AV x.1).toList
theorem xe (x:LW):(yM x).length=4:=by simp [yM,qB]
theorem WI (x:LW):∀ v∈yM x,v.oneCell'=true:=by
 intro v hv;have:=Array.all_eq_true_iff_forall_mem.1 (ws x.1) v (by simpa [yM] using hv);exact this
theorem Zv (x:LW):(yM x).toArray=AV x.1:=by simp [yM]
theorem KJ (x y:LW):ltOf cf x y=decide (x6 x.1<x6 y.1):=by
 unfold ltOf cf;rw [q5];simp;omega
theorem swo_cf:Sort.SWO (ltOf cf) where
 irrefl x:=by rw [KJ];simp
 trans x y z h1 h2:=by rw [KJ] at *;simp at *;omega
 ntrans x y z h1 h2:=by rw [KJ] at *;simp at *;omega
theorem QF {B:Nat} (w:World) (blk off n:Nat) (d:Array LW) (os:Array Obj) (hB:B<=blk) (hblk:blk<w.heap.size):Below B w (sortWorldK yM 4 w blk off n d os):=by
 refine ⟨rfl,rfl,rfl,?_,fun k hk=>?_⟩
 ·unfold sortWorldK Sort.grow Sort.putRowK;simp
 ·unfold sortWorldK Sort.grow Sort.putRowK Sort.putRow Sort.mapBlock;simp only [Sort.heap_ahead];rw [Array.getElem?_append_left (by simp;omega),Z4,if_neg (by omega)]
theorem sort_c (d:Array LW) (blk off cap:Nat) (w:World) (hT:Tab w) (h0:1<blk) (hH:Sort.HoldsK yM 4 w blk off d) (hblk:blk<w.heap.size) (hsz:d.size<1000) :
  Calls z6 63 #[.slice (some ⟨blk,off,none⟩) d.size cap,.func (.func 64) #[] #[]] w fun e w'=>e=.returned (.tuple #[]) ∧
   ∃ d',Sort.PermIn 0 d.size d d'∧Sort.SortedIn (ltOf cf) 0 d.size d'∧Sort.HoldsK yM 4 w' blk off d'∧∀ B,B<=blk->Below B w w':=by
 have eg:∀ args w,(callFunc 64 args).run z6 w=.ok (.enter 64 args) w:=enters_of Tryd.func64 (by kernel_rfl) rfl;have hc:CmpLays z6 64 #[] yM 4 cf blk off d.size w:=fun m os dk hdk x y=>by
  have hb:=QF (B:=blk) w blk off m dk os (zp _) hblk;have:=cmp_c x y (sortWorldK yM 4 w blk off m dk os) (zh (hT.below hb h0)) (by have:=hb.size;omega);rw [Zv,Zv];exact this
 have hcon:=AnyQ.slices_SortFunc Tryd.sortL 4 Tryd.isAgg34 Tryd.sizeOf34 yM xe WI cf swo_cf 64 #[] blk off cap d w eg hc hH hblk (by omega);change Calls z6 63 _ _ _ at hcon
 refine hcon.mono fun e w' ⟨he,d',n,os,h1,h2,h3⟩=>⟨he,d',h1,h2,?_,fun B hB=>by rw [h3];exact QF w blk off n d' os hB hblk⟩
 rw [h3];refine Sort.holdsK_grow _ _ _ _ _ _ _ (by unfold Sort.putRowK;simp;exact hblk) (Sort.holdsK_putRowK _ _ _ _ _ _ _ (Sort.holdsK_ahead _ _ _ _ _ _ _ hH) h1.1)
end
section
open Go.RowKit
attribute [local go_sem] jQ jp jK
theorem Js {w:World} {g:Nat} {xs:Array Value} {t:TypeId} (h:w.heap[g]?=some (.cells xs t)):∀ j u,xs.toList[j]?=some u->w.cell? ((⟨g,0,none⟩:Addr).add j)=some u:=by
 intro j u hj;have hadd:(⟨g,0,none⟩:Addr).add j=⟨g,j,none⟩:=(by unfold Addr.add;split <;> simp_all);rw [hadd,cell_of_row w g j _ _ _ h];simpa using hj
def mt (p s:LW):LW:=⟨vU p.1 s.1,andW_W64 p.2 _⟩
def mn (p s:LW):LW:=⟨ZQ p.1 s.1,subW_W64 p.2 _⟩
def PQ (p s:LW):Nat->LW
 |0=>mt p s
 |_=>mn p s
def wb (p s:LW):Nat->List LW
 |0=>[]
 |j+1=>wb p s j++(if 0<cnt (bit (PQ p s j).1) 256 then [PQ p s j] else [])
def pc (p s:LW):List LW:=wb p s 2
theorem pcTo_two (p s:LW):wb p s 2=pc p s:=rfl
theorem pcTo_yes {p s:LW} {j:Nat} (h:0<cnt (bit (PQ p s j).1) 256):wb p s (j+1)=wb p s j++[PQ p s j]:=by rw [wb,if_pos h]
theorem pcTo_no {p s:LW} {j:Nat} (h:¬ 0<cnt (bit (PQ p s j).1) 256):wb p s (j+1)=wb p s j:=by rw [wb,if_neg h,xH]
theorem J8 (p s:LW) (j:Nat):(wb p s j).length<=j:=by
 induction j with
 |zero=>exact zp _
 |succ j ih =>
  rw [wb,zN];split
  ·simp;omega
  ·simp;omega
def nx (L:List LW) (s:LW) (k:Nat):List LW:=(L.take k).flatMap fun p=>pc p s
def stp (s:LW) (L:List LW):List LW:=L.flatMap fun p=>pc p s
theorem nx_all (L:List LW) (s:LW):nx L s L.length=stp s L:=by simp [nx,stp]
theorem KX {L:List LW} {s p:LW} {k:Nat} (h:L[k]?=some p):nx L s (k+1)=nx L s k++pc p s:=by
 obtain ⟨h1,h2⟩:=zy.1 h;unfold nx;rw [jh h1,List.flatMap_append,h2];simp
theorem nx_len {L:List LW} {s:LW} {k j:Nat} (hk:k<=L.length) (hj:j<=2) (hn:L.length<=256) (p:LW):(nx L s k++wb p s j).length<=1000:=by
 have h1:∀ k,(nx L s k).length<=2*k:=by
  intro k;induction k with
  |zero=>simp [nx]
  |succ k ih =>
   cases h:L[k]? with
   |none =>
    have:L.length<=k:=yh.1 h;have e:nx L s (k+1)=nx L s k:=(by unfold nx;rw [zM (by omega),zM this]);rw [e];omega
   |some q=>rw [KX h,zN];have:=J8 q s 2;unfold pc;omega
 have:=h1 k;have:=J8 p s j;rw [zN];omega
def X3:LW:=⟨btw 0 256,j6 _ _⟩
def parts (S:List LW):List LW:=S.foldl (fun L s=>stp s L) [X3]
theorem JX {S:List LW} {s:LW} {i:Nat} (h:S[i]?=some s):parts (S.take (i+1))=stp s (parts (S.take i)):=by
 obtain ⟨h1,h2⟩:=zy.1 h;unfold parts;rw [jh h1,jf,h2];rfl
def PV (a b:Nat->Nat):Array Value:=#[.int .u64 (a 0),.int .u64 (a 1),.int .u64 (a 2),.int .u64 (a 3),.int .u64 (b 0),.int .u64 (b 1),.int .u64 (b 2),.int .u64 (b 3)]
theorem Ww (a0 a1 a2 a3 b0 b1 b2 b3:Int) (w:World):(Instr.build 122 #[(0,.agg #[.int .u64 a0,.int .u64 a1,.int .u64 a2,.int .u64 a3]),(1,.agg #[.int .u64 b0,.int .u64 b1,.int .u64 b2,.int .u64 b3])]).run z6 w=.ok (.agg #[.int .u64 a0,.int .u64 a1,.int .u64 a2,.int .u64 a3,.int .u64 b0,.int .u64 b1,.int .u64 b2,.int .u64 b3]) w :=
 run_build w 122 _ _ (by kernel_rfl)
theorem build36 (a b:Nat->Nat) (w:World):(Instr.build 122 #[(0,.agg (AV a)),(1,.agg (AV b))]).run z6 w=.ok (.agg (PV a b)) w:=by
 rw [wh,wh];exact Ww _ _ _ _ _ _ _ _ w
theorem Vu (a0 a1 a2 a3 b0 b1 b2 b3:Int) (w:World):(Instr.index 122 (.agg #[.int .u64 a0,.int .u64 a1,.int .u64 a2,.int .u64 a3,.int .u64 b0,.int .u64 b1,.int .u64 b2,.int .u64 b3]) (.int .i64 0)).run z6 w=.ok (.agg #[.int .u64 a0,.int .u64 a1,.int .u64 a2,.int .u64 a3]) w:=by kernel_rfl
theorem Vv (a0 a1 a2 a3 b0 b1 b2 b3:Int) (w:World):(Instr.index 122 (.agg #[.int .u64 a0,.int .u64 a1,.int .u64 a2,.int .u64 a3,.int .u64 b0,.int .u64 b1,.int .u64 b2,.int .u64 b3]) (.int .i64 1)).run z6 w=.ok (.agg #[.int .u64 b0,.int .u64 b1,.int .u64 b2,.int .u64 b3]) w:=by kernel_rfl
theorem index36 (p s:LW) (j:Nat) (hj:j<2) (w:World):(Instr.index 122 (.agg (PV (vU p.1 s.1) (ZQ p.1 s.1))) (.int .i64 j)).run z6 w=.ok (.agg (AV (PQ p s j).1)) w:=by
 have:j=0∨j=1:=by omega
 rcases this with rfl|rfl
 ·rw [wh];exact Vu _ _ _ _ _ _ _ _ w
 ·rw [wh];exact Vv _ _ _ _ _ _ _ _ w
theorem VG {P:Program} {ops:Array Oper} {o:Oper} {a:Act} {w:World} {R:Value->World->Prop} (hgd:Region.wanted o (yielded ops a.tmps)=true) (t:TypeId) (x y:Operand) (ho:o.op=.build t #[(0,x),(1,y)])
  (ps:Array (Nat×Value)) (hx:#[(0,a.eval x),(1,a.eval y)]=ps) (v:Value) (hr:(Instr.build t ps).run P w=.ok v w) (h:R v w):jQ P ops o a w R false:=by
 unfold jQ;rw [if_pos hgd];unfold jp execOp;simp only [ho,jt,qU,k6,hx,hr,Sem.run_bind,Sem.run_pure,Result.andThen_ok];exact ⟨Below.refl _ _,h,fun h=>by cases h⟩
attribute [irreducible] PV PQ
abbrev kT (w:World) (B:Nat) (v:Value) (L:List LW):Prop:=w.ownsRow B 34 4 v L.length (zX yM L)
theorem info26:(z6.info? 34).map (fun i=>(i.zero,i.size,i.bytes))=some (some (.agg (AV fun _=>0)),4,32):=by rw [wh];kernel_rfl
theorem WT:(z6.info? 34).map (·.size)=some 4:=by have:=i26 fun _=>0;rwa [qB] at this
theorem YA {w w':World} {B:Nat} {v:Value} {L:List LW} (h:kT w B v L) (hg:Below w.heap.size w w'):kT w' B v L :=
 h.kept (row:=none) ⟨hg.os,hg.tape,hg.output,hg.size,fun k hk _=>hg.block k hk⟩ (by cases v.ownBlock <;> simp)
theorem JW {w:World} {B B':Nat} {v:Value} {L:List LW} (h:kT w B' v L) (hB:B<=B'):kT w B v L :=
 ⟨h.1,h.2.imp id fun ⟨g,cap,cur,h1,h2,h3⟩=>⟨g,cap,cur,h1,qs hB h2,h3⟩⟩
def Rd4 (w:World) (v:Value) (S:List LW):Prop :=
 (S=[]∧∃ a cap,v=.slice a 0 cap)∨∃ b o cap,v=.slice (some ⟨b,o,none⟩) S.length cap∧b<w.heap.size∧∀ i x,S[i]?=some x->w.rangeAt b (o+i*4) (yM x)
theorem VH {w:World} {B g cap:Nat} {L:List LW} (h:kT w B (.slice (some ⟨g,0,none⟩) L.length cap) L) (i:Nat) (x:LW) (hi:L[i]?=some x):w.rangeAt g (i*4) (yM x):=by
 intro j u hj;have hj4:j<4:=(by have:=(zy.1 hj).1;rwa [xe] at this);have hi':=(zy.1 hi).1;rw [h.cellAt (i*4+j) (by have:=kV 4 (show i+1<=L.length from hi');omega),wV yM 4 xe L i x hi j hj4];exact hj
theorem XB {w:World} {B:Nat} {v:Value} {L:List LW} (h:kT w B v L) (hL:0<L.length):∃ g cap,v=.slice (some ⟨g,0,none⟩) L.length cap∧B<=g∧g<w.heap.size:=by
 obtain ⟨hl,(⟨rfl,hn⟩|⟨g,cap,cur,rfl,hb,hc,hx⟩)⟩:=h
 ·omega
 ·exact ⟨g,cap,rfl,hb,lt_of_block hc⟩
theorem flatK_eq (L:List LW):(Sort.flatK yM 4 L.toArray).toList=zX yM L:=by
 apply yF;intro t;by_cases h:t<L.length*4
 ·have h4:t/4<L.length:=(by omega);have hx:L[t/4]?=some L[t/4]:=zg h4;have hf:=wV yM 4 xe L (t/4) _ hx (t%4) (by omega);rw [show t/4*4+t%4=t by omega] at hf;rw [hf];have hs:t<(Sort.flatK yM 4 L.toArray).size:=(by simp;exact h);have h1:=Sort.get_flatK yM 4 L.toArray t (by simpa using h);have hl:t%4<(yM L[t/4]).length:=(by rw [xe];omega);rw [Zn,Array.getElem?_eq_getElem hs,zg hl];congr 1
  rw [getElem!_pos _ t hs] at h1;rw [h1];simp [h4,hl]
 ·rw [zu (by simp;omega),zu (by rw [qz yM 4 xe];omega)]
theorem Vs {w:World} {B g cap:Nat} {L:List LW} (h:kT w B (.slice (some ⟨g,0,none⟩) L.length cap) L):Sort.HoldsK yM 4 w g 0 L.toArray:=by
 intro j hj;have hj4:j<L.length*4:=(by simpa using hj);refine ⟨?_,h.frozenAt _⟩;rw [qA,h.cellAt j hj4,← flatK_eq,Zn,Array.getElem?_eq_getElem hj,getElem!_pos _ j hj];rfl
theorem Kd {w:World} {g cap:Nat} {L:List LW} {d':Array LW} (hp:Sort.PermIn 0 L.toArray.size L.toArray d') (hs:Sort.SortedIn (ltOf cf) 0 L.toArray.size d') (hh:Sort.HoldsK yM 4 w g 0 d') (hg:g<w.heap.size) :
  ∃ M,M.Perm L∧(∀ (i j:Nat) (x y:LW),i<j->M[i]?=some x->M[j]?=some y->x6 x.1<=x6 y.1)∧Rd4 w (.slice (some ⟨g,0,none⟩) L.toArray.size cap) M:=by
 obtain ⟨h1,_,h2⟩:=hp;refine ⟨d'.toList,?_,?_,.inr ⟨g,0,cap,by simp [h1],hg,?_⟩⟩
 ·rw [← h1] at h2;rw [Array.extract_size] at h2;rw [h1,Array.extract_size] at h2;exact h2
 ·intro i j x y hij hx hy;have hi:=(zy.1 hx)
  have hj:=(zy.1 hy)
  have:=hs i j (zH _) hij (by rw [← h1];simpa using hj.1);rw [KJ] at this;have e1:d'[i]! = x:=(by rw [getElem!_pos d' i (by simpa using hi.1),← hi.2];simp);have e2:d'[j]! = y:=(by rw [getElem!_pos d' j (by simpa using hj.1),← hj.2];simp);rw [e1,e2] at this;simp at this;omega
 ·intro i x hi j u hj;have hi':=(zy.1 hi)
  have hj4:j<4:=(by have:=(zy.1 hj).1;rwa [xe] at this);have hsz:i<d'.size:=(by simpa using hi'.1);have:=(hh (i*4+j) (by simp;omega)).1;rw [Sort.get_flatK yM 4 d' (i*4+j) (by omega)] at this;have e1:d'[(i*4+j)/4]! = x:=(by rw [show (i*4+j)/4=i by omega,getElem!_pos d' i hsz,← hi'.2];simp);rw [e1,show (i*4+j)%4=j by omega] at this;rw [show 0+i*4+j=0+(i*4+j) by omega,this];have hl:j<(yM x).length:=(by rw [xe];exact hj4);rw [zg hl] at hj;cases hj
  simp [hl]
structure Mt (w0:World) (B:Nat) (v3:Value) (L:List LW) (S:Nat) (s:Nat->Nat) (B2:Nat) (v6:Value) (N:List LW) (wr:World):Prop where
 own3:kT wr B v3 L
 lt3:∀ k,v3.ownBlock=some k->k<B2
 own6:kT wr B2 v6 N
 set:wr.heap[S]?=some (.cells (AV s) 34)
 ltS:S<B2
 below:Below B w0 wr
 le:B<=B2
 size:B2<=wr.heap.size
theorem Mt.grew {w0:World} {B:Nat} {v3:Value} {L:List LW} {S:Nat} {s:Nat->Nat} {B2:Nat} {v6:Value} {M:List LW} {w w':World} (h:Mt w0 B v3 L S s B2 v6 M w) (hg:Below w.heap.size w w'):Mt w0 B v3 L S s B2 v6 M w' :=
 ⟨YA h.own3 hg,h.lt3,YA h.own6 hg,qE hg h.set,h.ltS,h.below.trans (hg.mono (by have:=h.le;have:=h.size;omega)),h.le,by have:=h.size;have:=hg.size;omega⟩
theorem Mt.added {w0:World} {B:Nat} {v3:Value} {L:List LW} {S:Nat} {s:Nat->Nat} {B2:Nat} {v6 v':Value} {M:List LW} {w wm w1:World} (h:Mt w0 B v3 L S s B2 v6 M w) (x:LW) (hg:Below w.heap.size w wm) (hg1:wm.grownBy w1 v6.ownBlock)
  (h1:w1.ownsRow B2 34 4 v' (M.length+1) (zX yM M++yM x)):Mt w0 B v3 L S s B2 v' (M++[x]) w1:=by
 have hm:=h.grew hg;have hlt:∀ k,v6.ownBlock=some k->B2<=k:=fun k hk=>(h.own6.lt k hk).1
 refine ⟨hm.own3.kept hg1 ?_,h.lt3,?_,(hg1.block S (by have:=hm.ltS;have:=hm.size;omega) (fun e=>by have:=hlt S e.symm;have:=h.ltS;omega)).trans hm.set,h.ltS,hm.below.grown hg1 (by have:=hm.le;have:=hm.size;omega) (fun k hk=>qs h.le (hlt k hk)),h.le,by have:=hm.size;have:=hg1.size;omega⟩
 ·cases h3:v3.ownBlock with
  |none=>exact .inl rfl
  |some k=>exact .inr fun e=>by have:=hlt k e.symm;have:=h.lt3 k h3;omega
 ·show w1.ownsRow B2 34 4 v' (M++[x]).length (zX yM (M++[x]))
  rw [Yq,zN];exact h1
theorem atoms_c (S0:List LW) (hS:S0.length<=1000) (HPL:Hid (∀ i,(parts (S0.take i)).length<=256∧0<(parts (S0.take i)).length)) (v0:Value) (w:World) (HR:Hid (Rd4 w v0 S0)) (HT0:Hid (Tab w)) (h00:1<w.heap.size) :
  Calls z6 49 #[v0] w fun e w'=>∃ v L,e=.returned v∧L.Perm (parts S0)∧(∀ (i j:Nat) (x y:LW),i<j->L[i]?=some x->L[j]?=some y->x6 x.1<=x6 y.1)∧Rd4 w' v L∧(∀ k,v.ownBlock=some k->w.heap.size<=k)∧Below w.heap.size w w':=by
 obtain ⟨i0,hi,hz0,hz1,hz2⟩:=info_parts info26;obtain ⟨B,hBB⟩:∃ B,B=w.heap.size:=⟨_,rfl⟩
 have HBB:=zh hBB;clear hBB;have shape:∃ ad cap,v0=.slice ad S0.length cap:=by
  rcases HR.out with ⟨rfl,a,cap,rfl⟩|⟨b,o,cap,rfl,_⟩
  ·exact ⟨a,cap,rfl⟩
  ·exact ⟨_,cap,rfl⟩
 obtain ⟨ad,cap0,rfl⟩:=shape;go_enter Tryd.func49,Tryd.ntmps49;go_wp2_with fail;refine (ZZ 0 255 (by omega) (by omega) _).mono ?_;rintro e w1 ⟨rfl,hb1⟩;have HE:Hid (Grew w w1):=zh hb1;clear hb1;go_wp2_with (first|(refine kA rfl 76 34 _ rfl _ rfl kg (i26 _) (by rw [hi];simp [hz0]) (by rw [qB];omega) (by rw [qB];omega) ?_;simp only [Act.put,zd,zj,zk])|fail);go_loopg [3,15] S0.length (fun g v i wr=>∃ q:Nat,q<=S0.length∧g=S0.length-q∧i=.int .i64 q∧Hid (kT wr B v (parts (S0.take q)))∧Hid (Below B w wr));case atStart =>
  refine ⟨0,by omega,by omega,rfl,zh ?_,zh ?_⟩
  ·show (_:World).ownsRow B 34 4 _ 1 (zX yM [X3])
   have h:=World.ownsRow_lit (e:=34) (base:=B) (size:=4) w1 (AV (btw 0 256)) 1 (by have:=HE.out.size;have:=HBB.out;omega) (by unfold maxLen;omega) (by rw [qB]);have e:zX yM [X3]=(AV (btw 0 256)).toList:=(by simp [zX,yM,X3]);rw [e];exact h
  ·rw [HBB.out];exact HE.out.trans (wu _ _)
 case round =>
  obtain ⟨q,hq,rfl,rfl,HO,HW⟩:=hrel;clear HE;by_cases hlt:q<S0.length
  ·obtain ⟨s,hs⟩:∃ s,S0[q]?=some s:=⟨_,zg hlt⟩
   rcases HR.out with ⟨h,_⟩|⟨b,o,cap,hv,hbl,hc⟩
   ·rw [h] at hlt;simp at hlt
   ·cases hv
    have HRG:Hid (wr.rangeAt b (o+q*4) (yM s)):=zh fun j u hj=>(HW.out.cell (p:=⟨b,o+q*4+j,none⟩) (by rw [HBB.out];exact hbl)).trans (hc q s hs j u hj)
    clear hc;have HSQ:=zh hs;clear hs;obtain ⟨L,hL⟩:∃ L,L=parts (S0.take q):=⟨_,rfl⟩
    rw [← hL] at HO;have hln:Hid (L.length<=256):=zh (by rw [hL];exact (HPL.out q).1);have hln2:=hln.out;have hlpos:0<L.length:=(by rw [hL];exact (HPL.out q).2);have HLL:=zh hL;clear hL;obtain ⟨g3,cap3,hv3,hBg,hg3⟩:=XB HO.out hlpos;subst hv3;go_wp2_with (first|(refine wpList_load_mid rfl 34 _ rfl _ _ rfl _ _ HRG.out zF rfl (by rw [xe];exact WT) ?_;simp only [Act.put,zd,zj,zk,Zv])|(refine qT rfl 34 rfl _ z26 ?_;simp only [Act.put,zd,zj,zk])|(refine qr rfl 34 _ _ rfl _ rfl _ rfl _ _ (qS _ _ _ rfl) (i26 _) (by simp only [qB]) (ws _) ?_;rw [yQ _ _ _ _ _ rfl];simp only [Act.put,zd,zj,zk])|fail);obtain ⟨S,hS1⟩:∃ S,S=wr.heap.size:=⟨_,rfl⟩
    have HM:Hid (Mt w B (.slice (some ⟨g3,0,none⟩) L.length cap3) L S s.1 (S+1) (.slice none 0 0) (nx L s 0) (wr.alloc (.cells (AV s.1) 34))):=zh
     ⟨HO.out.alloc _,fun k hk=>by (cases hk;show g3<S+1;omega),World.ownsRow_nil _ _ _ _,qS _ _ _ hS1,Nat.lt_succ_self _,HW.out.trans ((wu _ _).mono (by have:=HW.out.size;omega)),by omega,by simp;omega⟩
    rw [← hS1];generalize wr.alloc (.cells (AV s.1) 34)=w3 at HM ⊢;clear hS1 HO HW HRG;obtain ⟨B2,hB2⟩:∃ B2,B2=S+1:=⟨_,rfl⟩
    rw [← hB2] at HM;clear hB2;try rw [show decide ((q:Int)<(S0.length:Int))=true by simp;omega]
    go_loopg [6,21] L.length (fun g v i wr=>∃ k:Nat,k<=L.length∧g=L.length-k∧i=.int .i64 k∧Hid (Mt w B (.slice (some ⟨g3,0,none⟩) L.length cap3) L S s.1 B2 v (nx L s k) wr));case atStart=>exact ⟨0,by omega,by omega,rfl,HM⟩
    case round =>
     clear HM;obtain ⟨k,hk,rfl,rfl,HM⟩:=hrel;by_cases hkl:k<L.length
     ·obtain ⟨p,hp⟩:∃ p,L[k]?=some p:=⟨_,zg hkl⟩
      have HRP:Hid (wr.rangeAt g3 (k*4) (yM p)):=zh (VH HM.out.own3 k p hp);have hk2:=zh hp;clear hp;go_wp2_with (first|(refine wpList_load_mid rfl 34 _ rfl _ _ rfl _ _ HRP.out zF rfl (by rw [xe];exact WT) ?_;simp only [Act.put,zd,zj,zk,Zv])|(refine qT rfl 34 rfl _ z26 ?_;simp only [Act.put,zd,zj,zk])|(refine qr rfl 34 _ _ rfl _ rfl _ rfl _ _ (qS _ _ _ rfl) (i26 _) (by simp only [qB]) (ws _) ?_;rw [yQ _ _ _ _ _ rfl];simp only [Act.put,zd,zj,zk])|fail);obtain ⟨Pb,hPb⟩:∃ Pb,Pb=wr.heap.size:=⟨_,rfl⟩
      have HP:=zh (qS wr (.cells (AV p.1) 34) Pb hPb);have HM:=zh (HM.out.grew (wu wr (.cells (AV p.1) 34)));rw [← hPb];generalize wr.alloc (.cells (AV p.1) 34)=w5 at HP HM ⊢;clear hPb HRP;refine wq 8 [IsV (.agg (AV p.1)),IsV (.agg (AV s.1)),IsV (.agg (AV (vU p.1 s.1))),IsV (.agg (AV p.1)),IsV (.agg (AV s.1)),IsV (.agg (AV (ZQ p.1 s.1))),IsV (.agg (PV (vU p.1 s.1) (ZQ p.1 s.1))),IsV (.int .i64 0)] []
       [[],[],[(0,25),(1,26)],[],[],[(3,28),(4,29)],[(2,27),(5,30)],[]] [(0,25),(1,26),(2,27),(3,28),(4,29),(5,30),(6,31),(7,32)] (by kernel_rfl) (by kernel_rfl) rfl ?stable ⟨?o0,?o1,?o2,?o3,?o4,?o5,?o6,?o7,trivial⟩ ?fin
      case stable=>exact ⟨IsV.stable _,IsV.stable _,IsV.stable _,IsV.stable _,IsV.stable _,IsV.stable _,IsV.stable _,IsV.stable _,trivial⟩
      case o0 =>
       intro vals w' hg hd;clear hd;simp only [xC,zY];exact xA (by rfl) _ _ rfl _ rfl _ _ _ _ (qE hg HP.out) zF rfl (i26 _) (yX _ _)
      case o1 =>
       intro vals w' hg hd;clear hd;simp only [xC,zY];exact xA (by rfl) _ _ rfl _ rfl _ _ _ _ (qE hg HM.out.set) zF rfl (i26 _) (yX _ _)
      case o2 =>
       intro vals w' hg hd;have h0:vals 0=.agg (AV p.1):=hd.1;have h1:vals 1=.agg (AV s.1):=hd.2.1;clear hd;simp only [xC,zY,zQ,Act.put,zd,zj,zk,h0,h1];clear hg h0 h1;go_simp;exact (meet_c p.1 s.1 p.2 s.2 w').mono fun e w2 ⟨he,hb⟩=>⟨_,he,hb,yX _ _⟩
      case o3 =>
       intro vals w' hg hd;clear hd;simp only [xC,zY];exact xA (by rfl) _ _ rfl _ rfl _ _ _ _ (qE hg HP.out) zF rfl (i26 _) (yX _ _)
      case o4 =>
       intro vals w' hg hd;clear hd;simp only [xC,zY];exact xA (by rfl) _ _ rfl _ rfl _ _ _ _ (qE hg HM.out.set) zF rfl (i26 _) (yX _ _)
      case o5 =>
       intro vals w' hg hd;have h3:vals 3=.agg (AV p.1):=hd.1;have h4:vals 4=.agg (AV s.1):=hd.2.1;clear hd;simp only [xC,zY,zQ,Act.put,zd,zj,zk,h3,h4];clear hg h3 h4;go_simp;exact (minus_c p.1 s.1 p.2 s.2 w').mono fun e w2 ⟨he,hb⟩=>⟨_,he,hb,yX _ _⟩
      case o6 =>
       intro vals w' hg hd;have h2:vals 2=.agg (AV (vU p.1 s.1)):=hd.1;have h5:vals 5=.agg (AV (ZQ p.1 s.1)):=hd.2.1;clear hd;simp only [xC,zY,zQ,Act.put,zd,zj,zk,h2,h5];exact VG (by rfl) 122 _ _ rfl _ rfl _ (build36 _ _ _) (yX _ _)
      case o7 =>
       intro vals w' hg hd;clear hd;simp only [xC,zY];clear hg;go_simp;try go_bits
       exact yX _ _
      case fin =>
       intro vals w' hg hd hfresh;have h0:vals 0=.agg (AV p.1):=hd.1;have h1:vals 1=.agg (AV s.1):=hd.2.1;have h2:vals 2=.agg (AV (vU p.1 s.1)):=hd.2.2.1;have h3:vals 3=.agg (AV p.1):=hd.2.2.2.1;have h4:vals 4=.agg (AV s.1):=hd.2.2.2.2.1;have h5:vals 5=.agg (AV (ZQ p.1 s.1)):=hd.2.2.2.2.2.1;have h6:vals 6=.agg (PV (vU p.1 s.1) (ZQ p.1 s.1)):=hd.2.2.2.2.2.2.1;have h7:vals 7=.int .i64 0:=hd.2.2.2.2.2.2.2.1;clear hd;simp only [xC,zY,zQ,Act.put,zd,zj,zk,wO,y8,h0,h1,h2,h3,h4,h5,h6,h7];have HM:=zh (HM.out.grew hg);clear hg hfresh HP h0 h1 h2 h3 h4 h5 h6 h7;go_wp2_with fail;try rw [show decide ((k:Int)<(L.length:Int))=true by simp;omega]
       go_loopg [6,32] 2 (fun g v j wr=>∃ j0:Nat,j0<=2∧g=2-j0∧j=.int .i64 j0∧Hid (Mt w B (.slice (some ⟨g3,0,none⟩) L.length cap3) L S s.1 B2 v (nx L s k++wb p s j0) wr));case atStart=>exact ⟨0,by omega,by omega,rfl,zh (by rw [show wb p s 0=[] from rfl,xH];exact HM.out)⟩
       case round =>
        clear HM;obtain ⟨j,hj,rfl,rfl,HM⟩:=hrel;by_cases hj2:j<2
        ·have hidx:=fun w=>index36 p s j hj2 w
         go_wp2_with (first|(refine qT rfl 34 rfl _ z26 ?_;simp only [Act.put,zd,zj,zk])|(refine qr rfl 34 _ _ rfl _ rfl _ rfl _ _ (qS _ _ _ rfl) (i26 _) (by simp only [qB]) (ws _) ?_;rw [yQ _ _ _ _ _ rfl];simp only [Act.put,zd,zj,zk])|(refine wpList_load_row rfl 34 _ rfl _ rfl _ _ _ _ (qS _ _ _ rfl) zF rfl (i26 _) ?_;simp only [Act.put,zd,zj,zk])|fail);clear hidx;have HT:=zh (qS wr (.cells (AV (PQ p s j).1) 34) _ rfl);have HM:=zh (HM.out.grew (wu wr (.cells (AV (PQ p s j).1) 34)));obtain ⟨T,hT⟩:∃ T,T=wr.heap.size:=⟨_,rfl⟩
         rw [← hT] at HT ⊢;generalize wr.alloc (.cells (AV (PQ p s j).1) 34)=w6 at HT HM ⊢;clear hT;refine (len_c (PQ p s j).1 (PQ p s j).2 _).mono ?_;rintro e w7 ⟨rfl,hb7⟩;have HT:=zh (qE hb7 HT.out);have HM:=zh (HM.out.grew hb7);clear hb7;obtain ⟨c,hc⟩:∃ c,c=cnt (bit (PQ p s j).1) 256:=⟨_,rfl⟩
         rw [← hc];have hcb:c<=256:=(by rw [hc];exact XQ _ _);have HC:=zh hc;clear hc;by_cases hpos:0<c
         ·have HN:Hid (wb p s (j+1)=wb p s j++[PQ p s j]):=zh (pcTo_yes (by rw [← HC.out];exact hpos));have hnl:(nx L s k++wb p s j).length<=1000:=nx_len hk hj hln.out p;have hsz:=HM.out.size;go_wp2_with (first|(refine wpList_load_row rfl 34 _ rfl _ rfl _ _ _ _ HT.out zF rfl (i26 _) ?_;simp only [Act.put,zd,zj,zk])|(refine kA rfl 76 34 _ rfl _ rfl kg (i26 _) (by rw [hi];simp [hz0]) (by rw [qB];omega) (by rw [qB];omega) ?_;simp only [Act.put,zd,zj,zk])|(at_builtin;refine wpList_append_own _ rfl _ _ 76 rfl B2 34 i0 (.agg (AV fun _=>0)) 4 32 kg hi hz0 hz1 hz2 (qB _) (by decide) u6 (nx L s k++wb p s j).length (zX yM (nx L s k++wb p s j)) rfl (HM.out.own6.alloc _) ⟨w7.heap.size,0,none⟩ 1 1 (yM (PQ p s j)) rfl (by rw [xe]) (Js (qS _ _ _ rfl)) (WI _) (by unfold maxLen;omega) (by omega) (by simp;omega) ?_;intro v8 w8 hown8 hg8 _));have HM:=zh (HM.out.added (PQ p s j) (wu _ _) hg8 hown8);clear hown8 hg8 HT;go_wp2_with fail;go_roundg (2-(j+1));case measure=>omega
          case rel=>exact ⟨j+1,by omega,rfl,by go_num,zh (by rw [HN.out,← y7];exact HM.out)⟩
         ·have HN:Hid (wb p s (j+1)=wb p s j):=zh (pcTo_no (by rw [← HC.out];exact hpos));have hc0:c<=0:=(by omega);clear HT hpos;go_wp2_with fail;go_roundg (2-(j+1));case measure=>omega
          case rel=>exact ⟨j+1,by omega,rfl,by go_num,zh (by rw [HN.out];exact HM.out)⟩
        ·have hj3:j=2:=(by omega);go_wp2_with fail;go_roundg (L.length-(k+1));case measure=>omega
         case rel=>exact ⟨k+1,by omega,rfl,by go_num,zh (by rw [KX hk2.out,← pcTo_two,← hj3];exact HM.out)⟩
     ·have hk3:k=L.length:=(by omega);have HO2:Hid (kT wr B u6 (parts (S0.take (q+1)))):=zh (by
       have h:=JW HM.out.own6 HM.out.le;rw [hk3,nx_all,HLL.out,← JX HSQ.out] at h;exact h)
      have HW2:=zh HM.out.below;go_wp2_with fail;go_roundg (S0.length-(q+1));case measure=>omega
      case rel=>exact ⟨q+1,by omega,rfl,by go_num,HO2,HW2⟩
  ·have hq2:q=S0.length:=(by omega);have HO2:Hid (kT wr B u3 (parts S0)):=zh (by have:=HO.out;rwa [hq2,vX] at this);have hpos:0<(parts S0).length:=(by have:=(HPL.out q).2;rwa [hq2,vX] at this);have hle:(parts S0).length<=256:=(by have:=(HPL.out q).1;rwa [hq2,vX] at this);obtain ⟨g3,cap3,hv3,hBg,hg3⟩:=XB HO2.out hpos;subst hv3;clear HO hq2;have HH:=zh (Vs HO2.out);have h0g:1<g3:=(by have:=HBB.out;omega);have HTr:Hid (Tab wr):=zh (HT0.out.below (B:=B) HW.out (by rw [HBB.out];exact h00));go_wp2_with fail;have hsz:(parts S0).toArray.size=(parts S0).length:=(by simp);rw [← hsz];refine (sort_c (parts S0).toArray g3 0 cap3 _ HTr.out h0g HH.out hg3 (by omega)).mono ?_;rintro e w8 ⟨rfl,d',hp,hsd,hh,hbl⟩;have HEND:Hid (∃ L,L.Perm (parts S0)∧(∀ (i j:Nat) (x y:LW),i<j->L[i]?=some x->L[j]?=some y->x6 x.1<=x6 y.1)∧Rd4 w8 (.slice (some ⟨g3,0,none⟩) (parts S0).toArray.size cap3) L):=zh (Kd hp hsd hh (by have:=(hbl B hBg).size;have:=(hbl g3 (zp _)).size;omega));have HBE:=zh (HW.out.trans (hbl B hBg));clear hp hsd hh hbl hsz;go_wp2_with fail;go_ret;obtain ⟨L,h1,h2,h3⟩:=HEND.out;exact ⟨_,L,rfl,h1,h2,h3,fun k hk=>by (cases hk;rw [← HBB.out];exact hBg),by rw [← HBB.out];exact HBE.out⟩
end
section
open Go.RowKit
theorem ctz_bit (x:Nat) (hx:x<18446744073709551616) (h0:x≠0):Lib.ctz 64 x<64∧x.testBit (Lib.ctz 64 x)=true∧∀ i,i<Lib.ctz 64 x->x.testBit i=false:=by
 have e:Lib.ctz 64 x=Lib.ctzFrom 64 x:=(by unfold Lib.ctz;rw [if_neg h0]);obtain ⟨m,hm,hl⟩:=Lib.ctzFrom_spec 64 x (Nat.pos_of_ne_zero h0) hx;rw [e];generalize Lib.ctzFrom 64 x=c at hm hl;refine ⟨hl,?_,fun i hi=>?_⟩
 ·rw [hm,Nat.testBit_two_pow_mul];simp
 ·rw [hm,Nat.testBit_two_pow_mul];simp;omega
theorem Qy (s:Nat->Nat) (hs:W64 s):∀ f k,f+k=4->(∀ b,b<64*k->bit s b=false)->(wW s f k=256∧∀ b,b<256->bit s b=false)∨(wW s f k<256∧bit s (wW s f k)=true∧∀ b,b<wW s f k->bit s b=false)
 |0,k,h,hb=>.inl ⟨rfl,fun b h1=>hb b (by omega)⟩
 |f+1,k,h,hb=>by
  unfold wW;by_cases h0:s k=0
  ·rw [if_neg (by simp [h0])];refine Qy s hs f (k+1) (by omega) fun b h1=>?_
   by_cases h2:b<64*k
   ·exact hb b h2
   ·unfold bit;rw [show b/64=k by omega,h0];simp
  ·rw [if_pos h0];obtain ⟨c1,c2,c3⟩:=ctz_bit (s k) (hs k) h0;generalize Lib.ctz 64 (s k)=c at c1 c2 c3;refine .inr ⟨by omega,?_,fun b h1=>?_⟩
   ·unfold bit;rw [show (64*k+c)/64=k by omega,show (64*k+c)%64=c by omega];exact c2
   ·by_cases h2:b<64*k
    ·exact hb b h2
    ·unfold bit;rw [show b/64=k by omega];exact c3 _ (by omega)
theorem Zb {s:Nat->Nat} (hs:W64 s) {b:Nat} (hb:b<256) (h:bit s b=true):x6 s<=b∧bit s (x6 s)=true∧∀ c,c<x6 s->bit s c=false:=by
 rcases Qy s hs 4 0 rfl (fun b h=>by omega) with ⟨_,h2⟩|⟨h1,h2,h3⟩
 ·rw [h2 b hb] at h;cases h
 ·refine ⟨?_,h2,h3⟩;rcases zD b (x6 s) with h4|h4
  ·have:=h3 b h4;rw [h] at this;cases this
  ·exact h4
theorem Zt {m:Nat->Bool}:∀ k,0<cnt m k↔∃ b,b<k∧m b=true
 |0=>by simp [cnt]
 |k+1=>by
  have ih:=Zt (m:=m) k;constructor
  ·intro h;unfold cnt at h;cases hb:m k with
   |true=>exact ⟨k,by omega,hb⟩
   |false =>
    rw [hb] at h;obtain ⟨b,h1,h2⟩:=ih.1 (by simpa using h);exact ⟨b,by omega,h2⟩
  ·rintro ⟨b,h1,h2⟩;unfold cnt;by_cases e:b=k
   ·rw [← e,h2];simp
   ·have:=ih.2 ⟨b,by omega,h2⟩;omega
def Zr (M:List (Nat->Bool)) (a b:Nat):Bool:=M.all fun m=>m a==m b
def asB (S:List LW):List (Nat->Bool):=S.map fun s=>bit s.1
theorem Jp (M:List (Nat->Bool)) (m:Nat->Bool) (a b:Nat):Zr (M++[m]) a b=(Zr M a b&&(m a==m b)):=by simp [Zr]
structure Prt (M:List (Nat->Bool)) (L:List LW):Prop where
 ne:∀ p∈L,∃ b,b<256∧bit p.1 b=true
 cls:∀ p∈L,∀ b c,b<256->c<256->bit p.1 b=true->bit p.1 c=Zr M b c
 cov:∀ b,b<256->∃ p∈L,bit p.1 b=true
 dis:L.Pairwise fun p q=>∀ b,b<256->bit p.1 b=true->bit q.1 b=false
theorem JR {p s x:LW} (h:x∈pc p s):(x=mt p s∨x=mn p s)∧∃ b,b<256∧bit x.1 b=true:=by
 unfold pc wb wb wb at h;have e0:PQ p s 0=mt p s:=(by unfold PQ;rfl);have e1:PQ p s 1=mn p s:=(by unfold PQ;rfl);rw [e0,e1] at h;simp only [z8,zt] at h;rcases h with h|h
 ·split at h
  ·rename_i hc;simp at h;subst h;exact ⟨.inl rfl,(Zt 256).1 hc⟩
  ·simp at h
 ·split at h
  ·rename_i hc;simp at h;subst h;exact ⟨.inr rfl,(Zt 256).1 hc⟩
  ·simp at h
theorem pc_mt {p s:LW} {b:Nat} (hb:b<256) (h:bit (mt p s).1 b=true):mt p s∈pc p s:=by
 unfold pc wb wb wb;have e0:PQ p s 0=mt p s:=(by unfold PQ;rfl);rw [e0,if_pos ((Zt 256).2 ⟨b,hb,h⟩)];simp
theorem pc_mn {p s:LW} {b:Nat} (hb:b<256) (h:bit (mn p s).1 b=true):mn p s∈pc p s:=by
 unfold pc wb wb wb;have e1:PQ p s 1=mn p s:=(by unfold PQ;rfl);rw [e1,if_pos ((Zt 256).2 ⟨b,hb,h⟩)];simp
theorem Yi (p s:LW) (b:Nat):bit (mt p s).1 b=(bit p.1 b&&bit s.1 b):=bit_andW _ _ _
theorem Yh (p s:LW) (b:Nat):bit (mn p s).1 b=(bit p.1 b && !bit s.1 b):=bit_subW s.2 _
theorem K0 {p s x:LW} (h:x∈pc p s) {b:Nat} (hb:bit x.1 b=true):bit p.1 b=true:=by
 rcases (JR h).1 with rfl|rfl
 ·rw [Yi,zf] at hb;exact hb.1
 ·rw [Yh,zf] at hb;exact hb.1
theorem pc_dis (p s:LW):(pc p s).Pairwise fun x y=>∀ b,b<256->bit x.1 b=true->bit y.1 b=false:=by
 unfold pc wb wb wb;have e0:PQ p s 0=mt p s:=(by unfold PQ;rfl);have e1:PQ p s 1=mn p s:=(by unfold PQ;rfl);rw [e0,e1];have key:∀ b,b<256->bit (mt p s).1 b=true->bit (mn p s).1 b=false:=by
  intro b _ h;rw [Yi,zf] at h;rw [Yh,h.2];simp
 split <;> split <;> simp
 exact key
theorem prt_stp {M:List (Nat->Bool)} {L:List LW} (h:Prt M L) (s:LW):Prt (M++[bit s.1]) (stp s L):=by
 refine ⟨fun x hx=>?_,fun x hx b c hb hc hxb=>?_,fun b hb=>?_,?_⟩
 ·obtain ⟨p,_,hxp⟩:=qP.1 hx;exact (JR hxp).2
 ·obtain ⟨p,hp,hxp⟩:=qP.1 hx;have hpb:=K0 hxp hxb;have hcl:=h.cls p hp b c hb hc hpb;rw [Jp,← hcl];rcases (JR hxp).1 with rfl|rfl
  ·rw [Yi,zf] at hxb;rw [Yi,hxb.2];cases bit s.1 c <;> simp
  ·rw [Yh,zf] at hxb;have:bit s.1 b=false:=by simpa using hxb.2
   rw [Yh,this];cases bit s.1 c <;> simp
 ·obtain ⟨p,hp,hpb⟩:=h.cov b hb;cases hsb:bit s.1 b with
  |true =>
   have:bit (mt p s).1 b=true:=by rw [Yi,hpb,hsb];rfl
   exact ⟨_,qP.2 ⟨p,hp,pc_mt hb this⟩,this⟩
  |false =>
   have:bit (mn p s).1 b=true:=by rw [Yh,hpb,hsb];rfl
   exact ⟨_,qP.2 ⟨p,hp,pc_mn hb this⟩,this⟩
 ·unfold stp;rw [List.pairwise_flatMap];refine ⟨fun p _=>pc_dis p s,h.dis.imp fun {p q} hpq x hx y hy b hb hxb=>?_⟩;have h1:=hpq b hb (K0 hx hxb);cases hyb:bit y.1 b with
  |false=>rfl
  |true=>rw [K0 hy hyb] at h1;cases h1
theorem XC (S:List LW):Prt (asB S) (parts S):=by
 have key:∀ (T:List LW) (M:List (Nat->Bool)) (L:List LW),Prt M L->Prt (M++asB T) (T.foldl (fun L s=>stp s L) L):=by
  intro T;induction T with
  |nil=>intro M L h;simpa [asB] using h
  |cons s T ih =>
   intro M L h;have:=ih _ _ (prt_stp h s);simpa [asB,y7] using this
 have h0:Prt [] [X3]:=by
  refine ⟨fun p hp=>?_,fun p hp b c hb hc h=>?_,fun b hb=>⟨X3,by simp,?_⟩,List.pairwise_singleton ..⟩
  ·simp at hp;subst hp;exact ⟨0,by omega,by unfold X3;rw [XM];rfl⟩
  ·simp at hp;subst hp;unfold X3;rw [XM];simp [Zr];omega
  ·unfold X3;rw [XM];simp;omega
 have:=key S [] [X3] h0;rwa [z8] at this
theorem V3 {M:List (Nat->Bool)} {L:List LW} (h:Prt M L):L.length<=256∧0<L.length:=by
 constructor
 ·have hn:(L.map fun p=>x6 p.1).Nodup:=by
   rw [kS,vd];have hd:=h.dis;refine List.Pairwise.imp_of_mem (R:=fun p q=>∀ b,b<256->bit p.1 b=true->bit q.1 b=false) (fun {p q} hp hq hpq he=>?_) hd;obtain ⟨b,hb,hbb⟩:=h.ne p hp;obtain ⟨c,hc,hcc⟩:=h.ne q hq;have h1:=Zb p.2 hb hbb;have h2:=Zb q.2 hc hcc;have:=hpq _ (by omega) h1.2.1;rw [he,h2.2.1] at this;cases this
  have:=(kJ (m:=256) hn (fun x hx=>by
   obtain ⟨p,hp,rfl⟩:=zC.1 hx;obtain ⟨b,hb,hbb⟩:=h.ne p hp;have:=(Zb p.2 hb hbb).1;omega)).1
  simpa using this
 ·obtain ⟨p,hp,_⟩:=h.cov 0 (by omega);exact List.length_pos_of_mem hp
theorem VI (S:List LW) (i:Nat):(parts (S.take i)).length<=256∧0<(parts (S.take i)).length:=V3 (XC _)
theorem prt_perm {M:List (Nat->Bool)} {L L':List LW} (h:Prt M L) (hp:L'.Perm L):Prt M L':=by
 refine ⟨fun p hp'=>h.ne p (hp.mem_iff.1 hp'),fun p hp'=>h.cls p (hp.mem_iff.1 hp'),fun b hb=>?_,?_⟩
 ·obtain ⟨p,h1,h2⟩:=h.cov b hb;exact ⟨p,hp.mem_iff.2 h1,h2⟩
 ·refine hp.symm.pairwise h.dis fun {x y} hxy b hb hy=>?_
  cases hx:bit x.1 b with
  |false=>rfl
  |true=>rw [hxy b hb hx] at hy;cases hy
end
section
set_option linter.unusedSectionVars false
def nxL (c:Chart) (t:Pt) (search:Bool) (l:List Nat):List Nat:=t.fst::l.map (kw c t search)
def acL (t:Pt) (search:Bool) (l:List Nat):List Bool:=t.nul::l.map (Wm t search)
def Zh (allowed l:List Nat) (nx:Nat):List Nat:=(yf allowed nx).map fun S=>l.idxOf S+1
def jX (c:Chart) (t:Pt) (search:Bool) (allowed l:List Nat) (i:Nat):List (List Nat):=((nxL c t search l).take i).map (Zh allowed l)
theorem consM_is {c:Chart} {t:Pt} {search:Bool} {cls allowed l:List Nat}:x5 c t search cls allowed l=⟨cls,jX c t search allowed l (l.length+1),(acL t search l).take (l.length+1),0⟩:=by
 have h1:(nxL c t search l).take (l.length+1)=nxL c t search l:=zM (by simp [nxL]);have h2:(acL t search l).take (l.length+1)=acL t search l:=zM (by simp [acL]);unfold jX x5;rw [h1,h2];unfold nxL acL Zh;rw [qU,Y4];rfl
inductive CsAt (c:Chart) (t:Pt) (search:Bool) (allowed:List Nat) (most:Nat) (G:Option (List Nat)):Nat->List Nat->Prop
 |start (h:G=wI c t search allowed most (most+1) 0 ((yf allowed t.fst).foldl ins [])):CsAt c t search allowed most G 0 []
 |next {f s:Nat} {l:List Nat} (hf:f+s=most) (hl:l.length<most) (hs:s<=l.length) (hn:l.Nodup) (hin:∀ i nx,i<s+1->(nxL c t search l)[i]?=some nx->∀ S∈yf allowed nx,S∈l) (h:G=wI c t search allowed most (f+1) s l):CsAt c t search allowed most G (s+1) l
section
variable {c:Chart} {t:Pt} {search:Bool} {allowed l:List Nat} {most s:Nat} {G:Option (List Nat)}
theorem CsAt.nd (h:CsAt c t search allowed most G s l):l.Nodup:=by
 cases h with
 |start h=>simp
 |next _ _ _ hn _ _=>exact hn
theorem CsAt.le (h:CsAt c t search allowed most G s l) (hm:0<most):l.length<most∧s<=l.length+1:=by
 cases h with
 |start h=>exact ⟨by simpa using hm,by simp⟩
 |next _ hl hs _ _ _=>exact ⟨hl,by omega⟩
theorem CsAt.inl (h:CsAt c t search allowed most G s l):∀ i nx,i<s->(nxL c t search l)[i]?=some nx->∀ S∈yf allowed nx,S∈l:=by
 cases h with
 |start h=>intro i nx hi;omega
 |next _ _ _ _ hin _=>exact hin
theorem CsAt.done (h:CsAt c t search allowed most G s l) (hs:l.length<s):G=some l∧s=l.length+1:=by
 cases h with
 |start h=>simp at hs
 |@next f s' _ hf hl hs' hn hin h =>
  have:s'=l.length:=by omega
  refine ⟨?_,by omega⟩;rw [h,wI,if_neg (by omega),zu (by omega)]
theorem CsAt.row {nx:Nat} (h:CsAt c t search allowed most G s l) (hx:(nxL c t search l)[s]?=some nx) (hlt:((yf allowed nx).foldl ins l).length<most):CsAt c t search allowed most G (s+1) ((yf allowed nx).foldl ins l):=by
 have hnd:((yf allowed nx).foldl ins l).Nodup:=yl _ _ h.nd;obtain ⟨x,hpre⟩:=xh (yf allowed nx) l;have hin:∀ i nx',i<s+1->(nxL c t search ((yf allowed nx).foldl ins l))[i]?=some nx'->∀ S∈yf allowed nx',S∈(yf allowed nx).foldl ins l:=by
  intro i nx' hi hg S hS;have hsl:s<=l.length:=(by have:=(zy.1 hx).1;simp [nxL] at this;omega);have hpr:(nxL c t search l)[i]?=some nx':=by
   rw [← hg,hpre];unfold nxL;rw [qQ,← z7,zv (by simp;omega)]
  rcases zD i s with h1|h1
  ·exact (qk _ _ _).2 (.inl (h.inl i nx' h1 hpr S hS))
  ·obtain rfl:i=s:=by omega
   rw [hx] at hpr;injection hpr with hpr
   subst hpr;exact (qk _ _ _).2 (.inr hS)
 cases h with
 |start h =>
  have:nx=t.fst:=by
   unfold nxL at hx;simp at hx;exact hx.symm
  subst this;exact .next (f:=most) (by omega) hlt (zH _) hnd hin h
 |@next f s' _ hf hl hs' hn hin' h =>
  have hls:s'<l.length:=(by have:=(zy.1 hx).1;simp [nxL] at this;omega);obtain ⟨S,hS⟩:∃ S,l[s']?=some S:=⟨_,zg hls⟩
  have hnx:nx=kw c t search S:=by
   unfold nxL at hx;rw [qD,zq,hS] at hx;injection hx with hx
   exact hx.symm
  rw [wI,if_neg (by omega),hS] at h;simp only at h;rw [← hnx] at h;obtain ⟨f',rfl⟩:∃ z,f=z+1:=⟨f-1,by omega⟩
  refine .next (f:=f') (by omega) hlt ?_ hnd hin h
  rw [hpre,zN];omega
theorem CsAt.over {nx:Nat} (h:CsAt c t search allowed most G s l) (hm:0<most) (hx:(nxL c t search l)[s]?=some nx) (hlt:most<=((yf allowed nx).foldl ins l).length):G=none:=by
 cases h with
 |start h =>
  have:nx=t.fst:=by
   unfold nxL at hx;simp at hx;exact hx.symm
  subst this;rw [h,wI,if_pos hlt]
 |@next f s' _ hf hl hs' hn hin' h =>
  have hls:s'<l.length:=(by have:=(zy.1 hx).1;simp [nxL] at this;omega);obtain ⟨S,hS⟩:∃ S,l[s']?=some S:=⟨_,zg hls⟩
  have hnx:nx=kw c t search S:=by
   unfold nxL at hx;rw [qD,zq,hS] at hx;injection hx with hx
   exact hx.symm
  rw [wI,if_neg (by omega),hS] at h;simp only at h;rw [← hnx] at h;obtain ⟨f',rfl⟩:∃ z,f=z+1:=⟨f-1,by omega⟩
  rw [h,wI,if_pos hlt]
theorem WU {l x:List Nat} {S:Nat} (h:S∈l):(l++x).idxOf S=l.idxOf S:=by
 rw [yU,if_pos h]
theorem VQ {x:List Nat} {nx:Nat} (h:∀ S∈yf allowed nx,S∈l):Zh allowed (l++x) nx=Zh allowed l nx:=by
 unfold Zh;refine List.map_congr_left fun S hS=>?_
 rw [WU (h S hS)]
theorem K8 {x:List Nat} (hs:s<=l.length+1) (h:∀ i nx,i<s->(nxL c t search l)[i]?=some nx->∀ S∈yf allowed nx,S∈l):jX c t search allowed (l++x) s=jX c t search allowed l s:=by
 unfold jX;have e:(nxL c t search (l++x)).take s=(nxL c t search l).take s:=by
  unfold nxL;rw [qQ,← z7,jF (by simp;omega)]
 rw [e];refine List.map_congr_left fun nx hnx=>?_
 obtain ⟨i,hi⟩:=yj.1 hnx;have his:i<s:=(by have:=(zy.1 hi).1;simp at this;omega);rw [wZ,if_pos his] at hi;exact VQ (h i nx his hi)
theorem acL_grow {x:List Nat} (hs:s<=l.length+1):(acL t search (l++x)).take s=(acL t search l).take s:=by
 unfold acL;rw [qQ,← z7,jF (by simp;omega)]
theorem K9 {nx:Nat} (hx:(nxL c t search l)[s]?=some nx):jX c t search allowed l (s+1)=jX c t search allowed l s++[Zh allowed l nx]:=by
 unfold jX;rw [xZ,hx,qQ];rfl
theorem acL_snoc {b:Bool} (hx:(acL t search l)[s]?=some b):(acL t search l).take (s+1)=(acL t search l).take s++[b]:=by
 rw [xZ,hx];rfl
theorem VS {nx:Nat} (h:CsAt c t search allowed most G s l) (hm:0<most) (hx:(nxL c t search l)[s]?=some nx):jX c t search allowed ((yf allowed nx).foldl ins l) (s+1)=jX c t search allowed l s++[Zh allowed ((yf allowed nx).foldl ins l) nx]:=by
 obtain ⟨x,hpre⟩:=xh (yf allowed nx) l;have hsl:=(zy.1 hx).1;have hx2:(nxL c t search ((yf allowed nx).foldl ins l))[s]?=some nx:=by
  rw [← hx,hpre];unfold nxL;rw [qQ,← z7,zv (by simp [nxL] at hsl ⊢;omega)]
 rw [K9 hx2];congr 1
 rw [hpre];exact K8 (h.le hm).2 h.inl
theorem Vd {nx:Nat} {b:Bool} (hx:(acL t search l)[s]?=some b):(acL t search ((yf allowed nx).foldl ins l)).take (s+1)=(acL t search l).take s++[b]:=by
 obtain ⟨x,hpre⟩:=xh (yf allowed nx) l;have hsl:=(zy.1 hx).1;rw [hpre,acL_grow (by simp [acL] at hsl;omega),acL_snoc hx]
end
def W4 (s:List Nat):Prop:=∃ a b c d:Nat,s=[a,b,c,d]∧a<18446744073709551616∧b<18446744073709551616∧c<18446744073709551616∧d<18446744073709551616
mutual
def Rx.fit:Rx->Prop
 |.mk h l=>W4 h.set∧Rx.fitL l
def Rx.fitL:List Rx->Prop
 |[]=>True
 |r::l=>r.fit∧Rx.fitL l
end
theorem Rx.fitL_of:∀ {l:List Rx},(∀ r∈l,r.fit)->Rx.fitL l
 |[],_=>trivial
 |r::l,h=>⟨h r (by simp),Rx.fitL_of fun x hx=>h x (by simp [hx])⟩
theorem Qt {Q:List Nat->Prop} {f:Chart->Pt×Chart} (hf:∀ c,(∀ s∈c.sets,Q s)->∀ s∈(f c).2.sets,Q s):∀ (n:Nat) (c:Chart),(∀ s∈c.sets,Q s)->∀ s∈(qd f n c).2.sets,Q s
 |0,c,h=>h
 |n+1,c,h=>by
  show ∀ s∈(qd f n (f c).2).2.sets,Q s
  exact Qt hf n _ (hf c h)
mutual
theorem Rx.sets4:∀ {r:Rx},r.valid=true->r.fit->∀ c:Chart,(∀ s∈c.sets,W4 s)->∀ s∈(r.re.write c).2.sets,W4 s
 |.mk h l,e,hf,c,hs=>by
  have e':=e;rw [Rx.valid,zf] at e';rw [Rx.fit] at hf;have hc:=Hd.cases e'.1;rw [Rx.re];split
  ·intro s hx;have hx:s∈c.sets++[h.set]:=hx;rcases zt.1 hx with hx|hx
   ·exact hs s hx
   ·simp only [zV] at hx;subst hx;exact hf.1
  ·split
   ·rw [Re.write];exact Rx.seq4 e'.2 hf.2 _ c hs
   ·split
    ·rw [Re.write];exact Rx.alt4 e'.2 hf.2 _ c hs
    ·split
     ·rename_i hk
      match l,e',hf with
      |[],e',_=>simp at hc;omega
      |[x],e',hf =>
       rw [Rx.validL,zf] at e';have hx:=Rx.sets4 e'.2.1 hf.2.1;rw [Rx.reP];have hw:∀ (lo:Nat) (hi:Option Nat),(Re.write (.rep lo hi x.re) c)=yN lo hi.isNone 0 (qd x.re.write (match hi with|some h=>h|none=>max lo 1) c).1 (qd x.re.write (match hi with|some h=>h|none=>max lo 1) c).2:=fun lo hi=>by
        cases hi <;> first|rfl|(rw [Re.write.eq_def];done)|simp only [Re.write]
       rw [hw];show ∀ s∈(yN _ _ 0 (qd x.re.write _ c).1 (qd x.re.write _ c).2).2.sets,W4 s
       rw [vL];exact Qt hx _ c hs
      |x::y::l,e',_=>simp at hc;omega
     ·rw [Re.write];exact hs
theorem Rx.seq4:∀ {l:List Rx},Rx.validL l=true->Rx.fitL l->∀ (a:Pt) (c:Chart),(∀ s∈c.sets,W4 s)->∀ s∈(Re.writeSeq (Rx.reL l) a c).2.sets,W4 s
 |[],_,_,a,c,hs=>by rw [Rx.reL,Re.writeSeq];exact hs
 |r::l,e,hf,a,c,hs=>by
  rw [Rx.validL,zf] at e;rw [Rx.reL,Re.writeSeq];show ∀ s∈(Re.writeSeq (Rx.reL l) _ (Chart.link (r.re.write c).2 _ _)).2.sets,W4 s
  exact Rx.seq4 e.2 hf.2 _ _ (Rx.sets4 e.1 hf.1 c hs)
theorem Rx.alt4:∀ {l:List Rx},Rx.validL l=true->Rx.fitL l->∀ (a:Pt) (c:Chart),(∀ s∈c.sets,W4 s)->∀ s∈(Re.writeAlt (Rx.reL l) a c).2.sets,W4 s
 |[],_,_,a,c,hs=>by rw [Rx.reL,Re.writeAlt];exact hs
 |r::l,e,hf,a,c,hs=>by
  rw [Rx.validL,zf] at e;rw [Rx.reL,Re.writeAlt];show ∀ s∈(Re.writeAlt (Rx.reL l) _ (r.re.write c).2).2.sets,W4 s
  exact Rx.alt4 e.2 hf.2 _ _ (Rx.sets4 e.1 hf.1 c hs)
end
end
section
open Go.RowKit
def kL (P:Nat->Bool) (n:Nat):Nat:=(zl n).foldl (fun acc i=>if P i then acc ||| 2 ^ i else acc) 0
theorem Xy {P:Nat->Bool} {n:Nat}:kL P (n+1)=if P n then kL P n ||| 2 ^ n else kL P n:=by
 unfold kL;rw [List.range_succ,jf];rfl
theorem jM {P:Nat->Bool} {i:Nat}:∀ {n:Nat},(kL P n).testBit i=(decide (i<n)&&P i)
 |0=>by simp [kL]
 |n+1=>by
  rw [Xy];have ih:=jM (P:=P) (i:=i) (n:=n);by_cases hp:P n=true
  ·rw [if_pos hp,qH,ih,Nat.testBit_two_pow];by_cases h:n=i
   ·subst h;simp [hp]
   ·have:decide (i<n+1)=decide (i<n):=by rw [decide_eq_decide];omega
    rw [this];simp [h]
  ·rw [if_neg hp,ih];by_cases h:n=i
   ·subst h;simp [hp]
   ·have:decide (i<n+1)=decide (i<n):=by rw [decide_eq_decide];omega
    rw [this]
theorem JS {P Q:Nat->Bool} {n:Nat} (h:∀ i,i<n->P i=Q i):kL P n=kL Q n:=yV fun i=>by
 rw [jM,jM];by_cases hi:i<n
 ·rw [h i hi]
 ·simp [hi]
theorem KP {P:Nat->Bool} {n:Nat} (h:n<=64):kL P n<18446744073709551616:=kK fun i hi=>by
 rw [jM,zf,decide_eq_true_eq] at hi;omega
def k8 (A:Nat->Nat->Bool):Nat->Nat->Nat
 |0,_=>0
 |k+1,b=>if A k b then k else k8 A k b
theorem Kv {A:Nat->Nat->Bool} {b:Nat}:∀ {n k:Nat},k<n->A k b=true->k8 A n b<n∧A (k8 A n b) b=true
 |0,k,h,_=>by omega
 |n+1,k,h,ha=>by
  rw [k8];by_cases hn:A n b=true
  ·rw [if_pos hn];exact ⟨by omega,hn⟩
  ·rw [if_neg hn];have hk:k<n:=by
    rcases zD k n with g|g
    ·exact g
    ·obtain rfl:k=n:=by omega
     exact absurd ha hn
   have:=Kv hk ha;exact ⟨by omega,this.2⟩
def QA (M A:Nat->Bool):Bool:=(zl 256).any fun c=>M c&&A c
theorem Xx {M A:Nat->Bool}:QA M A=true↔∃ c,c<256∧M c=true∧A c=true:=by
 unfold QA;rw [List.any_eq_true];exact ⟨fun ⟨c,h1,h2⟩=>⟨c,zo.1 h1,by simpa using h2⟩,fun ⟨c,h1,h2,h3⟩=>⟨c,zo.2 h1,by simp [h2,h3]⟩⟩
attribute [irreducible] QA
def lwL (s:LW):List Nat:=[s.1 0,s.1 1,s.1 2,s.1 3]
theorem KD (s:LW) {b:Nat} (hb:b<256):JK (lwL s) b=bit s.1 b:=by
 unfold JK bit lwL;have:b/64=0∨b/64=1∨b/64=2∨b/64=3:=by omega
 rcases this with h|h|h|h <;> rw [h] <;> rfl
structure jR (c:Chart) (S:List LW):Prop where
 eq:c.sets=S.map lwL
def X4 (c:Chart) (b:Nat):Nat:=kL (fun i=>JK (c.sets.getD i []) b) c.sets.length
def atA (L:List LW):Nat->Nat->Bool:=fun k b=>match L[k]? with|some p=>bit p.1 b|none=>false
def Z9 (L:List LW):List Nat:=(zl 256).map fun b=>k8 (atA L) L.length b
def mtA (S:List LW) (p:LW):Nat->Bool:=fun i=>match S[i]? with|some s=>QA (bit s.1) (bit p.1)|none=>false
def wF (S:List LW) (p:LW):Nat:=kL (mtA S p) S.length
theorem Kw {L:List LW} {b:Nat} (hb:b<256):(Z9 L).getD b 0=k8 (atA L) L.length b:=by
 unfold Z9;rw [ze,zq,xP hb];rfl
section
variable {S L:List LW} {c:Chart}
theorem V2 (h:Prt (asB S) L) {b:Nat} (hb:b<256):∃ p,L[(Z9 L).getD b 0]?=some p∧bit p.1 b=true:=by
 obtain ⟨p,hp,hpb⟩:=h.cov b hb;obtain ⟨k,hk⟩:=yj.1 hp;have hin:=Kv (A:=atA L) (n:=L.length) (b:=b) (zP hk) (by simp [atA,hk,hpb]);rw [Kw hb];obtain ⟨h1,h2⟩:=hin;obtain ⟨q,hq⟩:∃ q,L[k8 (atA L) L.length b]?=some q:=⟨_,zg h1⟩
 refine ⟨q,hq,?_⟩;simp only [atA,hq] at h2;exact h2
theorem Vf {M:List (Nat->Bool)} {a b i:Nat} {m:Nat->Bool} (h:Zr M a b=true) (hi:M[i]?=some m):m a=m b:=by
 unfold Zr at h;have:=zZ.1 h m (zc hi);simpa using this
theorem Yc (hc:jR c S) (h:Prt (asB S) L) {p:LW} (hp:p∈L) {b:Nat} (hb:b<256) (hpb:bit p.1 b=true):wF S p=X4 c b:=by
 unfold wF X4;rw [hc.eq,zE];refine JS fun i hi=>?_
 obtain ⟨s,hs⟩:∃ s,S[i]?=some s:=⟨_,zg hi⟩
 have e1:(S.map lwL).getD i []=lwL s:=(by rw [ze,zq,hs];rfl);rw [e1,KD s hb];simp only [mtA,hs];have hM:(asB S)[i]?=some (bit s.1):=(by unfold asB;rw [zq,hs];rfl);rw [q5,Xx];constructor
 ·rintro ⟨x,hx,h1,h2⟩;have:=h.cls p hp b x hb hx hpb;rw [h2] at this;rw [Vf this.symm hM];exact h1
 ·exact fun g=>⟨b,hb,g,hpb⟩
theorem Ja (hc:jR c S) (h:Prt (asB S) L):Fits c (Z9 L) (L.map (wF S)):=by
 refine ⟨by simp [Z9],fun k hk=>?_,fun b hb i hi=>?_⟩
 ·obtain ⟨b,hb,rfl⟩:=zC.1 hk;have hb:=zo.1 hb;obtain ⟨p,hp,_⟩:=V2 h hb;rw [Kw hb] at hp;rw [zE];exact zP hp
 ·obtain ⟨p,hp,hpb⟩:=V2 h hb;have e:(L.map (wF S)).getD ((Z9 L).getD b 0) 0=wF S p:=(by rw [ze,zq,hp];rfl);rw [e,Yc hc h (zc hp) hb hpb];unfold X4;rw [jM];simp only [zf,decide_eq_true_eq];exact ⟨fun g=>g.2,fun g=>⟨hi,g⟩⟩
theorem VM (hc:jR c S) (h:Prt (asB S) L) (m:Nat):m∈L.map (wF S)↔m∈(zl 256).foldl (fun l b=>ins l (X4 c b)) []:=by
 have hf:(zl 256).foldl (fun l b=>ins l (X4 c b)) []=((zl 256).map (X4 c)).foldl ins []:=(by rw [List.foldl_map]);rw [hf,qk];simp only [List.not_mem_nil,false_or];constructor
 ·intro hm;obtain ⟨p,hp,rfl⟩:=zC.1 hm;obtain ⟨b,hb,hpb⟩:=h.ne p hp;exact zC.2 ⟨b,zo.2 hb,(Yc hc h hp hb hpb).symm⟩
 ·intro hm;obtain ⟨b,hb,rfl⟩:=zC.1 hm;have hb:=zo.1 hb;obtain ⟨p,hp,hpb⟩:=h.cov b hb;exact zC.2 ⟨p,hp,Yc hc h hp hb hpb⟩
end
end
section
open Go.RowKit
structure Turn (M:List Nat) (B:Nat) (W W':World):Prop where
 os:W'.os=W.os
 tape:W'.tape=W.tape
 output:W'.output=W.output
 size:W.heap.size<=W'.heap.size
 keep:∀ b,b<B->b ∉ M->W'.heap[b]?=W.heap[b]?
theorem Turn.refl (M:List Nat) (B:Nat) (W:World):Turn M B W W:=⟨rfl,rfl,rfl,zp _,fun _ _ _=>rfl⟩
theorem Turn.trans {M:List Nat} {B:Nat} {X Y Z:World} (h:Turn M B X Y) (k:Turn M B Y Z):Turn M B X Z:=⟨k.os.trans h.os,k.tape.trans h.tape,k.output.trans h.output,qs h.size k.size,fun b hb hm=>(k.keep b hb hm).trans (h.keep b hb hm)⟩
theorem Turn.widen {M M':List Nat} {B B':Nat} {W W':World} (h:Turn M B W W') (hM:∀ b∈M,b<B'->b∈M') (hB:B'<=B):Turn M' B' W W':=⟨h.os,h.tape,h.output,h.size,fun b hb hm=>h.keep b (by omega) fun hx=>hm (hM b hx hb)⟩
theorem Turn.putObj (M:List Nat) {B l:Nat} (W:World) (o:Obj) (h:l∈M∨B<=l):Turn M B W (W.putObj l o):=⟨rfl,rfl,rfl,by simp,fun b hb hm=>World.putObj_heap_other (fun e=>by subst e;rcases h with h|h;exact hm h;omega)⟩
theorem Turn.alloc (M:List Nat) {B:Nat} {W:World} (o:Obj) (h:B<=W.heap.size):Turn M B W (W.alloc o):=⟨rfl,rfl,rfl,by simp,fun b hb _=>Below.heap_alloc W o b (by omega)⟩
def Abd {β:Type} (M:List Nat) (B:Nat) (J:β->World->Prop):Prop:=∀ s W W',J s W->Turn M B W W'->J s W'
def SeqT {α:Type} (F:Fence) (n:Nat) (P:Program) (g:Nat) (lb:Array Value) (encs:α->Array Value) (M MB:List Nat) (Ok:List α->α->Prop) (S Sp:List α->Prop) (w:World):Prop :=
 ∀ (l:Nat) (J Jx:List α->World->Prop) (W:World),Below w.heap.size w W->l=w.heap.size+1->W.heap.size=w.heap.size+2->Abd M W.heap.size J->Abd M W.heap.size Jx ->
  (∀ pre x W1,J pre W1->W.heap.size<=W1.heap.size->Ok pre x->YieldAt F (n-1) P l (encs x) W1 fun e W' =>
   (e=.returned (.bool true)∧J (pre++[x]) W'∧Turn (l::MB) W1.heap.size W1 W')∨(e=.returned (.bool false)∧Jx (pre++[x]) W')) ->
  J [] W ->
  CallsIn F n P g (#[.func (.yield l) #[] #[]]++lb) W fun e W'=>(∃ v,e=.returned v)∧((∃ xs,S xs∧J xs W')∨(∃ pre,Sp pre∧Jx pre W'))
def postT {α:Type} (MB:List Nat) (I:List α->World->Prop) (Ix:Code->List α->World->Prop) (xs:List α) (W:World):Exit->Act->World->Prop
 |.normal,_,W'=>Turn MB W.heap.size W W'∧I xs W'
 |.ret,_,W'=>Turn MB W.heap.size W W'∧Ix .ret xs W'
 |.exit id,_,W'=>Turn MB W.heap.size W W'∧Ix (.exit id) xs W'
 |.goto t,_,W'=>Turn MB W.heap.size W W'∧Ix (.goto t) xs W'
 |.panic _,_,_=>False
 |.outgrown,_,_=>False
variable {F:Fence} {n:Nat} {P:Program}
theorem Qg {α:Type} {g:Operand} {ps:Array Tmp} {assign body:Code} {Q:Exit->Act->World->Prop} {a:Act} {w:World}
  (hro:F.round=none) (h1:1<=n) {gf:Nat} {lb:Array Value} (hg:a.eval g=.func (.func gf) #[] lb) (hFg:F.fn gf) (eg:∀ args w,(callFunc gf args).run P w=.ok (.enter gf args) w)
  {encs:α->Array Value} {M MB:List Nat} {Ok:List α->α->Prop} {S Sp:List α->Prop} (hseq:SeqT F (n-1) P gf lb encs M MB Ok S Sp w)
  (hM:∀ b∈M,b<w.heap.size) (hMB:∀ b∈MB,b<w.heap.size) (hps:∀ x,(encs x).size=ps.size)
  (I:List α->World->Prop) (Ix:Code->List α->World->Prop) (hI:Abd M w.heap.size I) (hIx:∀ c,Abd M w.heap.size (Ix c)) (h0:I [] w) (a₁:α->Act)
  (hassign:∀ (l:Nat) (x:α) (W:World) (K:Act->World->Prop),K (a₁ x) W ->
   assign.wpIn (F.inRound l) (n-1-1) P (Exit.then K (fun _ _ _=>False)) { tmps:=(ps.zip (encs x)).foldl (fun t (p,v)=>t.setIfInBounds p v) a.tmps,defers:=[] } W)
  (hbody:∀ (l:Nat) (pre:List α) (x:α) (W:World),w.heap.size<=W.heap.size->I pre W->Ok pre x->body.wpIn (F.inRound l) (n-1-1) P (postT MB I Ix (pre++[x]) W) (a₁ x) W)
  (hdone:∀ (D:Nat) (xs:List α) (W:World),w.heap.size<=D->S xs->I xs W->W.heap[D]?=some (.deferred (some []))->Q .normal { a with defers:={ target:=.collected D,args:=#[] }::a.defers } W)
  (hstop:∀ (D:Nat) (c:Code) (pre:List α) (W:World),w.heap.size<=D->Sp pre->Ix c pre W->W.heap[D]?=some (.deferred (some []))->c.wpIn F n P Q { a with defers:={ target:=.collected D,args:=#[] }::a.defers } W) :
  (Code.rangeFunc g ps assign body).wpIn F n P Q a w:=by
 refine wpIn_rangeFunc ?_;intro fn hfn;rw [hro];obtain ⟨rec,hrec⟩:∃ rec:LoopState->Option Code->Loop,rec=fun st pe=>{ state:=st,pending:=pe,fn,tmps:=a.tmps,params:=ps,assign,body,defers:=w.heap.size }:=⟨_,rfl⟩
 obtain ⟨W1,hW1⟩:∃ W1,(w.alloc (.deferred (some []))).alloc (.loop (rec .ready none))=W1:=⟨_,rfl⟩
 have hs1:W1.heap.size=w.heap.size+2:=(by rw [← hW1];simp);have hL1:W1.heap[w.heap.size+1]?=some (.loop (rec .ready none)):=by
  rw [← hW1];have:=World.alloc_heap_new (w.alloc (.deferred (some []))) (.loop (rec .ready none));rwa [World.size_alloc] at this
 have hK1:W1.heap[w.heap.size]?=some (.deferred (some [])):=by
  rw [← hW1];exact (Below.heap_alloc _ _ _ (by simp)).trans (World.alloc_heap_new w _)
 have hT1:Turn M w.heap.size w W1:=by
  rw [← hW1];exact (Turn.alloc M _ (zp _)).trans (Turn.alloc M _ (by simp))
 have hI1:I [] W1:=hI _ _ _ h0 hT1;have hb1:Below w.heap.size w W1:=by
  rw [← hW1];exact (((Below.refl _ w).alloc (zp _) _).alloc (by simp) _)
 have hnM:∀ b,w.heap.size<=b->b ∉ M:=fun b hb h=>by have:=hM b h;omega
 have hnB:∀ b,w.heap.size<=b->b ∉ MB:=fun b hb h=>by have:=hMB b h;omega
 refine ⟨w.heap.size+1,[{ target:=.collected w.heap.size,args:=#[] }],W1,{ target:=.fn (.func gf) lb,args:=#[.func (.yield (w.heap.size+1)) #[] #[]] },W1,gf,
  #[.func (.yield (w.heap.size+1)) #[] #[]]++lb,W1,?_,?_,?_,?_,fun _=>h1,?_⟩
 ·rw [← hW1,hrec];exact run_enterLoop_outer _ _ _ _ _
 ·simp only [resolve,hg];simp [go_sem]
 ·intro f' hf';simp [Target.leads] at hf';subst hf';exact hFg
 ·simp [invoke,go_sem,eg]
 ·refine (hseq (w.heap.size+1)
   (fun pre W=>I pre W∧W.heap[w.heap.size+1]?=some (.loop (rec .ready none))∧W.heap[w.heap.size]?=some (.deferred (some [])))
   (fun pre W=>∃ c,Ix c pre W∧W.heap[w.heap.size+1]?=some (.loop (rec .done (some c)))∧W.heap[w.heap.size]?=some (.deferred (some [])))
   W1 hb1 rfl hs1
   (fun s A B hs ht=>⟨hI s A B hs.1 (ht.widen (fun b hb _=>hb) (by omega)),(ht.keep _ (by omega) (hnM _ (by omega))).trans hs.2.1,(ht.keep _ (by omega) (hnM _ (by omega))).trans hs.2.2⟩)
   (fun s A B hs ht=>by
    obtain ⟨c,hc,hl,hk⟩:=hs;exact ⟨c,hIx c s A B hc (ht.widen (fun b hb _=>hb) (by omega)),(ht.keep _ (by omega) (hnM _ (by omega))).trans hl,(ht.keep _ (by omega) (hnM _ (by omega))).trans hk⟩)
   ?_ ⟨hI1,hL1,hK1⟩).mono ?_
  ·rintro pre x W ⟨hi,hl,hk⟩ hsz hlen;have hlt:w.heap.size+1<W.heap.size:=(xk.1 hl).1;have hy:=run_yield (P:=P) (args:=encs x) hl (by rw [hrec];exact hps x);rw [hrec] at hy;refine ⟨fn,_,assign,body,hy,roundIn_of_wpIn hfn (hassign _ x W _ ⟨_,run_beginRound hl (by rw [hrec]),?_⟩)⟩;have hl2:(W.putObj (w.heap.size+1) (.loop { rec .ready none with state:=.busy })).heap[w.heap.size+1]?=some (.loop { rec .ready none with state:=.busy }):=World.putObj_heap_same hlt;have hk2:(W.putObj (w.heap.size+1) (.loop { rec .ready none with state:=.busy })).heap[w.heap.size]?=some (.deferred (some [])):=(World.putObj_heap_other (by omega)).trans hk;have hsz2:(W.putObj (w.heap.size+1) (.loop { rec .ready none with state:=.busy })).heap.size=W.heap.size:=(by simp);have hw2:Turn ((w.heap.size+1)::MB) W.heap.size W (W.putObj (w.heap.size+1) (.loop { rec .ready none with state:=.busy })):=Turn.putObj _ _ _ (.inl (by simp));refine wpIn_mono (hbody _ pre x _ (by rw [hsz2];omega) (hI _ _ _ hi (Turn.putObj _ _ _ (.inr (by omega)))) hlen) ?_;have fin:∀ (jump:Option Code) (W3:World),Turn MB W.heap.size (W.putObj (w.heap.size+1) (.loop { rec .ready none with state:=.busy })) W3 ->
     (Instr.endRound (w.heap.size+1) jump).run P W3=.ok (.bool jump.isNone) (W3.putObj (w.heap.size+1) (.loop (rec (if jump.isNone then .ready else .done) jump))) ∧
     (W3.putObj (w.heap.size+1) (.loop (rec (if jump.isNone then .ready else .done) jump))).heap[w.heap.size+1]?=some (.loop (rec (if jump.isNone then .ready else .done) jump)) ∧
     (W3.putObj (w.heap.size+1) (.loop (rec (if jump.isNone then .ready else .done) jump))).heap[w.heap.size]?=some (.deferred (some [])):=fun jump W3 hk3=>by
    have hl3:=(hk3.keep _ (by omega) (hnB _ (by omega))).trans hl2;have hd3:=(hk3.keep _ (by omega) (hnB _ (by omega))).trans hk2;have:=run_endRound (P:=P) jump hl3;rw [hrec] at this ⊢;exact ⟨this,World.putObj_heap_same (xk.1 hl3).1,(World.putObj_heap_other (by omega)).trans hd3⟩
   rintro e a3 W3 hp;cases e with
   |normal =>
    obtain ⟨hk3,hi3⟩:=hp;rw [hsz2] at hk3;obtain ⟨hr,hl4,hk4⟩:=fin none W3 hk3;exact ⟨_,_,hr,.inl ⟨rfl,⟨hI _ _ _ hi3 (Turn.putObj _ _ _ (.inr (by omega))),hl4,hk4⟩,(hw2.trans (hk3.widen (fun b hb _=>qv _ hb) (zp _))).trans (Turn.putObj _ _ _ (.inl (by simp)))⟩⟩
   |ret =>
    obtain ⟨hk3,hi3⟩:=hp;rw [hsz2] at hk3;obtain ⟨hr,hl4,hk4⟩:=fin (some .ret) W3 hk3;exact ⟨_,_,hr,.inr ⟨rfl,.ret,hIx _ _ _ _ hi3 (Turn.putObj _ _ _ (.inr (by omega))),hl4,hk4⟩⟩
   |exit id =>
    obtain ⟨hk3,hi3⟩:=hp;rw [hsz2] at hk3;obtain ⟨hr,hl4,hk4⟩:=fin (some (.exit id)) W3 hk3;exact ⟨_,_,hr,.inr ⟨rfl,.exit id,hIx _ _ _ _ hi3 (Turn.putObj _ _ _ (.inr (by omega))),hl4,hk4⟩⟩
   |goto t =>
    obtain ⟨hk3,hi3⟩:=hp;rw [hsz2] at hk3;obtain ⟨hr,hl4,hk4⟩:=fin (some (.goto t)) W3 hk3;exact ⟨_,_,hr,.inr ⟨rfl,.goto t,hIx _ _ _ _ hi3 (Turn.putObj _ _ _ (.inr (by omega))),hl4,hk4⟩⟩
   |panic ch=>exact hp.elim
   |outgrown=>exact hp.elim
  ·rintro e W2 ⟨⟨v,rfl⟩,(⟨xs,hS,hi,hl,hk⟩|⟨pre,hSp,c,hi,hl,hk⟩)⟩
   ·exact ⟨none,_,by have:=run_endLoop (P:=P) hl (by rw [hrec];simp);rw [hrec] at this;exact this,hdone _ xs _ (zp _) hS (hI _ _ _ hi (Turn.putObj _ _ _ (.inr (by omega)))) ((World.putObj_heap_other (by omega)).trans hk)⟩
   ·exact ⟨some c,_,by have:=run_endLoop (P:=P) hl (by rw [hrec];simp);rw [hrec] at this;exact this,hstop _ c pre _ (zp _) hSp (hIx c _ _ _ hi (Turn.putObj _ _ _ (.inr (by omega)))) ((World.putObj_heap_other (by omega)).trans hk)⟩
structure Its (M:List Nat) (B:Nat) (L:List As) (W:World):Prop where
 ho:∀ A∈L,A.ho W
 own:∀ A∈L,∀ b∈A.fp,b∈M∨B<=b
 dis:L.Pairwise fun A A'=>∀ b∈A.fp,b ∉ A'.fp
 le:B<=W.heap.size
def fps (L:List As):List Nat:=L.flatMap fun A=>A.fp
theorem Its.st {M:List Nat} {B:Nat} {L:List As} {W:World} (h:Its M B L W):St W (fps L) L W :=
 ⟨rfl,rfl,rfl,zp _,fun _ _ _=>rfl,h.ho,fun A hA b hb=>.inr (qP.2 ⟨A,hA,hb⟩),h.dis⟩
theorem Its.of {M:List Nat} {B:Nat} {L L':List As} {W W':World} (h:Its M B L W) (hs:St W (fps L) L' W'):Its M B L' W'∧Turn M B W W':=by
 have hf:∀ b∈fps L,b∈M∨B<=b:=fun b hb=>by
  obtain ⟨A,hA,hb⟩:=qP.1 hb;exact h.own A hA b hb
 refine ⟨⟨hs.ho,fun A hA b hb=>?_,hs.dis,qs h.le hs.size⟩,hs.os,hs.tape,hs.output,hs.size,fun b hb hm=>hs.keep b (qO hb h.le) fun hx=>?_⟩
 ·rcases hs.own A hA b hb with h1|h1
  ·exact .inr (qs h.le h1)
  ·exact hf b h1
 ·rcases hf b hx with h1|h1
  ·exact hm h1
  ·omega
theorem Its.turn {M MB:List Nat} {B:Nat} {L:List As} {W W':World} (h:Its M B L W) (ht:Turn MB W.heap.size W W') (hd:∀ b∈M,b ∉ MB) (hB:∀ b∈MB,b<B):Its M B L W':=by
 refine ⟨fun A hA=>A.loc W W' (fun b hb=>ht.keep b (A.lt W (h.ho A hA) b hb) fun hm=>?_) (h.ho A hA),h.own,h.dis,qs h.le ht.size⟩;rcases h.own A hA b hb with h1|h1
 ·exact hd b h1 hm
 ·have:=hB b hm;omega
theorem St.turned {w0 W W':World} {M:List Nat} {L:List As} {B:Nat} (h:St w0 [] L W) (ht:Turn M B W W') (h0:w0.heap.size<=B) (hM:∀ b∈M,w0.heap.size<=b) (hL:∀ A∈L,∀ b∈A.fp,b<B∧b ∉ M):St w0 [] L W' :=
 ⟨ht.os.trans h.os,ht.tape.trans h.tape,ht.output.trans h.output,qs h.size ht.size,fun b hb hm=>(ht.keep b (by omega) fun hx=>by have:=hM b hx;omega).trans (h.keep b hb hm),
  fun A hA=>A.loc W W' (fun b hb=>ht.keep b (hL A hA b hb).1 (hL A hA b hb).2) (h.ho A hA),h.own,h.dis⟩
theorem St.parted {w0 w:World} {L1 L2:List As} (h:St w0 [] (L1++L2) w):(∀ b∈fps L2,w0.heap.size<=b∧b<w.heap.size)∧(∀ b∈fps L1,w0.heap.size<=b∧b<w.heap.size∧b ∉ fps L2)∧St w (fps L2) L2 w∧St w0 [] L1 w:=by
 have own:∀ A∈L1++L2,∀ b∈A.fp,w0.heap.size<=b∧b<w.heap.size:=fun A hA b hb=>by
  refine ⟨?_,h.fpLt hA b hb⟩;rcases h.own A hA b hb with h|h
  ·exact h
  ·simp at h
 have hd:=List.pairwise_append.1 h.dis;refine ⟨fun b hb=>?_,fun b hb=>?_,?_,?_⟩
 ·obtain ⟨A,hA,hb⟩:=qP.1 hb;exact own A (qx _ hA) b hb
 ·obtain ⟨A,hA,hb⟩:=qP.1 hb;obtain ⟨h1,h2⟩:=own A (q6 _ hA) b hb;refine ⟨h1,h2,fun hx=>?_⟩;obtain ⟨A',hA',hb'⟩:=qP.1 hx;exact hd.2.2 A hA A' hA' b hb hb'
 ·exact ⟨rfl,rfl,rfl,zp _,fun _ _ _=>rfl,fun A hA=>h.ho A (qx _ hA),fun A hA b hb=>.inr (qP.2 ⟨A,hA,hb⟩),hd.2.1⟩
 ·exact ⟨h.os,h.tape,h.output,h.size,h.keep,fun A hA=>h.ho A (q6 _ hA),fun A hA=>h.own A (q6 _ hA),hd.1⟩
theorem St.add {w0 w:World} {L:List As} {g:Nat} {o:Obj} (h:St w0 [] L w) (hg:w.heap[g]?=some o) (h0:w0.heap.size<=g) (hd:∀ b∈fps L,b≠g):St w0 [] (blk g o::L) w:=by
 refine ⟨h.os,h.tape,h.output,h.size,h.keep,fun A hA=>?_,fun A hA b hb=>?_,zK.2 ⟨fun A hA b hb hb'=>?_,h.dis⟩⟩
 ·rcases zG.1 hA with rfl|hA
  ·rw [yB];exact hg
  ·exact h.ho A hA
 ·rcases zG.1 hA with rfl|hA
  ·have:b=g:=by simpa [qi] using hb
   exact .inl (by omega)
  ·exact h.own A hA b hb
 ·have:b=g:=by simpa [qi] using hb
  exact hd b (qP.2 ⟨A,hA,hb'⟩) this
theorem Turn.setCell (M:List Nat) {B g:Nat} (W:World) (v:Value) (h:g∈M∨B<=g):Turn M B W (W.setCell ⟨g,0,none⟩ v):=by
 refine ⟨rfl,rfl,rfl,by simp,fun b hb hm=>heap_setCell_other _ _ _ _ ?_⟩;intro e;have e:b=g:=e;rw [e] at hb hm;rcases h with h|h
 ·exact hm h
 ·omega
theorem VP {fn:Func} {tmps:Array Value} {ds:List Deferred} {w0 w:World} {L R:List As} {D:Nat} {post:Ending->World->Prop} (H:St w0 [] L w) (p:Pick L (blk D (.deferred (some []))) R) (h:∀ w',St w0 [] R w'->bodyPostM Fence.wide 3 z6 fn post .ret { tmps,defers:=ds } w'):bodyPostM Fence.wide 3 z6 fn post .ret { tmps,defers:={ target:=.collected D,args:=#[] }::ds } w:=by
 have H2:=H.pick p;have hD:w.heap[D]?=some (.deferred (some [])):=H2.at .here;have H3:St w0 [] (blk D (.deferred none)::R) (w.putObj D (.deferred none)):=by
  refine St.turn H2 (fun b hb=>World.putObj_heap_other fun e=>hb (by subst e;simp [qi])) rfl rfl rfl (by simp) ?_ (by rw [qi,qi]);rw [yB];exact World.putObj_heap_same (lt_of_block hD)
 exact ⟨by simp,.inl ⟨_,_,rfl,run_takeDeferred hD,h _ ⟨H3.os,H3.tape,H3.output,H3.size,H3.keep,fun B hB=>H3.ho B (qv _ hB),fun B hB=>H3.own B (qv _ hB),(zK.1 H3.dis).2⟩⟩⟩
def mkD (D:Nat):Deferred:={ target:=.collected D,args:=#[] }
def xi (ds:List Nat):As:=⟨ds,fun w=>∀ d∈ds,w.heap[d]?=some (.deferred (some [])),fun w w' h hw d hd=>(h d hd).trans (hw d hd),fun w hw b hb=>lt_of_block (hw b hb)⟩
theorem x9 (ds:List Nat):(xi ds).fp=ds:=rfl
theorem vM (ds:List Nat) (w:World):(xi ds).ho w=∀ d∈ds,w.heap[d]?=some (.deferred (some [])):=rfl
theorem JP (w:World):(xi []).ho w:=by rw [vM];simp
attribute [irreducible] xi
theorem St.mark {w0 w:World} {M:List Nat} {ds:List Nat} {D:Nat} {R:List As} (h:St w0 M (blk D (.deferred (some []))::xi ds::R) w):St w0 M (xi (D::ds)::R) w:=by
 obtain ⟨d1,d2⟩:=zK.1 h.dis;obtain ⟨d3,d4⟩:=zK.1 d2;refine ⟨h.os,h.tape,h.output,h.size,h.keep,fun B hB=>?_,fun B hB b hb=>?_,zK.2 ⟨fun B hB b hb=>?_,d4⟩⟩
 ·rcases zG.1 hB with rfl|hB
  ·have h1:=h.ho (blk D (.deferred (some []))) (by simp);have h2:=h.ho (xi ds) (by simp);rw [yB] at h1;rw [vM] at h2 ⊢;intro d hd;rcases zG.1 hd with rfl|hd
   ·exact h1
   ·exact h2 d hd
  ·exact h.ho B (by simp [hB])
 ·rcases zG.1 hB with rfl|hB
  ·rw [x9] at hb;rcases zG.1 hb with rfl|hb
   ·exact h.own (blk b (.deferred (some []))) (by simp) b (by rw [qi];simp)
   ·exact h.own (xi ds) (by simp) b (by rw [x9];exact hb)
  ·exact h.own B (by simp [hB]) b hb
 ·rw [x9] at hb;rcases zG.1 hb with rfl|hb
  ·exact d1 B (by simp [hB]) b (by rw [qi];simp)
  ·exact d3 B hB b (by rw [x9];exact hb)
theorem St.unmark {w0 w:World} {M:List Nat} {ds:List Nat} {D:Nat} {R:List As} (hD:D ∉ ds) (h:St w0 M (xi (D::ds)::R) w):St w0 M (blk D (.deferred (some []))::xi ds::R) w:=by
 obtain ⟨d1,d2⟩:=zK.1 h.dis;have h1:=h.ho (xi (D::ds)) (by simp);rw [vM] at h1;refine ⟨h.os,h.tape,h.output,h.size,h.keep,fun B hB=>?_,fun B hB b hb=>?_,zK.2 ⟨fun B hB b hb=>?_,zK.2 ⟨fun B hB b hb=>?_,d2⟩⟩⟩
 ·rcases zG.1 hB with rfl|hB
  ·rw [yB];exact h1 D (by simp)
  ·rcases zG.1 hB with rfl|hB
   ·rw [vM];exact fun d hd=>h1 d (by simp [hd])
   ·exact h.ho B (by simp [hB])
 ·rcases zG.1 hB with rfl|hB
  ·exact h.own (xi (D::ds)) (by simp) b (by rw [qi] at hb;rw [x9];simp at hb;simp [hb])
  ·rcases zG.1 hB with rfl|hB
   ·exact h.own (xi (D::ds)) (by simp) b (by rw [x9] at hb ⊢;simp [hb])
   ·exact h.own B (by simp [hB]) b hb
 ·rw [qi] at hb;simp at hb;subst hb;rcases zG.1 hB with rfl|hB
  ·rw [x9];exact hD
  ·exact d1 B hB b (by rw [x9];simp)
 ·rw [x9] at hb;exact d1 B hB b (by rw [x9];simp [hb])
theorem XG {fn:Func} {tmps:Array Value} {w0:World} {L:List As} {post:Ending->World->Prop}:∀ (ds:List Nat) {w:World},ds.Nodup->St w0 [] (xi ds::L) w->(∀ w',St w0 [] L w'->bodyPostM Fence.wide 3 z6 fn post .ret { tmps,defers:=[] } w')->bodyPostM Fence.wide 3 z6 fn post .ret { tmps,defers:=ds.map mkD } w
 |[],w,_,H,h=>h w ⟨H.os,H.tape,H.output,H.size,H.keep,fun B hB=>H.ho B (qv _ hB),fun B hB=>H.own B (qv _ hB),(zK.1 H.dis).2⟩
 |D::ds,w,hn,H,h=>by
  obtain ⟨n1,n2⟩:=List.nodup_cons.1 hn;exact VP (H.unmark n1) .here fun w' H'=>XG ds n2 H' h
attribute [local go_sem] qM Oper.semAt_some
theorem has_c (s:Nat->Nat) (hs:W64 s) (b:Nat) (hb2:b<256) (w:World) :
  Calls z6 67 #[.agg (AV s),.int .u8 b] w fun e w'=>e=.returned (.bool (bit s b))∧Below w.heap.size w w':=by
 obtain ⟨x,hx⟩:∃ x,x=s (b/64):=⟨_,rfl⟩
 have hxb:x<=18446744073709551615:=(by have:=hs (b/64);omega);have hc:=YU s b hb2 x hx;have HX:=zh hx;clear hx;have h1:((b:Int)/64).toNat=b/64:=(by omega);go_enter Tryd.func67,Tryd.ntmps67
 go_wp2
 go_ret;exact ⟨congrArg Ending.returned (congrArg Value.bool (bit_form s hs b x HX.out)),(Below.refl _ _).alloc (by simp) _⟩
def lst (s:Nat->Nat):Nat->List (Fin 256)
 |0=>[]
 |k+1=>if h:k<256∧bit s k=true then lst s k++[⟨k,h.1⟩] else lst s k
theorem KI {s:Nat->Nat} {k:Nat} (h:k<256) (hb:bit s k=true):lst s (k+1)=lst s k++[⟨k,h⟩]:=by rw [lst,dif_pos ⟨h,hb⟩]
theorem lst_no {s:Nat->Nat} {k:Nat} (hb:bit s k=false):lst s (k+1)=lst s k:=by rw [lst,dif_neg (by rw [hb];simp)]
theorem lst_pre (s:Nat->Nat) (k j:Nat):lst s k <+: lst s (k+j):=by
 induction j with
 |zero=>exact List.prefix_refl _
 |succ j ih =>
  refine ih.trans ?_;show _ <+: lst s (k+j+1)
  rw [lst];split
  ·exact List.prefix_append _ _
  ·exact List.prefix_refl _
theorem all_c (s:Nat->Nat) (w:World):Calls z6 50 #[.agg (AV s)] w fun e w'=>e=.returned (.func (.func 66) #[] #[.pointer (some ⟨w.heap.size,0,none⟩)])∧w'=w.alloc (.cells (AV s) 34):=by
 go_enter Tryd.func50,Tryd.ntmps50
 go_wp2
 go_ret;exact ⟨rfl,rfl⟩
theorem all_seq (s:Nat->Nat) (hs:W64 s) (n Bs:Nat) {MB:List Nat} (w:World) (hB:w.heap[Bs]?=some (.cells (AV s) 34)) (hMB:Bs ∉ MB) :
  SeqT Fence.wide n z6 66 #[.pointer (some ⟨Bs,0,none⟩)] (fun x:Fin 256=>#[.int .u8 (x.val:Nat)]) [] MB (fun pre x=>pre++[x] <+: lst s 256) (·=lst s 256) (· <+: lst s 256) w:=by
 intro l J Jx W hW hl hsz hJ hJx hY h0;have hBs:=lt_of_block hB;have HB:=zh ((hW.block Bs hBs).trans hB);have HY:=zh hY;have HNB:Hid (Bs ∉ l::MB):=zh (by
  rw [zG,not_or];exact ⟨by omega,hMB⟩)
 have HJ:Hid (∀ pre W0 W1,J pre W0->W.heap.size<=W0.heap.size->Below W0.heap.size W0 W1->J pre W1):=zh fun pre W0 W1 h hz hb=>hJ pre W0 W1 h ⟨hb.os,hb.tape,hb.output,hb.size,fun k hk _=>hb.block k (by omega)⟩
 have HS0:Hid (W.heap.size<=W.heap.size):=zh (zp _);have HBl:Hid (Bs<W.heap.size):=zh (by omega);clear hW hB hY hJ hJx hl hsz hMB;refine callsIn_of_wp Tryd.func66 rfl trivial ?_ rfl;simp only [Tryd.ntmps66,List.size_toArray,yZ,List.length_nil,Nat.reduceAdd,Nat.reduceSub,Array.replicate_succ,Array.replicate_zero,List.push_toArray,List.append_toArray,z8,z7]
 gi_wp2
 gi_loopw [3] (fun b wr=>∃ k:Nat,k<=256∧b=.int .i64 k∧J (lst s k) wr∧Hid (wr.heap[Bs]?=some (.cells (AV s) 34))∧Hid (W.heap.size<=wr.heap.size)) (fun b _=>256-(intOf b).toNat)
 case atStart=>exact ⟨0,by omega,rfl,h0,HB,HS0⟩
 case round =>
  obtain ⟨k,hk,rfl,hJs,HBr,HSr⟩:=hrel;clear HB h0 HS0;by_cases hlt:k<256
  ·cases hbit:bit s k with
   |false =>
    obtain ⟨c0,c1,c2,c3⟩:=Wl HBr.out;have HN:=zh hbit
    gi_wp2_with fail
    refine ⟨trivial,fun h=>(by cases h),?_⟩;rw [← wh];refine (callsIn_wide.2 (has_c s hs k hlt _)).mono ?_;rw [hbit];rintro e w1 ⟨rfl,hb1⟩;have hJ1:=HJ.out _ _ _ hJs HSr.out hb1;have HB1:=zh (qE hb1 HBr.out);have HS1:=zh (qs HSr.out hb1.size);clear hb1 hJs HBr HSr hbit c0 c1 c2 c3
    gi_wp2_with fail
    refine ⟨fun _ h=>(by cases h),?_⟩
    gi_wp2_with fail
    go_roundw
    case rel=>exact ⟨k+1,by omega,by go_num,by rw [lst_no HN.out];exact hJ1,HB1,HS1⟩
    case measure=>simp [intOf];omega
   |true =>
    obtain ⟨c0,c1,c2,c3⟩:=Wl HBr.out;have HN:=zh hbit
    gi_wp2_with fail
    refine ⟨trivial,fun h=>(by cases h),?_⟩;rw [← wh];refine (callsIn_wide.2 (has_c s hs k hlt _)).mono ?_;rw [hbit];rintro e w1 ⟨rfl,hb1⟩;have hJ1:=HJ.out _ _ _ hJs HSr.out hb1;have HB1:=zh (qE hb1 HBr.out);have HS1:=zh (qs HSr.out hb1.size);clear hb1 hJs HBr HSr hbit c0 c1 c2 c3;have hpre:lst s k++[(⟨k,hlt⟩:Fin 256)] <+: lst s 256:=by
     rw [← KI hlt HN.out];have:=lst_pre s (k+1) (255-k);rwa [show k+1+(255-k)=256 by omega] at this
    have HPRE:=zh hpre;obtain ⟨fn,tmps,assign,body,hy,hR⟩:=HY.out (lst s k) ⟨k,hlt⟩ w1 hJ1 HS1.out hpre;clear hpre;dsimp only at hy
    gi_wp2_with fail
    refine ⟨fun h=>(by cases h),?_⟩;have HKP:Hid (∀ W',Turn (l::MB) w1.heap.size w1 W'->W'.heap[Bs]?=some (.cells (AV s) 34)∧W.heap.size<=W'.heap.size):=zh fun W' h=>⟨Eq.trans (h.keep Bs (lt_of_block HB1.out) HNB.out) HB1.out,qs HS1.out h.size⟩
    refine hR.mono ?_;clear hR hy hJ1;rintro e w2 (⟨rfl,hJ2,hk2⟩|⟨rfl,hx2⟩)
    ·have HB2:=zh (HKP.out _ hk2).1;have HS2:=zh (HKP.out _ hk2).2;clear hk2 HKP
     gi_wp2_with fail
     go_roundw
     case rel=>exact ⟨k+1,by omega,by go_num,by rw [KI hlt HN.out];exact hJ2,HB2,HS2⟩
     case measure=>simp [intOf];omega
    ·gi_wp2_with fail
     refine bodyPost_ret (results_none rfl _ _ _) rfl ?_;exact ⟨⟨_,rfl⟩,.inr ⟨_,HPRE.out,hx2⟩⟩
  ·obtain rfl:k=256:=by omega
   gi_wp2_with fail
   go_end0
   exact ⟨⟨_,rfl⟩,.inl ⟨_,rfl,hJs⟩⟩
end
section
open Go.RowKit Go.Maps
attribute [local go_sem] qM
theorem W4.lw {s:List Nat} (h:W4 s):∃ x:LW,lwL x=s:=by
 obtain ⟨a,b,c,d,rfl,ha,hb,hc,hd⟩:=h;exact ⟨⟨mk4 a b c d,KO ha hb hc hd⟩,rfl⟩
theorem V9:∀ {l:List (List Nat)},(∀ s∈l,W4 s)->∃ S:List LW,l=S.map lwL
 |[],_=>⟨[],rfl⟩
 |s::l,h=>by
  obtain ⟨x,hx⟩:=(h s (by simp)).lw;obtain ⟨S,hS⟩:=V9 (l:=l) fun y hy=>h y (by simp [hy])
  exact ⟨x::S,by rw [qU,hx,← hS]⟩
theorem WK (x:LW):yA (lwL x)=yM x:=by
 unfold yM;rw [wh];rfl
theorem rd4_of {v:Value} {S:List LW} {w:World} (h:(zi yA 34 4 v (S.map lwL)).ho w):Rd4 w v S:=by
 obtain ⟨ad,c,rfl,hm⟩:=zW h;rw [zE] at h ⊢;rcases qR S.length with h0|h0
 ·have:S=[]:=qI h0;subst this;exact .inl ⟨rfl,ad,c,rfl⟩
 ·obtain ⟨g,c',e,_⟩:=qF h (by rw [zE];exact h0);injection e with e1 e2 e3
  subst e1 e3;refine .inr ⟨g,0,c,rfl,?_,fun i x hx=>?_⟩
  ·exact (zi yA 34 4 (.slice (some ⟨g,0,none⟩) S.length c) (S.map lwL)).lt w h g (by rw [q9];simp [Value.ownBlock])
  ·have:=jC h ki (i:=i) (x:=lwL x) (by rw [zq,hx];rfl);rw [WK] at this;rwa [qA]
theorem rd4_pool {v:Value} {S:List LW} {w:World} (h:Rd4 w v S) (hm:S.length<=maxLen):∃ P,RowIn P yM 4 v S∧(zx P).ho w∧∀ b∈(zx P).fp,v.ownBlock=some b:=by
 rcases h with ⟨rfl,a,cap,rfl⟩|⟨b,o,cap,rfl,hb,hc⟩
 ·exact ⟨[],⟨a,cap,rfl,hm,fun h=>by simp at h⟩,ky w,by rw [xf];simp⟩
 ·refine ⟨[(b,o,zX yM S)],⟨_,cap,rfl,hm,fun _=>⟨b,o,rfl,by simp⟩⟩,?_,?_⟩
  ·rw [xV];intro x hx;simp only [zV] at hx;subst hx;refine ⟨hb,fun j u hj=>?_⟩;have hjl:j<S.length*4:=(by have:=zP hj;rwa [qz yM 4 xe] at this);have hx:S[j/4]?=some (S[j/4]'(by omega)):=zg _;have h1:=wV yM 4 xe S (j/4) _ hx (j%4) (by omega);rw [show j/4*4+j%4=j by omega,hj] at h1;have:=hc (j/4) _ hx (j%4) u h1.symm;rwa [show o+j/4*4+j%4=o+j by omega] at this
  ·rw [xf];intro y hy;simp at hy;subst hy;rfl
theorem atoms_s {S:List LW} (hS:S.length<=64) {v0:Value} (w:World) (h:(zi yA 34 4 v0 (S.map lwL)).ho w) (hde:deA.ho w) :
  Calls z6 49 #[v0] w fun e w'=>∃ v L P,e=.returned v∧Prt (asB S) L∧L.length<=256∧0<L.length∧RowIn P yM 4 v L∧St w [] [zx P] w':=by
 rw [Jy] at hde;refine zm (atoms_c S (by omega) (zh (VI S)) v0 w (zh (rd4_of h)) (zh hde.1) hde.2) ?_;rintro e w' ⟨v,L,rfl,hp,_,hr,hown,hb⟩;have hprt:=prt_perm (XC S) hp;have hl:=V3 hprt;obtain ⟨P,h1,h2,h3⟩:=rd4_pool hr (by unfold maxLen;omega);refine ⟨v,L,P,rfl,hprt,hl.1,hl.2,h1,(St.nil w []).grew hb |>.os,hb.tape,hb.output,hb.size,fun b hlt _=>hb.block b hlt,fun A hA=>?_,fun A hA b hb'=>?_,by simp⟩
 ·simp only [zV] at hA;subst hA;exact h2
 ·simp only [zV] at hA;subst hA;exact .inl (hown b (h3 b hb'))
theorem St.rowPut {e g n c i z:Nat} {xs:List Nat} {w0 w:World} {M:List Nat} {R:List As} (H:St w0 M (zi q7 e 1 (.slice (some ⟨g,0,none⟩) n c) xs::R) w) (hi:i<xs.length):St w0 M (zi q7 e 1 (.slice (some ⟨g,0,none⟩) n c) (xs.set i z)::R) (w.setCell ⟨g,i,none⟩ (.int .i64 (z:Nat))):=by
 have hh:=H.ho _ zS;rw [xp] at hh;obtain ⟨hlen,hh⟩:=hh;rcases hh with ⟨h',_⟩|⟨g',cap,cs,h',h0,hg,h5,h7,h6,h8⟩
 ·cases h'
 ·injection h' with e1 e2 e3
  injection e1 with e1
  injection e1 with e1
  subst e1 e2 e3;refine St.turn H (fun b hb=>heap_setCell_other _ _ _ _ fun e=>hb (by rw [q9];simp [Value.ownBlock];exact e.symm ▸ rfl)) rfl rfl rfl (by simp) ?_ (by rw [q9,q9]);rw [xp];refine ⟨by rw [qz q7 1 zL],.inr ⟨g,c,cs.setIfInBounds i (.int .i64 (z:Nat)),by rw [yi],zH _,?_,by rw [yi];exact h5,h7,by simpa using h6,?_⟩⟩
  ·exact heap_setCell_same _ _ _ _ _ _ hg
  ·have hx:xs[i]?=some (xs[i]'hi):=zg hi;rw [Array.toList_setIfInBounds,yi,List.take_set,h8,Q5 zL (j:=0) (by omega) hx rfl];simp
end
section
open Go.RowKit Go.Maps
attribute [local go_sem] qM
theorem KM {s:Nat->Nat} {b:Nat} (hb:b<256):∀ {k:Nat},(∃ x∈lst s k,x.val=b)↔b<k∧bit s b=true
 |0=>by simp [lst]
 |k+1=>by
  rw [lst];have ih:=KM (s:=s) hb (k:=k);split
  ·rename_i h;constructor
   ·rintro ⟨x,hx,rfl⟩;rcases zt.1 hx with hx|hx
    ·have:=ih.1 ⟨x,hx,rfl⟩;exact ⟨by omega,this.2⟩
    ·simp only [zV] at hx;subst hx;exact ⟨by simp,h.2⟩
   ·rintro ⟨h1,h2⟩;rcases zD b k with h3|h3
    ·obtain ⟨x,hx,e⟩:=ih.2 ⟨h3,h2⟩;exact ⟨x,q6 _ hx,e⟩
    ·obtain rfl:b=k:=by omega
     exact ⟨⟨b,h.1⟩,qx _ (by simp),rfl⟩
  ·rename_i h;rw [ih];constructor
   ·rintro ⟨h1,h2⟩;exact ⟨by omega,h2⟩
   ·rintro ⟨h1,h2⟩;refine ⟨?_,h2⟩;rcases zD b k with h3|h3
    ·exact h3
    ·obtain rfl:b=k:=by omega
     exact absurd ⟨hb,h2⟩ h
def QK (L:List LW) (k:Nat) (pre:List (Fin 256)) (b:Nat):Nat:=if (pre.map Fin.val).contains b then k else k8 (atA L) k b
theorem Wy {L:List LW} {k:Nat}:fnL 256 (k8 (atA L) k)=fnL 256 (QK L k []):=x8 fun b _=>by simp [QK]
theorem clsB_set {L:List LW} {k n:Nat} {pre:List (Fin 256)} {x:Fin 256}:(fnL n (QK L k pre)).set x.val k=fnL n (QK L k (pre++[x])):=vH (by simp [QK]) fun j hj=>by
 unfold QK;have:((pre++[x]).map Fin.val).contains j=(pre.map Fin.val).contains j:=by
  rw [q5];simp [hj]
 rw [this]
theorem clsB_all {L:List LW} {k:Nat} {p:LW} (hp:L[k]?=some p):fnL 256 (QK L k (lst p.1 256))=fnL 256 (k8 (atA L) (k+1)):=x8 fun b hb=>by
 unfold QK;rw [k8];have h1:((lst p.1 256).map Fin.val).contains b=bit p.1 b:=by
  rw [q5,List.contains_iff_mem,zC];rw [KM hb];exact ⟨fun h=>h.2,fun h=>⟨hb,h⟩⟩
 have h2:atA L k b=bit p.1 b:=(by unfold atA;rw [hp]);rw [h1,h2]
theorem clsP_is {L:List LW}:Z9 L=fnL 256 (k8 (atA L) L.length):=rfl
def alF (S L:List LW) (k m:Nat) (j:Nat):Nat:=if j<k then (match L[j]? with|some p=>wF S p|none=>0) else if j=k then m else 0
theorem alF_zero {S L:List LW} {n:Nat}:zI n 0=fnL n (alF S L 0 0):=by
 rw [← ko];exact x8 fun j _=>by simp [alF]
theorem alF_set {S L:List LW} {k m m' n:Nat}:(fnL n (alF S L k m)).set k m'=fnL n (alF S L k m'):=vH (by simp [alF]) fun j hj=>by simp [alF,hj]
theorem alF_next {S L:List LW} {k n:Nat} {p:LW} (hp:L[k]?=some p):fnL n (alF S L k (wF S p))=fnL n (alF S L (k+1) 0):=x8 fun j _=>by
 unfold alF;by_cases h:j<k
 ·rw [if_pos h,if_pos (by omega)]
 ·rw [if_neg h];by_cases h2:j=k
  ·subst h2;rw [if_pos rfl,if_pos (by omega),hp]
  ·rw [if_neg h2,if_neg (by omega)];simp
theorem alF_all {S L:List LW}:fnL L.length (alF S L L.length 0)=L.map (wF S):=by
 apply yF;intro j;rcases zD j L.length with h|h
 ·rw [xy h,zq,zg h];unfold alF;rw [if_pos h,zg h];rfl
 ·rw [zu (by rw [j8];exact h),zu (by rw [zE];exact h)]
theorem mt_yes {p s:LW}:QA (bit s.1) (bit p.1) = !(s.1 0 &&& p.1 0==0&&s.1 1 &&& p.1 1==0&&s.1 2 &&& p.1 2==0&&s.1 3 &&& p.1 3==0):=by
 rw [q5,Xx];constructor
 ·rintro ⟨c,hc,h1,h2⟩;have hb:((s.1 (c/64)) &&& p.1 (c/64)).testBit (c%64)=true:=by
   unfold bit at h1 h2;rw [qj,h1,h2];rfl
  have hne:s.1 (c/64) &&& p.1 (c/64)≠0:=by
   intro e;rw [e] at hb;simp at hb
  have hc4:c/64=0∨c/64=1∨c/64=2∨c/64=3:=(by omega);rcases hc4 with h|h|h|h <;> (rw [h] at hne;simp [hne])
 ·intro h;have hex:∃ j,j<4∧s.1 j &&& p.1 j≠0:=by
   by_cases h0:s.1 0 &&& p.1 0=0
   ·by_cases h1:s.1 1 &&& p.1 1=0
    ·by_cases h2:s.1 2 &&& p.1 2=0
     ·by_cases h3:s.1 3 &&& p.1 3=0
      ·rw [h0,h1,h2,h3] at h;simp at h
      ·exact ⟨3,by omega,h3⟩
     ·exact ⟨2,by omega,h2⟩
    ·exact ⟨1,by omega,h1⟩
   ·exact ⟨0,by omega,h0⟩
  obtain ⟨j,hj,hne⟩:=hex;have hbit:∃ i,(s.1 j &&& p.1 j).testBit i=true:=by
   apply Classical.byContradiction;intro hn;apply hne;refine yV fun i=>?_
   rw [Nat.zero_testBit];cases e:(s.1 j &&& p.1 j).testBit i
   ·rfl
   ·exact absurd ⟨i,e⟩ hn
  obtain ⟨i,hi⟩:=hbit;have hlt:s.1 j &&& p.1 j<2 ^ 64:=yL vB (by have:=s.2 j;simpa using this);have hi64:i<64:=by
   rcases zD i 64 with g|g
   ·exact g
   ·rw [wU (qO hlt (Nat.pow_le_pow_right (by omega) g))] at hi;cases hi
  rw [qj,zf] at hi;refine ⟨64*j+i,by omega,?_,?_⟩
  ·unfold bit;rw [show (64*j+i)/64=j by omega,show (64*j+i)%64=i by omega];exact hi.1
  ·unfold bit;rw [show (64*j+i)/64=j by omega,show (64*j+i)%64=i by omega];exact hi.2
theorem Ko {S:List LW} {p:LW}:wF S p=kL (mtA S p) S.length:=rfl
theorem VE {P:Nat->Bool}:kL P 0=0:=rfl
def CIL (b2 b4 b7 b8 bs gl gw n k a0 a1 a2 a3:Nat) (ds:List Nat) (S L:List LW) (PA:zT) (pre:List (Fin 256)):List As:=[zi q7 3 1 (.slice (some ⟨gl,0,none⟩) 256 256) (fnL 256 (QK L k pre)),blk b7 (.cells #[.int .i64 (k:Nat)] 3),blk b8 (.cells #[.int .u64 (a0:Nat),.int .u64 (a1:Nat),.int .u64 (a2:Nat),.int .u64 (a3:Nat)] 34),xi ds,blk b2 (.cells #[.int .i64 0,.slice none 0 0,.slice none 0 0,.slice none 0 0] 27),blk b4 (.cells #[.int .i64 0,.slice (some ⟨gl,0,none⟩) 256 256,.slice none 0 0,.slice none 0 0] 27),zi qY 32 1 (.slice (some ⟨gw,0,none⟩) n n) (fnL n (alF S L k 0)),zx PA,blk bs (.cells #[.int .u64 (a0:Nat),.int .u64 (a1:Nat),.int .u64 (a2:Nat),.int .u64 (a3:Nat)] 34)]
def CI (w:World) (b2 b4 b7 b8 bs gl gw n k a0 a1 a2 a3:Nat) (ds:List Nat) (S L:List LW) (PA:zT) (pre:List (Fin 256)) (W:World):Prop:=St w [] (CIL b2 b4 b7 b8 bs gl gw n k a0 a1 a2 a3 ds S L PA pre) W
theorem CI_abd {w:World} {b2 b4 b7 b8 bs gl gw n k a0 a1 a2 a3 B:Nat} {ds:List Nat} {S L:List LW} {PA:zT} (h0:w.heap.size<=B) (hL:∀ b∈fps (CIL b2 b4 b7 b8 bs gl gw n k a0 a1 a2 a3 ds S L PA []),b<B):Abd [] B (CI w b2 b4 b7 b8 bs gl gw n k a0 a1 a2 a3 ds S L PA):=by
 intro pre W W' h ht;refine St.turned h ht h0 (by simp) fun A hA b hb=>⟨hL b ?_,by simp⟩
 have:b∈fps (CIL b2 b4 b7 b8 bs gl gw n k a0 a1 a2 a3 ds S L PA pre):=qP.2 ⟨A,hA,hb⟩;unfold CIL at this ⊢;simpa [fps,qi,q9] using this
theorem Turn.setCellAt (M:List Nat) {B g i:Nat} (W:World) (v:Value) (h:g∈M∨B<=g):Turn M B W (W.setCell ⟨g,i,none⟩ v):=by
 refine ⟨rfl,rfl,rfl,by simp,fun b hb hm=>heap_setCell_other _ _ _ _ ?_⟩;intro e;have e:b=g:=e;rw [e] at hb hm;rcases h with h|h
 ·exact hm h
 ·omega
theorem Wa {α:Type} {enc:α->List Value} {e k g n c j:Nat} {xs:List α} {w:World} (h:(zi enc e k (.slice (some ⟨g,0,none⟩) n c) xs).ho w):w.frozen? ⟨g,j,none⟩=false:=by
 rw [xp] at h;obtain ⟨_,hh⟩:=h;rcases hh with ⟨h',_⟩|⟨g',cap,cs,h',h0,hg,_⟩
 ·cases h'
 ·injection h' with e1 e2 e3
  injection e1 with e1
  injection e1 with e1
  subst e1;exact frozen_of_row _ _ _ _ _ hg
def ClRelB (w:World) (b2 b4 b7 b8 gl gw n k a0 a1 a2 a3 nS:Nat) (ds:List Nat) (S L:List LW) (p:LW) (PA:zT) (mm:Nat) (v36:Value) (wr:World):Prop :=
 ∃ i:Nat,mm=nS-i∧i<=nS∧v36=.int .i64 i∧St w [] [xi ds,blk b2 (.cells #[.int .i64 0,.slice none 0 0,.slice none 0 0,.slice none 0 0] 27),blk b4 (.cells #[.int .i64 0,.slice (some ⟨gl,0,none⟩) 256 256,.slice none 0 0,.slice none 0 0] 27),blk b7 (.cells #[.int .i64 (k:Nat)] 3),blk b8 (.cells #[.int .u64 (a0:Nat),.int .u64 (a1:Nat),.int .u64 (a2:Nat),.int .u64 (a3:Nat)] 34),zi q7 3 1 (.slice (some ⟨gl,0,none⟩) 256 256) (fnL 256 (k8 (atA L) (k+1))),zi qY 32 1 (.slice (some ⟨gw,0,none⟩) n n) (fnL n (alF S L k (kL (mtA S p) i))),zx PA] wr
def ClRel (w:World) (b2 b4 gl gw n:Nat) (S L:List LW) (PA:zT) (mm:Nat) (ds:List Nat) (v21:Value) (wr:World):Prop :=
 ∃ k:Nat,mm=n-k∧k<=n∧v21=.int .i64 k∧ds.Nodup∧St w [] [xi ds,blk b2 (.cells #[.int .i64 0,.slice none 0 0,.slice none 0 0,.slice none 0 0] 27),blk b4 (.cells #[.int .i64 0,.slice (some ⟨gl,0,none⟩) 256 256,.slice none 0 0,.slice none 0 0] 27),zi q7 3 1 (.slice (some ⟨gl,0,none⟩) 256 256) (fnL 256 (k8 (atA L) k)),zi qY 32 1 (.slice (some ⟨gw,0,none⟩) n n) (fnL n (alF S L k 0)),zx PA] wr
attribute [local irreducible] fnL QK k8 alF kL wF
attribute [local go_sem] Oper.semAt_some
theorem Vh {S:List LW} {v0:Value} (hS:S.length<=64) (w:World) (hr0:(zi yA 34 4 v0 (S.map lwL)).ho w) (hde:deA.ho w) :
  Calls z6 34 #[v0] w fun e w'=>∃ (L:List LW) (vc va:Value),e=.returned (.tuple #[.agg #[.int .i64 0,vc,.slice none 0 0,.slice none 0 0],va])∧Prt (asB S) L∧L.length<=256∧0<L.length∧St w [] [zi q7 3 1 vc (Z9 L),zi qY 32 1 va (L.map (wF S))] w':=by
 have H:=St.nil w [];have HK:Ks w [] [zi yA 34 4 v0 (S.map lwL),deA]:=Ks.cons hr0 (by simp) (Ks.one hde);have HAT:Hid (∀ w,(zi yA 34 4 v0 (S.map lwL)).ho w->deA.ho w->Calls z6 49 #[v0] w fun e w'=>∃ v L P,e=.returned v∧Prt (asB S) L∧L.length<=256∧0<L.length∧RowIn P yM 4 v L∧St w [] [zx P] w'):=zh fun w h1 h2=>atoms_s hS w h1 h2
 obtain ⟨ad0,c0,rfl,_⟩:=zW hr0;rw [zE] at HAT HK ⊢;obtain ⟨nS,hnS⟩:∃ z,S.length=z:=⟨_,rfl⟩
 have HNS:=zh hnS;rw [hnS] at HAT HK hS ⊢;clear hr0 hde hnS;refine (callsIn_wide (n:=3)).1 ?_;refine callsIn_of_wp_marks Tryd.func34 rfl trivial ?_ rfl;simp only [Tryd.ntmps34,List.size_toArray,yZ,List.length_nil,Nat.reduceAdd,Nat.reduceSub,Array.replicate_succ,Array.replicate_zero,List.push_toArray,List.append_toArray,z8,z7];refine wpIn_wide.2 ?_;go_wp2_with (first|refine sL ?_|(refine sS ?_;clear H;intros;rename_i H)|((with_reducible refine jl ?_);refine AtMk1.row (enc:=q7) H rfl rfl 256 rfl rfl rfl rfl rfl 0 rfl zL (by omega) (by omega) ?_;clear H;intro gl _ H;simp only [Act.put,puA,puB,puC]));refine zm (HAT.out _ (H.known (A:=zi yA 34 4 (.slice ad0 nS c0) (S.map lwL)) HK pk) (H.known (A:=deA) HK pk)) ?_;rintro e wc ⟨v,L,PA,rfl,hprt,hL1,hL0,hrow,hb⟩;replace H:=zn (H.call0 hb);clear hb;obtain ⟨ga,oa,ca,rfl,_⟩:=hrow.has hL0;obtain ⟨n,hn⟩:∃ z,L.length=z:=⟨_,rfl⟩
 have HL:=zh (za hn (za hprt hrow));rw [hn] at hL1 hL0 ⊢;clear hn hprt hrow;go_wp2_with (first|refine sL ?_|(refine sS ?_;clear H;intros;rename_i H)|((with_reducible refine jl ?_);refine AtMk1.row (enc:=qY) H rfl rfl n rfl rfl rfl rfl rfl 0 rfl wj (by omega) (by omega) ?_;clear H;intro gw _ H;simp only [Act.put,puA,puB,puC]));rename_i b2 _ _ b4 _ _ _ _ _ _;replace H:=H.empty (A:=xi []) (JP _) (x9 []);have e0:fnL 256 (k8 (atA L) 0)=zI 256 0:=by
  rw [← ko];exact x8 fun b _=>by rw [k8]
 rw [alF_zero (S:=S) (L:=L),← e0] at H;clear e0;refine wp_loop_ghost_k (fun mm a' w'=>∃ (ds:List Nat) (u7 u8 u9 u10 u11 u21 u22 u23 u24 u25 u26 u27 u28 u29 u30 u31 u32 u33 u34 u35 u36 u37 u38 u39 u40 u41 u42 u43 u44 u45 u46 u47 u48 u49 u50 u51 u52 u53 u54 u55:Value),ClRel w b2 b4 gl gw n S L PA mm ds u21 w'∧a'={ tmps:=#[.slice ad0 nS c0,undef,.pointer (some ⟨b2,0,none⟩),.slice none 0 0,.pointer (some ⟨b4,0,none⟩),.slice (some ⟨ga,oa,none⟩) n ca,.slice (some ⟨gw,0,none⟩) n n,u7,u8,u9,u10,u11,.slice (some ⟨gl,0,none⟩) 256 256,.agg #[.int .i64 0,.slice (some ⟨gl,0,none⟩) 256 256,.slice none 0 0,.slice none 0 0],.slice ad0 nS c0,.slice (some ⟨ga,oa,none⟩) n ca,.slice (some ⟨ga,oa,none⟩) n ca,.int .i64 (n:Nat),.slice (some ⟨gw,0,none⟩) n n,.slice (some ⟨ga,oa,none⟩) n ca,.int .i64 (n:Nat),u21,u22,u23,u24,u25,u26,u27,u28,u29,u30,u31,u32,u33,u34,u35,u36,u37,u38,u39,u40,u41,u42,u43,u44,u45,u46,u47,u48,u49,u50,u51,u52,u53,u54,u55,undef,undef],defers:=ds.map mkD }) n ?_ ?_
 ·refine ⟨[],?_⟩;(repeat apply Exists.intro)
  refine ⟨?_,rfl⟩;exact ⟨0,rfl,zH _,rfl,List.nodup_nil,H.picks (.cons pk (.cons pk (.cons pk (.cons pk (.cons pk (.cons pk .nil))))))⟩
 intro gk _ wr hinv;clear H;obtain ⟨ds,u7,u8,u9,u10,u11,u21,u22,u23,u24,u25,u26,u27,u28,u29,u30,u31,u32,u33,u34,u35,u36,u37,u38,u39,u40,u41,u42,u43,u44,u45,u46,u47,u48,u49,u50,u51,u52,u53,u54,u55,hrel,ha⟩:=hinv;subst ha;try dsimp only
 intro _ _ _ _;obtain ⟨k,rfl,hk,rfl,hnd,H⟩:=hrel;have HND:=zh hnd;clear hnd;by_cases hlt:k<n
 ·have f1:decide ((k:Int)<(n:Int))=true:=(by simp;omega);have f1n:decide (k<n)=true:=(by simp;omega);obtain ⟨p,hp⟩:∃ p,L[k]?=some p:=⟨_,zg (by rw [HL.out.1];exact hlt)⟩
  have hrng:∀ w,(zx PA).ho w->w.rangeAt ga (oa+k*4) (yM p):=fun w h=>by
   have:=HL.out.2.2.rng h xe hp;exact this
  have hall:=all_c p.1;obtain ⟨a0,ha0⟩:∃ z,p.1 0=z:=⟨_,rfl⟩
  obtain ⟨a1,ha1⟩:∃ z,p.1 1=z:=⟨_,rfl⟩
  obtain ⟨a2,ha2⟩:∃ z,p.1 2=z:=⟨_,rfl⟩
  obtain ⟨a3,ha3⟩:∃ z,p.1 3=z:=⟨_,rfl⟩
  have hAV:AV p.1=#[.int .u64 (a0:Nat),.int .u64 (a1:Nat),.int .u64 (a2:Nat),.int .u64 (a3:Nat)]:=(by rw [wh,ha0,ha1,ha2,ha3]);have hen:yM p=[.int .u64 (a0:Nat),.int .u64 (a1:Nat),.int .u64 (a2:Nat),.int .u64 (a3:Nat)]:=(by unfold yM;rw [hAV]);rw [hAV] at hall;rw [hen] at hrng;have HP:=zh (za hp hAV);have HALL:=zh hall;have HRP:=zh hrng;have HA:=zh (za ha0 (za ha1 (za ha2 ha3)));clear hp hAV hen hall hrng ha0 ha1 ha2 ha3;go_wp2_with (first|refine sL ?_|(refine sS ?_;clear H;intros;rename_i H)|((with_reducible refine qN ?_);refine AtLoad.rngT rfl rfl rfl (HRP.out _ (H.get pk)) rfl ?_;simp only [Act.put,puA,puB,puC]));rename_i b7 _ b8 _ _ wx _ _ _ _ _ _;refine zm (HALL.out _) ?_;rintro e wc ⟨rfl,rfl⟩;replace H:=H.alloc (.cells #[.int .u64 (a0:Nat),.int .u64 (a1:Nat),.int .u64 (a2:Nat),.int .u64 (a3:Nat)] 34);obtain ⟨bs,hbs⟩:∃ z,wx.heap.size=z:=⟨_,rfl⟩
  rw [hbs] at H ⊢;obtain ⟨wd,hwd⟩:∃ z,wx.alloc (.cells #[.int .u64 (a0:Nat),.int .u64 (a1:Nat),.int .u64 (a2:Nat),.int .u64 (a3:Nat)] 34)=z:=⟨_,rfl⟩
  rw [hwd] at H ⊢;clear hbs hwd;go_wp2_with (first|refine sL ?_|(refine sS ?_;clear H;intros;rename_i H));replace H:=H.picks (.cons (A:=zi q7 3 1 (.slice (some ⟨gl,0,none⟩) 256 256) (fnL 256 (k8 (atA L) k))) pk (.cons (A:=blk b7 (.cells #[.int .i64 (k:Nat)] 3)) pk (.cons (A:=blk b8 (.cells #[.int .u64 (a0:Nat),.int .u64 (a1:Nat),.int .u64 (a2:Nat),.int .u64 (a3:Nat)] 34)) pk (.cons (A:=xi ds) pk (.cons (A:=blk b2 (.cells #[.int .i64 0,.slice none 0 0,.slice none 0 0,.slice none 0 0] 27)) pk (.cons (A:=blk b4 (.cells #[.int .i64 0,.slice (some ⟨gl,0,none⟩) 256 256,.slice none 0 0,.slice none 0 0] 27)) pk (.cons (A:=zi qY 32 1 (.slice (some ⟨gw,0,none⟩) n n) (fnL n (alF S L k 0))) pk (.cons (A:=zx PA) pk (.cons (A:=blk bs (.cells #[.int .u64 (a0:Nat),.int .u64 (a1:Nat),.int .u64 (a2:Nat),.int .u64 (a3:Nat)] 34)) pk .nil)))))))));have hbsg:bs ∉ [gl]:=by
   have h1:=(H.pick2 (A:=blk bs (.cells #[.int .u64 (a0:Nat),.int .u64 (a1:Nat),.int .u64 (a2:Nat),.int .u64 (a3:Nat)] 34)) (B:=zi q7 3 1 (.slice (some ⟨gl,0,none⟩) 256 256) (fnL 256 (k8 (atA L) k))) pk pk).dis;have h2:=(zK.1 h1).1 (zi q7 3 1 (.slice (some ⟨gl,0,none⟩) 256 256) (fnL 256 (k8 (atA L) k))) (by simp) bs (by rw [qi];simp);rw [q9] at h2;simpa [Value.ownBlock] using h2
  have hfp:∀ b∈fps (CIL b2 b4 b7 b8 bs gl gw n k a0 a1 a2 a3 ds S L PA []),w.heap.size<=b∧b<wd.heap.size:=fun b hb=>by
   have h1:=(St.parted (L1:=[]) (L2:=CIL b2 b4 b7 b8 bs gl gw n k a0 a1 a2 a3 ds S L PA []) (by rw [z8];unfold CIL;rw [← Wy];exact H)).1 b hb;exact h1
  have hseq:=all_seq p.1 p.2 2 bs (MB:=[gl]) wd (by rw [HP.out.2];exact H.at pk) hbsg;have hI0:CI w b2 b4 b7 b8 bs gl gw n k a0 a1 a2 a3 ds S L PA [] wd:=by
   unfold CI CIL;rw [← Wy];exact H
  have hgl:gl<wd.heap.size:=(hfp gl (by unfold CIL;simp [fps,q9,Value.ownBlock])).2;have hw0:w.heap.size<=wd.heap.size:=H.size;clear H hbsg;refine (wpIn_wide (n:=3)).1 ?_;refine Qg (F:=Fence.wide) (n:=3) rfl (by omega) (gf:=66) (lb:=#[.pointer (some ⟨bs,0,none⟩)]) rfl trivial (enters_of Tryd.func66 (by kernel_rfl) rfl) hseq (fun b hb=>by simp at hb) (fun b hb=>by simp at hb;subst hb;exact hgl) (fun _=>rfl)
   (CI w b2 b4 b7 b8 bs gl gw n k a0 a1 a2 a3 ds S L PA) (fun _ _ _=>False) (CI_abd hw0 fun b hb=>(hfp b hb).2) (fun c _ _ _ h _=>h) hI0
   (fun x=>{ tmps:=#[.slice ad0 nS c0,undef,.pointer (some ⟨b2,0,none⟩),.slice none 0 0,.pointer (some ⟨b4,0,none⟩),.slice (some ⟨ga,oa,none⟩) n ca,.slice (some ⟨gw,0,none⟩) n n,.pointer (some ⟨b7,0,none⟩),.pointer (some ⟨b8,0,none⟩),.int .u8 (x.val:Nat),u10,u11,.slice (some ⟨gl,0,none⟩) 256 256,.agg #[.int .i64 0,.slice (some ⟨gl,0,none⟩) 256 256,.slice none 0 0,.slice none 0 0],.slice ad0 nS c0,.slice (some ⟨ga,oa,none⟩) n ca,.slice (some ⟨ga,oa,none⟩) n ca,.int .i64 (n:Nat),.slice (some ⟨gw,0,none⟩) n n,.slice (some ⟨ga,oa,none⟩) n ca,.int .i64 (n:Nat),.int .i64 (k:Nat),.bool true,.int .i64 (k:Nat),.pointer (some ⟨ga,oa+k*4,none⟩),.agg #[.int .u64 (a0:Nat),.int .u64 (a1:Nat),.int .u64 (a2:Nat),.int .u64 (a3:Nat)],.agg #[.int .u64 (a0:Nat),.int .u64 (a1:Nat),.int .u64 (a2:Nat),.int .u64 (a3:Nat)],.func (.func 66) #[] #[.pointer (some ⟨bs,0,none⟩)],.int .u8 (x.val:Nat),u29,u30,u31,u32,u33,u34,u35,u36,u37,u38,u39,u40,u41,u42,u43,u44,u45,u46,u47,u48,u49,u50,u51,u52,u53,u54,u55,undef,undef],defers:=[] }) ?assign ?body ?done (fun _ _ _ _ _ _ h _=>h.elim)
  case assign =>
   intro l x W K hK
   gi_wp2
   exact hK
  case body =>
   rintro l pre ⟨x,hx⟩ W hlen hH hok;have H:=hH;unfold CI CIL at H;have d1:decide ((x:Int)<256)=true:=(by simp;omega);have d1n:decide (x<256)=true:=(by simp;omega);have e0:=cell_of_row W b4 1 _ 27 (0,0) (H.at (g:=b4) (o:=.cells #[.int .i64 0,.slice (some ⟨gl,0,none⟩) 256 256,.slice none 0 0,.slice none 0 0] 27) pk);have e1:=cell_of_row W b7 0 _ 3 (0,0) (H.at (g:=b7) (o:=.cells #[.int .i64 (k:Nat)] 3) pk);have e2:=qL (H.get (A:=zi q7 3 1 (.slice (some ⟨gl,0,none⟩) 256 256) (fnL 256 (QK L k pre))) pk) zL (xy hx) (j:=0) rfl;have f0:=Wa (j:=x) (H.get (A:=zi q7 3 1 (.slice (some ⟨gl,0,none⟩) 256 256) (fnL 256 (QK L k pre))) pk);have H2:=zh (St.rowPut (i:=x) (z:=k) H (by rw [j8];exact hx));have HT:=zh (Turn.setCellAt [gl] (B:=W.heap.size) (g:=gl) (i:=x) W (.int .i64 (k:Nat)) (.inl (by simp)));simp only [kW,Nat.add_zero,List.getElem?_toArray,List.getElem?_cons_zero,qD] at e0 e1 e2;clear H hH hok hseq hI0
   gi_wp2_with fail
   exact ⟨HT.out,by unfold CI CIL;rw [← clsB_set];exact H2.out⟩
  case done =>
   rintro D ys W hD rfl hI hK;have H:=hI;unfold CI CIL at H;have hfp2:∀ b∈fps (CIL b2 b4 b7 b8 bs gl gw n k a0 a1 a2 a3 ds S L PA (lst p.1 256)),b<wd.heap.size:=fun b hb=>(hfp b (by
    unfold CIL at hb ⊢;simpa [fps,qi,q9] using hb)).2
   replace H:=St.add H hK (by omega) (fun b hb=>by
    have:=hfp2 b (by unfold CIL;exact hb);omega)
   rw [clsB_all HP.out.1] at H;have hDn:(D::ds).Nodup:=List.nodup_cons.2 ⟨fun hm=>by
    have:=(hfp D (by unfold CIL;simp [fps,x9,hm])).2;omega,HND.out⟩
   have HDN:=zh hDn;replace H:=(H.pick2 (A:=blk D (.deferred (some []))) (B:=xi ds) pk pk).mark;have HF0:Hid (kL (mtA S p) 0=0):=zh VE;clear hI hK hfp hfp2 hDn hseq hI0;go_wp2_with (first|refine sL ?_|(refine sS ?_;clear H;intros;rename_i H));go_loopg [36] nS (fun mm v36 wr=>ClRelB w b2 b4 b7 b8 gl gw n k a0 a1 a2 a3 nS (D::ds) S L p PA mm v36 wr);case atStart=>exact ⟨0,rfl,zH _,rfl,H.picks (.cons pk (.cons pk (.cons pk (.cons pk (.cons pk (.cons pk (.cons (by rw [HF0.out];exact pk) (.cons pk .nil))))))))⟩
   case round =>
    clear H;obtain ⟨i,rfl,hi,rfl,H⟩:=hrel;have hml:kL (mtA S p) i<18446744073709551616:=KP (by omega);by_cases hit:i<nS
    ·have g1:decide ((i:Int)<(nS:Int))=true:=(by simp;omega);have g1n:decide (i<nS)=true:=(by simp;omega);obtain ⟨s,hs⟩:∃ s,S[i]?=some s:=⟨_,zg (by rw [HNS.out];exact hit)⟩
     obtain ⟨g0,c',he,_⟩:=qF (H.known (A:=zi yA 34 4 (.slice ad0 nS c0) (S.map lwL)) HK pk) (by rw [zE,HNS.out];omega);simp only [Value.slice.injEq] at he;obtain ⟨rfl,h8,h9⟩:=he;clear h8 h9;have hrs:∀ w,(zi yA 34 4 (.slice (some ⟨g0,0,none⟩) nS c0) (S.map lwL)).ho w->w.rangeAt g0 (i*4) (yM s):=fun w h=>by
      have:=jC h ki (i:=i) (x:=lwL s) (by rw [zq,hs];rfl);rwa [WK] at this
     have hmeet:=meet_c s.1 p.1 s.2 p.2;have hmt:=mt_yes (p:=p) (s:=s);have hms:=Xy (P:=mtA S p) (n:=i);have hmi:mtA S p i=QA (bit s.1) (bit p.1):=(by unfold mtA;rw [hs]);obtain ⟨s0,hs0⟩:∃ z,s.1 0=z:=⟨_,rfl⟩
     obtain ⟨s1,hs1⟩:∃ z,s.1 1=z:=⟨_,rfl⟩
     obtain ⟨s2,hs2⟩:∃ z,s.1 2=z:=⟨_,rfl⟩
     obtain ⟨s3,hs3⟩:∃ z,s.1 3=z:=⟨_,rfl⟩
     have hAVs:AV s.1=#[.int .u64 (s0:Nat),.int .u64 (s1:Nat),.int .u64 (s2:Nat),.int .u64 (s3:Nat)]:=(by rw [wh,hs0,hs1,hs2,hs3]);have hens:yM s=[.int .u64 (s0:Nat),.int .u64 (s1:Nat),.int .u64 (s2:Nat),.int .u64 (s3:Nat)]:=(by unfold yM;rw [hAVs]);obtain ⟨ha0,ha1,ha2,ha3⟩:=HA.out;have hAVx:AV (vU s.1 p.1)=#[.int .u64 (s0 &&& a0:Nat),.int .u64 (s1 &&& a1:Nat),.int .u64 (s2 &&& a2:Nat),.int .u64 (s3 &&& a3:Nat)]:=(by rw [wh];unfold vU;rw [hs0,hs1,hs2,hs3,ha0,ha1,ha2,ha3]);rw [hAVs,HP.out.2,hAVx] at hmeet;rw [hens] at hrs;rw [hs0,hs1,hs2,hs3,ha0,ha1,ha2,ha3] at hmt;rw [hmi] at hms;obtain ⟨x0,hx0⟩:∃ z,s0 &&& a0=z:=⟨_,rfl⟩
     obtain ⟨x1,hx1⟩:∃ z,s1 &&& a1=z:=⟨_,rfl⟩
     obtain ⟨x2,hx2⟩:∃ z,s2 &&& a2=z:=⟨_,rfl⟩
     obtain ⟨x3,hx3⟩:∃ z,s3 &&& a3=z:=⟨_,rfl⟩
     rw [hx0,hx1,hx2,hx3] at hmeet hmt;have hmz:(!((x0:Int)==0&&(x1:Int)==0&&(x2:Int)==0&&(x3:Int)==0))=QA (bit s.1) (bit p.1):=by
      rw [hmt];have e:∀ x:Nat,((x:Int)==0)=(x==0):=fun x=>by rw [q5];simp
      rw [e,e,e,e]
     obtain ⟨m,hm⟩:∃ z,kL (mtA S p) i=z:=⟨_,rfl⟩
     rw [hm] at H hml hms;have HM:=zh hm;have HRS:=zh hrs;have HMEET:=zh hmeet;have HX0:Hid ((fnL n (alF S L k m))[k]?=some m):=zh (by rw [xy hlt];unfold alF;rw [if_neg (by omega),if_pos rfl]);have HCK:Hid (∀ w,(zi qY 32 1 (.slice (some ⟨gw,0,none⟩) n n) (fnL n (alF S L k m))).ho w->w.cell? ⟨gw,k,none⟩=some (.int .u64 (m:Nat))):=zh fun w h=>by
      have:=qL h wj HX0.out (j:=0) rfl;simpa using this
     have i64:i<64:=(by omega);have hp2:2 ^ i<18446744073709551616:=by
      have:=jO (a:=2) (by omega) i64;simpa using this
     have hwr:IntKind.u64.wrap ((2:Int) ^ i)=((2 ^ i:Nat):Int):=by
      have e:((2:Int) ^ i)=((2 ^ i:Nat):Int):=(by simp);rw [e];exact wrapN _ hp2
     obtain ⟨p2,hp2e⟩:∃ z,(2:Nat) ^ i=z:=⟨_,rfl⟩
     rw [hp2e] at hp2 hwr hms;have hor:=u64_or_nat m p2 hml hp2;obtain ⟨m2,hm2⟩:∃ z,m ||| p2=z:=⟨_,rfl⟩
     rw [hm2] at hor hms;clear hm hrs hmeet hs0 hs1 hs2 hs3 hAVs hens hAVx ha0 ha1 ha2 ha3 hx0 hx1 hx2 hx3 hmt hmi hp2e hm2 hs;cases hz:QA (bit s.1) (bit p.1) with
     |false =>
      rw [hz] at hmz hms;have HMZ:=zh hmz;have HMS:=zh hms;clear hmz hms hz hp2 hwr hor;go_wp2_with (first|refine sL ?_|(refine sS ?_;clear H;intros;rename_i H)|((with_reducible refine qN ?_);refine AtLoad.rngT rfl rfl rfl (HRS.out _ (H.known (A:=zi yA 34 4 (.slice (some ⟨g0,0,none⟩) nS c0) (S.map lwL)) HK pk)) rfl ?_;simp only [Act.put,puA,puB,puC])|(go_at_call 51;refine (HMEET.out _).mono ?_;rintro e wc ⟨rfl,hb⟩;replace H:=H.grew hb;clear hb)|((with_reducible refine xu ?_);refine AtNeq.w4 rfl rfl x0 x1 x2 x3 0 0 0 0 rfl rfl HMZ.out ?_;simp only [Act.put,puA,puB,puC]));go_roundg (nS-(i+1));case measure=>omega
      case rel=>exact ⟨i+1,rfl,by omega,by go_num,by rw [HMS.out];exact H.picks (.cons pk (.cons pk (.cons pk (.cons pk (.cons pk (.cons pk (.cons pk (.cons pk .nil))))))))⟩
     |true =>
      rw [hz] at hmz hms;have HMZ:=zh hmz;have HMS:=zh hms;clear hmz hms hz;go_wp2_with (first|refine sL ?_|(refine sS ?_;clear H;intros;rename_i H)|((with_reducible refine qN ?_);refine AtLoad.rngT rfl rfl rfl (HRS.out _ (H.known (A:=zi yA 34 4 (.slice (some ⟨g0,0,none⟩) nS c0) (S.map lwL)) HK pk)) rfl ?_;simp only [Act.put,puA,puB,puC])|(go_at_call 51;refine (HMEET.out _).mono ?_;rintro e wc ⟨rfl,hb⟩;replace H:=H.grew hb;clear hb)|((with_reducible refine xu ?_);refine AtNeq.w4 rfl rfl x0 x1 x2 x3 0 0 0 0 rfl rfl HMZ.out ?_;simp only [Act.put,puA,puB,puC]));refine zr H 8 [] [] (by kernel_rfl) (by kernel_rfl) ?_;apply Exists.intro;refine ⟨fun w1 hw1 HX=>?_,fun bs wr Hr=>?_⟩
      ·refine sG ?_;repeat (first|go_big_quiet_skip|refine sQ ?_|fail|go_big_quiet_step (fail))
       exact wpQuiet_nil rfl
      clear H;have H:=Hr;clear Hr;replace H:=sH H;refine sT ?_;go_wp2_with (first|refine sL ?_|(refine sS ?_;clear H;intros;rename_i H)|((with_reducible refine yy ?_);refine AtStore.rowAk (enc:=qY) (k:=1) (i:=k) (j:=0) H rfl rfl rfl rfl rfl rfl pk wj (HX0.out) (by omega) (by simp) m2 rfl ?_;clear H;intro _ H;simp only [Act.put,puA,puB,puC]));rw [alF_set] at H;go_roundg (nS-(i+1));case measure=>omega
      case rel=>exact ⟨i+1,rfl,by omega,by go_num,by rw [HMS.out];exact H.picks (.cons pk (.cons pk (.cons pk (.cons pk (.cons pk (.cons pk (.cons pk (.cons pk .nil))))))))⟩
    ·have g1:decide ((i:Int)<(nS:Int))=false:=(by simp;omega);have g1n:decide (i<nS)=false:=(by simp;omega);obtain rfl:nS=i:=by omega
     have hm:kL (mtA S p) nS=wF S p:=(by rw [← HNS.out,Ko]);rw [hm,alF_next HP.out.1] at H;clear hm hml;go_wp2_with (first|refine sL ?_|(refine sS ?_;clear H;intros;rename_i H));refine Handed.intro (n-(k+1)) ?measure ?_;rotate_left
     go_step
     refine ⟨D::ds,?_⟩;(repeat apply Exists.intro)
     refine ⟨?rel,rfl⟩;case measure=>omega
     case rel=>exact ⟨k+1,rfl,by omega,by go_num,HDN.out,H.picks (.cons pk (.cons pk (.cons pk (.cons pk (.cons pk (.cons pk .nil))))))⟩
 ·have f1:decide ((k:Int)<(n:Int))=false:=(by simp;omega);have f1n:decide (k<n)=false:=(by simp;omega);obtain rfl:n=k:=by omega
  have hcl:fnL 256 (k8 (atA L) n)=Z9 L:=(by rw [clsP_is,HL.out.1]);have hal:fnL n (alF S L n 0)=L.map (wF S):=by
   have:=alF_all (S:=S) (L:=L);rwa [HL.out.1] at this
  rw [hcl,hal] at H;clear hcl hal;go_wp2_with (first|refine sL ?_|(refine sS ?_;clear H;intros;rename_i H));refine XG ds HND.out (H.pick (A:=xi ds) pk) fun w' H'=>?_
  refine ⟨_,yv rfl H' rfl pk rfl rfl,?_⟩;exact ⟨L,_,_,rfl,HL.out.2.1,by rw [HL.out.1];omega,by rw [HL.out.1];omega,H'.picks (.cons (A:=zi q7 3 1 (.slice (some ⟨gl,0,none⟩) 256 256) (Z9 L)) pk (.cons (A:=zi qY 32 1 (.slice (some ⟨gw,0,none⟩) n n) (L.map (wF S))) pk .nil))⟩
end
section
open Go.RowKit Go.Maps
attribute [local go_sem] qM
def esU (ks:List Nat):List (Value×Value):=ks.mapIdx fun i k=>(.int .u64 (k:Nat),.int .i64 ((i+1:Nat):Int))
theorem esU_snoc (ks:List Nat) (k:Nat):esU (ks++[k])=esU ks++[(.int .u64 (k:Nat),.int .i64 ((ks.length+1:Nat):Int))]:=by
 unfold esU;rw [List.mapIdx_append];simp
theorem XS {ks:List Nat} {e:Value×Value} (h:e∈esU ks):∃ (i:Nat) (k:Nat),ks[i]?=some k∧e=(.int .u64 (k:Nat),.int .i64 ((i+1:Nat):Int)):=by
 obtain ⟨i,hi⟩:=yj.1 h;unfold esU at hi;rw [yr] at hi;cases hk:ks[i]? with
 |none=>rw [hk] at hi;simp at hi
 |some k=>rw [hk] at hi;simp at hi;exact ⟨i,k,hk,by rw [← hi];simp⟩
theorem esU_of {ks:List Nat} {i k:Nat} (h:ks[i]?=some k):(Value.int .u64 (k:Nat),Value.int .i64 ((i+1:Nat):Int))∈esU ks:=by
 refine yj.2 ⟨i,?_⟩;unfold esU;rw [yr,h];rfl
theorem Wh {k:Nat} (hk:k<18446744073709551616):∃ l,keyOf z6 32 (.int .u64 (k:Nat))=some l:=by
 refine ⟨_,keyOf_int_mk (q:=.u64) un_32 ?_⟩;simp only [Lit.wf,zf,decide_eq_true_eq,IntKind.min,IntKind.max,IntKind.signed,IntKind.bits];simp;omega
theorem Wg {a b:Nat} (h:(Value.int .u64 (a:Nat))=.int .u64 (b:Nat)):a=b:=by
 injection h with _ h
 omega
theorem esU_no {ks:List Nat} {k:Nat} (hn:k ∉ ks):∀ e∈esU ks,e.1≠.int .u64 (k:Nat):=fun e he hk=>by
 obtain ⟨i,k',hi,rfl⟩:=XS he;have:=Wg hk;subst this;exact hn (zc hi)
theorem VB {m:Nat} {ks:List Nat} {w:World} (hm:(wX z6 32 m (esU ks)).ho w) (hnd:ks.Nodup) {k:Nat} (hb:k<18446744073709551616) (hi:k∈ks) :
  (Instr.lookup 85 (.map (some m)) (.int .u64 (k:Nat)) true).run z6 w=.ok (.tuple #[.int .i64 ((ks.idxOf k+1:Nat):Int),.bool true]) w:=by
 obtain ⟨l,hk⟩:=Wh hb;obtain ⟨v,b,hv,hr⟩:=jb Yu hm mt_85 hk (YV (t:=3) rfl) true;rw [hr];rcases hv with ⟨rfl,h⟩|⟨rfl,rfl,h⟩
 ·obtain ⟨j,k',hj,he⟩:=XS h;injection he with h1 h2
  have:=Wg h1;subst this;subst h2;rw [Za hnd hj];rfl
 ·have hg:=j9 hi;exact absurd rfl (h _ (esU_of hg))
theorem JO {m:Nat} {ks:List Nat} {w:World} (hm:(wX z6 32 m (esU ks)).ho w) {k:Nat} (hb:k<18446744073709551616) (hn:k ∉ ks) :
  (Instr.lookup 85 (.map (some m)) (.int .u64 (k:Nat)) true).run z6 w=.ok (.tuple #[.int .i64 0,.bool false]) w:=by
 obtain ⟨l,hk⟩:=Wh hb;obtain ⟨v,b,hv,hr⟩:=jb Yu hm mt_85 hk (YV (t:=3) rfl) true;rw [hr];rcases hv with ⟨rfl,h⟩|⟨rfl,rfl,h⟩
 ·obtain ⟨j,k',hj,he⟩:=XS h;injection he with h1 h2
  have:=Wg h1;subst this;exact absurd (zc hj) hn
 ·rfl
def A0Rel (w:World) (mm:Nat) (v1 v5:Value) (wr:World):Prop:=mm=0∧v1=.int .u64 0∧v5=.int .u64 0∧St w [] [] wr
theorem after_0 (bw:Nat) (w:World) :
  Calls z6 35 #[.pointer (some ⟨bw,0,none⟩),.int .u64 0] w fun e w'=>e=.returned (.int .u64 0)∧St w [] [] w':=by
 have H:=St.nil w [];have HK:Ks w [] []:=Ks.nil w [];go_enter Tryd.func35,Tryd.ntmps35;go_wp2_with (first|refine sL ?_|(refine sS ?_;clear H;intros;rename_i H));go_loopg [1,5] 0 (fun mm v1 v5 wr=>A0Rel w mm v1 v5 wr);case atStart=>exact ⟨rfl,rfl,rfl,H⟩
 case round =>
  clear H;obtain ⟨rfl,rfl,rfl,H⟩:=hrel;go_wp2_with (first|refine sL ?_|(refine sS ?_;clear H;intros;rename_i H));go_ret;exact ⟨rfl,H⟩
theorem Wo {c:Chart} {S:Nat}:Ya c.fol S 0=c.aft S:=rfl
theorem after_s {c:Chart} {bw x0:Nat} {sv fv:Value} (hc:ChOk c) (hx0:x0<18446744073709551616) (hb:∀ i,x0.testBit i=true->i<c.sets.length) (w:World) (h1:(blk bw (.cells #[sv,fv] 79)).ho w) (h2:(zi qY 32 1 fv c.fol).ho w) (hde:deA.ho w) :
  Calls z6 35 #[.pointer (some ⟨bw,0,none⟩),.int .u64 (x0:Nat)] w fun e w'=>e=.returned (.int .u64 (c.aft x0:Nat))∧St w [] [] w':=by
 rcases qR c.sets.length with hz|hn
 ·have hal:x0=0:=yV fun i=>by
   rw [Nat.zero_testBit];cases e:x0.testBit i
   ·rfl
   ·have:=hb i e;omega
  subst hal;rw [← Wo,Wp];exact after_0 bw w
 ·obtain ⟨gf,cf,rfl,_⟩:=qF h2 (by rw [hc.len];exact hn);rw [← Wo];exact after_c hx0 (by rw [hc.len];exact hb) rfl hc.bd w h1 h2 hde
end
section
open Go.RowKit Go.Maps
attribute [local go_sem] qM
theorem numIdx {L:List Nat} {S:Nat} {l x:List Nat} (h:S∈l) (e:L=l++x):L.idxOf S=l.idxOf S:=by
 rw [e];exact WU h
theorem row_pre (R l:List Nat) (j:Nat):∃ x,R.foldl ins l=(R.take j).foldl ins l++x:=by
 obtain ⟨x,hx⟩:=xh (R.drop j) ((R.take j).foldl ins l);exact ⟨x,by rw [← hx,← jf,List.take_append_drop]⟩
theorem row_step {R l:List Nat} {j S:Nat} (h:R[j]?=some S):(R.take (j+1)).foldl ins l=ins ((R.take j).foldl ins l) S:=by
 rw [yK h,jf];rfl
theorem row_nd {R l:List Nat} (h:l.Nodup):(R.foldl ins l).Nodup:=yl _ _ h
theorem Zy:∀ (R l:List Nat),(R.foldl ins l).length<=l.length+R.length
 |[],l=>zp _
 |x::R,l=>by
  rw [zQ];have h:=Zy R (ins l x);have h2:(ins l x).length<=l.length+1:=by
   unfold ins;split
   ·omega
   ·simp
  simp only [yZ];omega
theorem Jo {c:Chart} {S:Nat} (h:ChOk c):c.aft S<18446744073709551616:=by
 have:∀ (r:List Nat) (z:Nat),z<18446744073709551616->r.foldl (fun acc i=>if S.testBit i then acc ||| c.fol.getD i 0 else acc) z<18446744073709551616:=by
  intro r;induction r with
  |nil=>intro z hz;exact hz
  |cons i r ih =>
   intro z hz;rw [zQ];refine ih _ ?_;split
   ·refine yH (n:=64) hz ?_;rcases zD i c.fol.length with h1|h1
    ·rw [ze,zg h1];exact h.bd _ (yt h1)
    ·rw [ze,zu h1];decide
   ·exact hz
 exact this _ 0 (by omega)
def CnRelA (w:World) (b4 b8 b9 bw mb gc cc ga nA ca nf cf:Nat) (ads:Option Addr) (nS cs:Nat) (adf:Option Addr) (tn:Bool) (tf tl:Nat) (c:Chart) (search:Bool) (al cl:List Nat) (G:Option (List Nat)) (mm:Nat) (v11 v13:Value) (wr:World):Prop :=
 ∃ (s:Nat) (l:List Nat) (PN:zT) (rows:List SlT) (vn va:Value),mm=258-s∧v13=.int .i64 (s:Nat)∧CsAt c ⟨tn,tf,tl⟩ search al 256 G s l∧(∀ y∈l,y<18446744073709551616∧∀ i,y.testBit i=true->i<c.sets.length)∧RowsAt PN rows (jX c ⟨tn,tf,tl⟩ search al l s)∧St w [] [zi qY 32 1 v11 l,zi qY 32 1 (.slice (some ⟨ga,0,none⟩) nA ca) al,blk b4 (.cells #[.int .i64 0,.slice none 0 0,.slice none 0 0,.slice none 0 0] 27),blk b8 (.cells #[.bool tn,.int .u64 (tf:Nat),.int .u64 (tl:Nat)] 81),blk bw (.cells #[.slice ads nS cs,.slice adf nf cf] 79),zi qY 32 1 (.slice adf nf cf) c.fol,zi q7 3 1 (.slice (some ⟨gc,0,none⟩) 256 cc) cl,blk b9 (.cells #[.int .i64 0,.slice (some ⟨gc,0,none⟩) 256 cc,vn,va] 27),zi xt 23 1 vn rows,zi xI 4 1 va ((acL ⟨tn,tf,tl⟩ search l).take s),wX z6 32 mb (esU l),zx PN] wr
def CnRelB (w:World) (b4 b8 b9 bw mb gc cc ga nA ca nf cf:Nat) (ads:Option Addr) (nS cs:Nat) (adf:Option Addr) (tn:Bool) (tf tl:Nat) (c:Chart) (al cl l L1:List Nat) (accs:List Bool) (nx gr:Nat) (vn va:Value) (rows:List SlT) (PN:zT) (mm:Nat) (v11 v85:Value) (wr:World):Prop :=
 ∃ (j:Nat) (kb:List Nat),mm=nA-j∧j<=nA∧v85=.int .i64 j∧KeyAt (Zh al L1 nx) kb j∧St w [] [zi qY 32 1 v11 (((yf al nx).take j).foldl ins l),zi qY 32 1 (.slice (some ⟨ga,0,none⟩) nA ca) al,blk b4 (.cells #[.int .i64 0,.slice none 0 0,.slice none 0 0,.slice none 0 0] 27),blk b8 (.cells #[.bool tn,.int .u64 (tf:Nat),.int .u64 (tl:Nat)] 81),blk bw (.cells #[.slice ads nS cs,.slice adf nf cf] 79),zi qY 32 1 (.slice adf nf cf) c.fol,zi q7 3 1 (.slice (some ⟨gc,0,none⟩) 256 cc) cl,blk b9 (.cells #[.int .i64 0,.slice (some ⟨gc,0,none⟩) 256 cc,vn,va] 27),zi xt 23 1 vn rows,zi xI 4 1 va accs,wX z6 32 mb (esU (((yf al nx).take j).foldl ins l)),zx PN,zi q7 3 1 (.slice (some ⟨gr,0,none⟩) nA nA) kb] wr
theorem nx_lt {c:Chart} {t:Pt} {search:Bool} {l:List Nat} {s nx:Nat} (hc:ChOk c) (ht:t.fst<18446744073709551616) (h:(nxL c t search l)[s]?=some nx):nx<18446744073709551616:=by
 have hm:=zc h;unfold nxL at hm;rcases zG.1 hm with rfl|hm
 ·exact ht
 ·obtain ⟨S,_,rfl⟩:=zC.1 hm;unfold kw;split
  ·exact yH (n:=64) (Jo hc) ht
  ·exact Jo hc
attribute [local irreducible] esU
theorem WB {P:zT} {x:R8} {r:Rx} {search sb:Bool} (hsb:sb=search) {RR:Ending->World->Prop} (h:RxIn P x r) (hfx:r.fit) (hlim:(xq P).length<=549755813888) (w:World) (hp:(zw P).ho w) (hde:deA.ho w)
  (hR1:r.err≠0->∀ w',St w [] [] w'->RR (.returned (.tuple #[.agg #[.int .i64 0,.slice none 0 0,.slice none 0 0,.slice none 0 0],JI r.err])) w')
  (hR2:r.err=0->∀ (S L:List LW),jR (r.re.write ⟨[],[]⟩).2 S->Prt (asB S) L->wI (r.re.write ⟨[],[]⟩).2 (r.re.write ⟨[],[]⟩).1 search (L.map (wF S)) 256 257 0 ((yf (L.map (wF S)) (r.re.write ⟨[],[]⟩).1.fst).foldl ins [])=none->∀ w',St w [] [] w'->RR (.returned (.tuple #[.agg #[.int .i64 0,.slice none 0 0,.slice none 0 0,.slice none 0 0],.iface 56 (.int .i64 9)])) w')
  (hR3:r.err=0->∀ (S L:List LW) (l:List Nat),jR (r.re.write ⟨[],[]⟩).2 S->Prt (asB S) L->wI (r.re.write ⟨[],[]⟩).2 (r.re.write ⟨[],[]⟩).1 search (L.map (wF S)) 256 257 0 ((yf (L.map (wF S)) (r.re.write ⟨[],[]⟩).1.fst).foldl ins [])=some l->∀ w' (vc vn va:Value) (P':zT),MchIn P' vc vn va (x5 (r.re.write ⟨[],[]⟩).2 (r.re.write ⟨[],[]⟩).1 search (Z9 L) (L.map (wF S)) l).mini->St w [] [zx P'] w'->RR (.returned (.tuple #[.agg #[.int .i64 0,vc,vn,va],.nilIface])) w') :
  Calls z6 19 #[.agg #[.int .i64 x.h.k,.int .u64 (x.h.s0:Nat),.int .u64 (x.h.s1:Nat),.int .u64 (x.h.s2:Nat),.int .u64 (x.h.s3:Nat),.int .i64 x.h.lo,.int .i64 x.h.hi,x.pv],.bool sb] w RR:=by
 have H:=St.nil w [];have HK:Ks w [] [deA,zw P]:=Ks.cons hde (by simp) (Ks.one hp);have HSB:=zh hsb;clear hsb;have HCHK:=zh (fun w hp=>rcheck_c h hlim w hp);have HR1:=zh hR1;have HR2:=zh hR2;have HR3:=zh hR3;have hwrt:=fun (hv:r.valid=true) (hpos:r.pos<=64) (bw:Nat) (w:World) (h1:(wA bw (.slice none 0 0) (.slice none 0 0) ⟨[],[]⟩).ho w) (k1:Ks w (wA bw (.slice none 0 0) (.slice none 0 0) ⟨[],[]⟩).fp [deA,zw P])=>Vb (P:=P) r hv (x:=x) (c:=⟨[],[]⟩) bw (.slice none 0 0) (.slice none 0 0) w h ⟨rfl,by simp⟩ (by simpa using hpos) h1 k1
 obtain ⟨rows,hhd,hfit,hrow,hrl,hrx⟩:=h.inv;obtain ⟨ad,cp,epv,hml⟩:=hrow.shape;obtain ⟨⟨k,s0,s1,s2,s3,lo,hi⟩,pv⟩:=x;simp only at epv HCHK hwrt ⊢;subst epv;clear h hp hde hR1 hR2 hR3 hhd hfit hrow hrl hrx;by_cases herr:r.err=0
 case neg =>
  obtain ⟨ek,hek⟩:∃ z,r.err=z+1:=⟨r.err-1,by omega⟩
  have h1:=HR1.out herr;rw [hek] at HCHK h1;unfold JI at HCHK h1;have HE:=zh h1;clear herr hek h1 HR1 HR2 HR3 hwrt;go_enter Tryd.func19,Tryd.ntmps19;go_wp2_with (first|refine sL ?_|(refine sS ?_;clear H;intros;rename_i H)|(go_at_call 26;with_reducible refine zm (HCHK.out _ (H.known (A:=zw P) HK pk)) ?_;rintro e wc ⟨rfl,hb⟩;replace H:=H.grew hb.below;clear hb));refine bodyPost_ret (yv rfl H rfl pk rfl rfl) rfl ?_;exact HE.out _ H.nix
 case pos =>
  have hvm:r.valid=true∧∃ p,r.meas=some p:=by
   unfold Rx.err at herr;by_cases hv:r.valid=true
   ·rw [if_pos hv] at herr;cases hme:r.meas with
    |none=>rw [hme] at herr;simp at herr
    |some p=>exact ⟨hv,p,rfl⟩
   ·rw [if_neg hv] at herr;omega
  obtain ⟨hv,p,hme⟩:=hvm;obtain ⟨hpp,hp64,_⟩:=Rx.meas_is hme;have hpos:r.pos<=64:=(by omega);have hwrt2:=hwrt hv hpos;have hrl:=Rx.re_len hv ⟨[],[]⟩;obtain ⟨hft,hch⟩:=YT (c:=⟨[],[]⟩) (Rx.re_ok hv) ⟨rfl,by simp⟩ (by rw [hrl];simpa using hpos);obtain ⟨S,hS⟩:=V9 (Rx.sets4 hv hfx ⟨[],[]⟩ (by simp));have hr2:=HR2.out herr;have hr3:=HR3.out herr;rw [herr] at HCHK;unfold JI at HCHK;obtain ⟨⟨⟨tn,tf,tl⟩,c⟩,hres⟩:∃ z,r.re.write ⟨[],[]⟩=z:=⟨_,rfl⟩
  unfold wE at hwrt2;rw [hres] at hwrt2 hrl hft hch hS hr2 hr3;simp only at hwrt2 hrl hft hch hS hr2 hr3;have hSn:S.length<=64:=by
   have e:=congrArg List.length hS;rw [zE,hrl] at e;simp at e;omega
  have HWR:=zh hwrt2;have HS:=zh (za hS (za hSn (za hft hch)));have HRR:=zh (za hr2 hr3);clear herr HR1 HR2 HR3 hwrt hwrt2 hv hme hpp hp64 hpos hrl hft hch hS hSn hr2 hr3 hres hfx;go_enter Tryd.func19,Tryd.ntmps19;go_wp2_with (first|refine sL ?_|(refine sS ?_;clear H;intros;rename_i H)|(go_at_call 26;with_reducible refine zm (HCHK.out _ (H.known (A:=zw P) HK pk)) ?_;rintro e wc ⟨rfl,hb⟩;replace H:=H.grew hb.below;clear hb));rename_i b2 _ b4 _ bw _ _ _ _ _;replace H:=H.empty (A:=zi yA 34 4 (.slice none 0 0) []) (yS _) (by rw [q9];rfl);replace H:=H.empty (A:=zi qY 32 1 (.slice none 0 0) []) (yS _) (by rw [q9];rfl);replace H:=St.shut_w (c:=⟨[],[]⟩) (H.picks (.cons pk (.cons pk (.cons pk (.cons pk (.cons pk .nil))))));refine zm (HWR.out bw _ (H.get pk) (H.ksub HK (by simp))) ?_;rintro e wc ⟨rfl,sv,fv,hb⟩;replace H:=(H.pick pk).call hb;simp only [z7,z8] at H;clear hb;replace H:=H.open_w;obtain ⟨ads,cs,rfl,_⟩:=zW (H.get (A:=zi yA 34 4 sv c.sets) pk);obtain ⟨adf,cf,rfl,_⟩:=zW (H.get (A:=zi qY 32 1 fv c.fol) pk);rw [HS.out.1,zE] at H;obtain ⟨nS,hnS⟩:∃ z,S.length=z:=⟨_,rfl⟩
  obtain ⟨nf,hnf⟩:∃ z,c.fol.length=z:=⟨_,rfl⟩
  rw [hnS,hnf] at H;have HCL:Hid (∀ w,(zi yA 34 4 (.slice ads nS cs) (S.map lwL)).ho w->deA.ho w->Calls z6 34 #[.slice ads nS cs] w fun e w'=>∃ (L:List LW) (vc va:Value),e=.returned (.tuple #[.agg #[.int .i64 0,vc,.slice none 0 0,.slice none 0 0],va])∧Prt (asB S) L∧L.length<=256∧0<L.length∧St w [] [zi q7 3 1 vc (Z9 L),zi qY 32 1 va (L.map (wF S))] w'):=zh fun w h1 h2=>Vh HS.out.2.1 w h1 h2
  clear hnS;have HNF:=zh hnf;clear hnf;go_wp2_with (first|refine sL ?_|(refine sS ?_;clear H;intros;rename_i H));refine zm (HCL.out _ (H.get pk) (H.known (A:=deA) HK pk)) ?_;rintro e wc ⟨L,vc,va,rfl,hprt,hL1,hL0,hb⟩;replace H:=H.call0 hb;simp only [z7,z8] at H;clear hb HCL;have hsa:jR c S:=⟨HS.out.1⟩
  have hr2:=HRR.out.1 S L hsa hprt;have hr3:=fun l=>HRR.out.2 S L l hsa hprt
  have hfits:=Ja hsa hprt;have hclen:(Z9 L).length=256:=hfits.len;have hbd:∀ y∈L.map (wF S),y<18446744073709551616:=fun y hy=>by
   obtain ⟨p,_,rfl⟩:=zC.1 hy;exact KP HS.out.2.1
  have hbb:∀ y∈L.map (wF S),∀ i,y.testBit i=true->i<c.sets.length:=fun y hy i hi=>by
   obtain ⟨p,_,rfl⟩:=zC.1 hy;rw [Ko,jM,zf,decide_eq_true_eq] at hi;rw [HS.out.1,zE];exact hi.1
  obtain ⟨al,hal⟩:∃ z,L.map (wF S)=z:=⟨_,rfl⟩
  have hal1:al.length=L.length:=(by rw [← hal,zE]);obtain ⟨cl,hcl⟩:∃ z,Z9 L=z:=⟨_,rfl⟩
  rw [hal,hcl] at hfits;rw [hal] at hr2 hbd hbb H;rw [hcl] at hclen H;have hr3b:=fun l=>by have:=hr3 l;rw [hal,hcl] at this;exact this
  obtain ⟨G,hG⟩:∃ z,wI c ⟨tn,tf,tl⟩ search al 256 257 0 ((yf al tf).foldl ins [])=z:=⟨_,rfl⟩
  rw [hG] at hr2;have hr3c:=fun l=>by have:=hr3b l;rw [hG] at this;exact this
  have hcs0:CsAt c ⟨tn,tf,tl⟩ search al 256 G 0 []:=.start hG.symm;obtain ⟨nA,hnA⟩:∃ z,L.length=z:=⟨_,rfl⟩
  rw [hnA] at hal1 hL1 hL0;obtain ⟨gc,cc,rfl,_⟩:=qF (H.get (A:=zi q7 3 1 vc cl) pk) (by omega);obtain ⟨ga,ca,rfl,_⟩:=qF (H.get (A:=zi qY 32 1 va al) pk) (by omega);rw [hclen,hal1] at H;rw [hclen,hal1];have HAL:=zh (za hal1 (za hclen (za hfits (za hbd hG))));have HR2:=zh hr2;have HR3:=zh hr3c;have HC0:=zh hcs0;have HALB:Hid (∀ p∈al,∀ i,p.testBit i=true->i<c.sets.length):=zh hbb;clear hprt hsa hr2 hr3 hr3b hr3c hfits hclen hbd hbb hal hal1 hcl hG hcs0 hnA HRR;go_wp2_with (first|refine sL ?_|(refine sS ?_;clear H;intros;rename_i H)|((with_reducible refine vK ?_);refine AtMakeMap.go 32 H rfl rfl ?_;clear H;intro mb _ H;simp only [Act.put,puA,puB,puC]));rename_i b8 _ _ _ _ b9 _ _ _ _ _;replace H:=H.empty (A:=zi qY 32 1 (.slice none 0 0) []) (yS _) (by rw [q9];rfl);replace H:=H.empty (A:=zi xt 23 1 (.slice none 0 0) []) (yS _) (by rw [q9];rfl);replace H:=H.empty (A:=zi xI 4 1 (.slice none 0 0) []) (yS _) (by rw [q9];rfl);replace H:=H.empty (A:=zx []) (ky _) (by rw [xf];rfl);have e0:([]:List (Value×Value))=esU []:=(by unfold esU;rfl);rw [e0] at H;clear e0;obtain ⟨z32,hz32⟩:∃ z,Value.agg #[.bool tn,.int .u64 (tf:Nat),.int .u64 (tl:Nat)]=z:=⟨_,rfl⟩
  rw [hz32];clear hz32;go_loopg [11,13] 258 (fun mm v11 v13 wr=>CnRelA w b4 b8 b9 bw mb gc cc ga nA ca nf cf ads nS cs adf tn tf tl c search al cl G mm v11 v13 wr);case atStart=>exact ⟨0,[],[],[],.slice none 0 0,.slice none 0 0,rfl,rfl,HC0.out,by simp,by (unfold jX;rw [jG];exact RowsAt.nil),H.picks (.cons pk (.cons pk (.cons pk (.cons pk (.cons pk (.cons pk (.cons pk (.cons pk (.cons pk (.cons pk (.cons pk (.cons pk .nil))))))))))))⟩
  case round =>
   clear H;obtain ⟨s,l,PN,rows,vn,va,rfl,rfl,hcs,hq,hro,H⟩:=hrel;have hle:=hcs.le (by omega);obtain ⟨adl,cpl,rfl,_⟩:=zW (H.get (A:=zi qY 32 1 _ l) pk);obtain ⟨ln,hln⟩:∃ z,l.length=z:=⟨_,rfl⟩
   have HLN:=zh hln;rw [hln] at H hle ⊢;obtain ⟨hle1,hle2⟩:=hle;by_cases hsl:s<=ln
   ·have e1:decide ((s:Int)<=(ln:Int))=true:=(by simp;omega);have e1n:decide (s<=ln)=true:=(by simp;omega);obtain ⟨nx,hnx⟩:∃ z,(nxL c ⟨tn,tf,tl⟩ search l)[s]?=some z:=⟨_,zg (by simp [nxL,hln];omega)⟩
    obtain ⟨ab,hab⟩:∃ z,(acL ⟨tn,tf,tl⟩ search l)[s]?=some z:=⟨_,zg (by simp [acL,hln];omega)⟩
    have HNX:=zh (za hnx (za hab (za hcs (za hq hro))));by_cases hs0:0<s
    case' pos =>
     obtain ⟨s1,hs1⟩:∃ z,s=z+1:=⟨s-1,by omega⟩
     have i1:(s:Int)-1=((s1:Nat):Int):=(by omega);have d1:decide ((0:Int)<(s:Int))=true:=(by simp;omega);have d1n:decide (0<s)=true:=(by simp;omega);have d2:decide ((s1:Int)<(ln:Int))=true:=(by simp;omega);have d2n:decide (s1<ln)=true:=(by simp;omega);obtain ⟨S1,hS1⟩:∃ z,l[s1]?=some z:=⟨_,zg (by omega)⟩
     obtain ⟨g1,c1,e9,_⟩:=qF (H.get (A:=zi qY 32 1 _ l) pk) (by omega);simp only [Value.slice.injEq] at e9;obtain ⟨rfl,h8,h9⟩:=e9;clear h8 h9;have HCS1:Hid (∀ w,(zi qY 32 1 (.slice (some ⟨g1,0,none⟩) ln cpl) l).ho w->w.cell? ⟨g1,s1,none⟩=some (.int .u64 (S1:Nat))):=zh fun w h=>by
      have:=qL h wj hS1 (j:=0) rfl;simpa using this
     obtain ⟨hq1,hq2⟩:=hq S1 (zc hS1);have haf:=fun w h1 h2 h3=>after_s (c:=c) (bw:=bw) (sv:=.slice ads nS cs) (fv:=.slice adf nf cf) HS.out.2.2.2 hq1 hq2 w h1 h2 h3
     have hand:=u64_and_nat S1 tl hq1 HS.out.2.2.1.lb;have hnx2:nx=kw c ⟨tn,tf,tl⟩ search S1:=by
      unfold nxL at hnx;rw [hs1,qD,zq,hS1] at hnx;injection hnx with hnx
      exact hnx.symm
     have hab2:ab=Wm ⟨tn,tf,tl⟩ search S1:=by
      unfold acL at hab;rw [hs1,qD,zq,hS1] at hab;injection hab with hab
      exact hab.symm
     unfold kw at hnx2;unfold Wm at hab2;simp only at hnx2 hab2;have hafb:c.aft S1<18446744073709551616:=Jo HS.out.2.2.2;obtain ⟨af,haf0⟩:∃ z,c.aft S1=z:=⟨_,rfl⟩
     rw [haf0] at haf hnx2 hafb;obtain ⟨x0,hx0⟩:∃ z,S1 &&& tl=z:=⟨_,rfl⟩
     rw [hx0] at hand hab2;have hor:=u64_or_nat af tf hafb HS.out.2.2.1.fb;obtain ⟨zb,hzb⟩:∃ z,(x0 != 0)=z:=⟨_,rfl⟩
     rw [hzb] at hab2;have hzi:((x0:Int) != 0)=zb:=by
      rw [← hzb,q5];simp
     have HAF:=zh haf;have HX2:=zh (za hnx2 (za hab2 hzb));have HS1:=zh hs1;clear hs1 hS1 hq1 hq2 haf hnx2 hab2 haf0 hx0 hafb hzb hnx hab hcs hq hro;go_wp2_with (first|refine sL ?_|(refine sS ?_;clear H;intros;rename_i H)|(go_at_call 35;with_reducible refine zm (HAF.out _ (H.get pk) (H.get pk) (H.known (A:=deA) HK pk)) ?_;rintro e wc ⟨rfl,hb⟩;replace H:=H.grew hb.below;clear hb));refine zr H 9 [] [] (by kernel_rfl) (by kernel_rfl) ?_;apply Exists.intro;refine ⟨fun w1 hw1 HX=>?_,fun bs wr Hr=>?_⟩
     ·refine sG ?_;repeat (first|go_big_quiet_skip|refine sQ ?_|fail|go_big_quiet_step (fail))
      exact wpQuiet_nil rfl
     clear H;have H:=Hr;clear Hr;replace H:=sH H;refine sT ?_;cases sb
     case' false =>
      have e8:af=nx:=(by rw [HX2.out.1,← HSB.out];rfl);have e7:zb=ab:=(by rw [HX2.out.2.1,← HSB.out];simp);have E8:=zh (za e8 e7);clear e8 e7;go_wp2_with (first|refine sL ?_|(refine sS ?_;clear H;intros;rename_i H)|((with_reducible refine jl ?_);refine AtMk1.row (enc:=q7) H rfl rfl nA rfl rfl rfl rfl rfl 0 rfl zL (by omega) (by omega) ?_;clear H;intro gr _ H;simp only [Act.put,puA,puB,puC]));rw [E8.out.1,E8.out.2]
     case' true =>
      have e8:af ||| tf=nx:=by rw [HX2.out.1,← HSB.out];rfl
      rw [e8] at hor;cases zb
      case' false =>
       have e7:tn=ab:=(by rw [HX2.out.2.1,← HSB.out];simp);have E7:=zh e7;clear e7 e8;go_wp2_with (first|refine sL ?_|(refine sS ?_;clear H;intros;rename_i H)|((with_reducible refine jl ?_);refine AtMk1.row (enc:=q7) H rfl rfl nA rfl rfl rfl rfl rfl 0 rfl zL (by omega) (by omega) ?_;clear H;intro gr _ H;simp only [Act.put,puA,puB,puC]));rw [E7.out]
      case' true =>
       have e7:Value.bool true=Value.bool ab:=(by rw [HX2.out.2.1];simp);have E7:=zh e7;clear e7 e8;go_wp2_with (first|refine sL ?_|(refine sS ?_;clear H;intros;rename_i H)|((with_reducible refine jl ?_);refine AtMk1.row (enc:=q7) H rfl rfl nA rfl rfl rfl rfl rfl 0 rfl zL (by omega) (by omega) ?_;clear H;intro gr _ H;simp only [Act.put,puA,puB,puC]));rw [E7.out]
    case' neg =>
     have d1:decide ((0:Int)<(s:Int))=false:=(by simp;omega);have d1n:decide (0<s)=false:=(by simp;omega);have hs1:s=0:=(by omega);have hnx2:tf=nx:=by
      unfold nxL at hnx;rw [hs1] at hnx;injection hnx
     have hab2:tn=ab:=by
      unfold acL at hab;rw [hs1] at hab;injection hab
     have HX2:=zh (za hnx2 hab2);clear hs1 hnx2 hab2 hnx hab hcs hq hro;go_wp2_with (first|refine sL ?_|(refine sS ?_;clear H;intros;rename_i H)|((with_reducible refine jl ?_);refine AtMk1.row (enc:=q7) H rfl rfl nA rfl rfl rfl rfl rfl 0 rfl zL (by omega) (by omega) ?_;clear H;intro gr _ H;simp only [Act.put,puA,puB,puC]));rw [HX2.out.1,HX2.out.2]
    all_goals
     clear HX2;try clear hor
     try clear hand hzi i1 d2 d2n
     obtain ⟨L1,hL1⟩:∃ z,(yf al nx).foldl ins l=z:=⟨_,rfl⟩
     have HL1:=zh hL1;have hRl:(yf al nx).length=nA:=(by unfold yf;rw [zE];exact HAL.out.1);have HRL:=zh hRl;have hk0:KeyAt (Zh al L1 nx) (zI nA 0) 0:=⟨by unfold Zh;rw [zE,hRl,jE],rfl⟩
     have HK0:=zh hk0;clear hL1 hRl hk0;go_loopg [11,85] nA (fun mm v11 v85 wr=>CnRelB w b4 b8 b9 bw mb gc cc ga nA ca nf cf ads nS cs adf tn tf tl c al cl l L1 ((acL ⟨tn,tf,tl⟩ search l).take s) nx gr vn va rows PN mm v11 v85 wr);case atStart=>exact ⟨0,zI nA 0,rfl,zH _,rfl,HK0.out,H.picks (.cons pk (.cons pk (.cons pk (.cons pk (.cons pk (.cons pk (.cons pk (.cons pk (.cons pk (.cons pk (.cons pk (.cons pk (.cons pk .nil)))))))))))))⟩
     case round =>
      clear H HK0;obtain ⟨j,kb,rfl,hj,rfl,hka,H⟩:=hrel;obtain ⟨lj,hlj⟩:∃ z,((yf al nx).take j).foldl ins l=z:=⟨_,rfl⟩
      rw [hlj] at H;obtain ⟨adj,cpj,e9,_⟩:=zW (H.get (A:=zi qY 32 1 _ lj) pk);subst e9;obtain ⟨lnj,hlnj⟩:∃ z,lj.length=z:=⟨_,rfl⟩
      rw [hlnj] at H ⊢;have hljb:lnj<=512:=by
       rw [← hlnj,← hlj];have h1:=Zy ((yf al nx).take j) l;have h2:((yf al nx).take j).length<=nA:=(by rw [← HRL.out,yD];exact Nat.min_le_right _ _);have h3:=HLN.out;omega
      have HLJ:=zh (za hlj hlnj);have HKA:=zh hka;clear hlj hlnj hka;by_cases hjl:j<nA
      ·have g1:decide ((j:Int)<(nA:Int))=true:=(by simp;omega);have g1n:decide (j<nA)=true:=(by simp;omega);obtain ⟨p,hp⟩:∃ z,al[j]?=some z:=⟨_,zg (by rw [HAL.out.1];exact hjl)⟩
       have HCP:Hid (∀ w,(zi qY 32 1 (.slice (some ⟨ga,0,none⟩) nA ca) al).ho w->w.cell? ⟨ga,j,none⟩=some (.int .u64 (p:Nat))):=zh fun w h=>by
        have:=qL h wj hp (j:=0) rfl;simpa using this
       have hpb:=HAL.out.2.2.2.1 p (zc hp);have hnxb:nx<18446744073709551616:=nx_lt HS.out.2.2.2 HS.out.2.2.1.fb HNX.out.1;have hand:=u64_and_nat nx p hnxb hpb;obtain ⟨SS,hSS⟩:∃ z,nx &&& p=z:=⟨_,rfl⟩
       rw [hSS] at hand;have hSSb:SS<18446744073709551616:=(by rw [← hSS];exact yL wP hpb);have hRj:(yf al nx)[j]?=some SS:=(by unfold yf;rw [zq,hp,← hSS];rfl);have hnd:lj.Nodup:=(by rw [← HLJ.out.1];exact row_nd HNX.out.2.2.1.nd);have hstep:=row_step (l:=l) hRj;rw [HLJ.out.1] at hstep;obtain ⟨kj,hkj⟩:=HKA.out.get (i:=j) (by unfold Zh;rw [zE,HRL.out];exact hjl);have HKJ:=zh hkj;have hrn:∀ x,L1.idxOf SS+1=x->(Zh al L1 nx)[j]?=some x:=fun x hx=>by unfold Zh;rw [zq,hRj,← hx];rfl
       obtain ⟨y1,hy1⟩:=row_pre (yf al nx) l (j+1);rw [HL1.out,hstep] at hy1;clear hp hpb hSS hkj;by_cases hin:SS∈lj
       ·have hins:ins lj SS=lj:=(by unfold ins;rw [if_pos hin]);rw [hins] at hstep hy1;obtain ⟨x,hx⟩:∃ z,lj.idxOf SS+1=z:=⟨_,rfl⟩
        have hlk:=fun w h=>VB (m:=mb) (w:=w) h hnd hSSb hin
        rw [hx] at hlk;have hrx:=hrn x (by rw [numIdx hin hy1];exact hx);have HLK:=zh hlk;have HRX:=zh (za hrx hstep);clear hx hlk hrx hstep hins hy1 hrn hRj hnd hin;go_wp2_with (first|refine sL ?_|(refine sS ?_;clear H;intros;rename_i H)|((with_reducible refine vo ?_);refine AtLook.go rfl rfl rfl _ (HLK.out _ (H.get pk)) rfl ?_;simp only [Act.put,puA,puB,puC])|((with_reducible refine yy ?_);refine AtStore.rowAk (enc:=q7) (k:=1) (i:=j) (j:=0) H rfl rfl rfl rfl rfl rfl pk zL (HKJ.out) (by omega) (by simp) x rfl ?_;clear H;intro _ H;simp only [Act.put,puA,puB,puC]));go_roundg (nA-(j+1));case measure=>omega
        case rel=>exact ⟨j+1,kb.set j x,rfl,by omega,by go_num,HKA.out.set HRX.out.1,by rw [HRX.out.2];exact H.picks (.cons pk (.cons pk (.cons pk (.cons pk (.cons pk (.cons pk (.cons pk (.cons pk (.cons pk (.cons pk (.cons pk (.cons pk (.cons pk .nil)))))))))))))⟩
       ·have hins:ins lj SS=lj++[SS]:=(by unfold ins;rw [if_neg hin]);rw [hins] at hstep hy1;have hlk:=fun w h=>JO (m:=mb) (w:=w) h hSSb hin
        obtain ⟨l8,hl8⟩:∃ z,lnj+1=z:=⟨_,rfl⟩
        have hrx:=hrn l8 (by rw [hy1,y7,yU,if_neg hin,← hl8];simp [HLJ.out.2]);have hes:=esU_snoc lj SS;rw [HLJ.out.2,hl8] at hes;have HLK:=zh hlk;have HKY:Hid ((∃ l,keyOf z6 32 (.int .u64 (SS:Nat))=some l)∧∀ e∈esU lj,e.1≠.int .u64 (SS:Nat)):=zh ⟨Wh hSSb,esU_no hin⟩;have HRX:=zh (za hrx (za hstep hes));have i8:(lnj:Int)+1=((lnj+1:Nat):Int):=(by omega);rw [hl8] at i8;have HL8:=zh hl8;clear hlk hrx hstep hes hins hy1 hrn hRj hnd hin hl8;go_wp2_with (first|refine sL ?_|(refine sS ?_;clear H;intros;rename_i H)|((with_reducible refine vo ?_);refine AtLook.go rfl rfl rfl _ (HLK.out _ (H.get pk)) rfl ?_;simp only [Act.put,puA,puB,puC])|((with_reducible refine ZA ?_);refine AtUpdate.new (k:=.int .u64 (SS:Nat)) (v:=.int .i64 (l8:Nat)) Yu mt_85 H rfl rfl rfl pk rfl rfl HKY.out.1.choose_spec HKY.out.2 ?_;clear H;intro _ H;simp only [Act.put,puA,puB,puC])|((with_reducible refine ym ?_);refine AtSlice.one H rfl rfl rfl rfl rfl rfl rfl rfl rfl ?_;clear H;intro b99 _ H;simp only [Act.put,puA,puB,puC])|((with_reducible refine xm ?_);refine AtAppend.goN (enc:=qY) H rfl rfl rfl rfl rfl (by decide) (by decide) rfl (xs:=lj) pk rfl (H.at pk) [SS] rfl (by simp [zX,qY]) wj WL (by have:=HLJ.out.2;simp;omega) HLJ.out.2 ?_;clear H;intro ad9 cp9 _ H;simp only [Act.put,puA,puB,puC])|((with_reducible refine yy ?_);refine AtStore.rowAk (enc:=q7) (k:=1) (i:=j) (j:=0) H rfl rfl rfl rfl rfl rfl pk zL (HKJ.out) (by omega) (by simp) l8 rfl ?_;clear H;intro _ H;simp only [Act.put,puA,puB,puC]));rw [← HRX.out.2.2] at H;go_roundg (nA-(j+1));case measure=>omega
        case rel=>exact ⟨j+1,kb.set j l8,rfl,by omega,by go_num,HKA.out.set HRX.out.1,by rw [HRX.out.2.1];exact H.picks (.cons pk (.cons pk (.cons pk (.cons pk (.cons pk (.cons pk (.cons pk (.cons pk (.cons pk (.cons pk (.cons pk (.cons pk (.cons pk .nil)))))))))))))⟩
      ·have g1:decide ((j:Int)<(nA:Int))=false:=(by simp;omega);have g1n:decide (j<nA)=false:=(by simp;omega);obtain rfl:nA=j:=by omega
       obtain rfl:=HKA.out.all (by unfold Zh;rw [zE,HRL.out];exact zp _);have hlL:lj=L1:=by
        rw [← HLJ.out.1,← HL1.out,zM (by rw [HRL.out];exact zp _)]
       subst hlL;by_cases hbig:256<=lnj
       ·have d5:decide ((256:Int)<=(lnj:Int))=true:=(by simp;omega);have d5n:decide (256<=lnj)=true:=(by simp;omega);have hG:=HNX.out.2.2.1.over (by omega) HNX.out.1 (by rw [HL1.out,HLJ.out.2];exact hbig);have HEND:=zh (HR2.out hG);clear hG;go_wp2_with (first|refine sL ?_|(refine sS ?_;clear H;intros;rename_i H));refine bodyPost_ret (yv rfl H rfl pk rfl rfl) rfl ?_;exact HEND.out _ H.nix
       ·have d5:decide ((256:Int)<=(lnj:Int))=false:=(by simp;omega);have d5n:decide (256<=lnj)=false:=(by simp;omega);obtain ⟨PR,hPR,H⟩:=(H.pick (A:=zi q7 3 1 _ (Zh al lj nx)) pk).to_pool zL;replace H:=(H.pick2 (A:=zx PR) (B:=zx PN) pk pk).pool_add;have hsnoc:=HNX.out.2.2.2.2.snoc (r:=((some ⟨gr,0,none⟩,nA,nA):SlT)) hPR;have hrl:rows.length=s:=by
         rw [HNX.out.2.2.2.2.1];unfold jX nxL;simp [HLN.out];omega
        have hal9:((acL ⟨tn,tf,tl⟩ search l).take s).length=s:=by
         unfold acL;simp [HLN.out];omega
        have hrn9:=VS HNX.out.2.2.1 (by omega) HNX.out.1;have hac9:=Vd (nx:=nx) (allowed:=al) HNX.out.2.1;rw [HL1.out] at hrn9 hac9;have hcs9:=HNX.out.2.2.1.row HNX.out.1 (by rw [HL1.out,HLJ.out.2];omega);rw [HL1.out] at hcs9;have hq9:∀ y∈lj,y<18446744073709551616∧∀ i,y.testBit i=true->i<c.sets.length:=by
         rw [← HL1.out];intro y hy;rcases (qk _ _ _).1 hy with hy|hy
         ·exact HNX.out.2.2.2.1 y hy
         ·unfold yf at hy;obtain ⟨p,hp,rfl⟩:=zC.1 hy;refine ⟨yL wP (HAL.out.2.2.2.1 p hp),fun i hi=>?_⟩;rw [qj,zf] at hi;exact HALB.out p hp i hi.2
        rw [← hrn9] at hsnoc;obtain ⟨adn,cnn,rfl,_⟩:=zW (H.get (A:=zi xt 23 1 _ rows) pk);obtain ⟨ada,caa,rfl,_⟩:=zW (H.get (A:=zi xI 4 1 _ ((acL ⟨tn,tf,tl⟩ search l).take s)) pk);obtain ⟨accs,hacs⟩:∃ z,((acL ⟨tn,tf,tl⟩ search l).take s)=z:=⟨_,rfl⟩
        rw [hacs] at H hac9 hal9;rw [hrl,hal9] at H;have hs256:s<=256:=(by omega);have HRW:=zh (za hrl (za hal9 (za hs256 (za hac9 (za hsnoc (za hcs9 hq9))))));clear hrl hal9 hac9 hsnoc hcs9 hq9 hrn9 hPR hacs;go_wp2_with (first|refine sL ?_|(refine sS ?_;clear H;intros;rename_i H)|((with_reducible refine ym ?_);refine AtSlice.one H rfl rfl rfl rfl rfl rfl rfl rfl rfl ?_;clear H;intro b99 _ H;simp only [Act.put,puA,puB,puC])|((with_reducible refine xm ?_);(first|refine AtAppend.goN (enc:=xt) H rfl rfl rfl rfl rfl (by decide) (by decide) rfl (xs:=rows) pk rfl (H.at pk) [((some ⟨gr,0,none⟩,nA,nA):SlT)] rfl (by simp [zX,xt]) vF Xl (by have:=HRW.out.1;have:=HRW.out.2.2.1;simp;omega) HRW.out.1 ?_|refine AtAppend.goN (enc:=xI) H rfl rfl rfl rfl rfl (by decide) (by decide) rfl (xs:=accs) pk rfl (H.at pk) [ab] rfl (by simp [zX,xI]) yW WJ (by have:=HRW.out.2.1;have:=HRW.out.2.2.1;simp;omega) HRW.out.2.1 ?_);clear H;intro ad9 cp9 _ H;simp only [Act.put,puA,puB,puC]));try rw [← E7.out]
        go_roundg (258-(s+1));case measure=>omega
        case rel=>exact ⟨s+1,lj,PR++PN,rows++[((some ⟨gr,0,none⟩,nA,nA):SlT)],_,_,rfl,by go_num,HRW.out.2.2.2.2.2.1,HRW.out.2.2.2.2.2.2,HRW.out.2.2.2.2.1,by rw [HRW.out.2.2.2.1];exact H.picks (.cons pk (.cons pk (.cons pk (.cons pk (.cons pk (.cons pk (.cons pk (.cons pk (.cons pk (.cons pk (.cons pk (.cons pk .nil))))))))))))⟩
   ·have e1:decide ((s:Int)<=(ln:Int))=false:=(by simp;omega);have e1n:decide (s<=ln)=false:=(by simp;omega);obtain ⟨hG,hsl2⟩:=hcs.done (by rw [hln];omega);have hnd:=hcs.nd;have hrl:rows.length=s:=by
     rw [hro.1];unfold jX nxL;simp [hln];omega
    have hal9:((acL ⟨tn,tf,tl⟩ search l).take s).length=s:=by
     unfold acL;simp [hln];omega
    have hzero:(∀ p∈al,(⟨tn,tf,tl⟩:Pt).fst &&& p∈(yf al tf).foldl ins []):=fun p hp=>(qk _ _ _).2 (.inr (zC.2 ⟨p,hp,rfl⟩))
    have hG2:=HAL.out.2.2.2.2;rw [hG] at hG2;obtain ⟨hcons,_⟩:=QT 257 hG2 (yl _ _ (by simp)) hzero (fun j S hj=>by omega);have hok:=Ky hcons HAL.out.2.2.1;have hmk:∀ (Q:zT) (v1 v2 v3:Value),RowIn Q q7 1 v1 cl->RowIn Q xt 1 v2 rows->RowIn Q xI 1 v3 ((acL ⟨tn,tf,tl⟩ search l).take s)->(∀ x∈PN,x∈Q)->MchIn Q v1 v2 v3 (x5 c ⟨tn,tf,tl⟩ search cl al l):=fun Q v1 v2 v3 q1 q2 q3 q4=>by
     rw [consM_is];rw [hsl2] at hro q3;refine ⟨q1,q3,rows.map slV,q2.ofSl,?_,fun i r x h1 h2=>?_⟩
     ·rw [zE];exact hro.1
     ·rw [zq] at h1;cases hr:rows[i]? with
      |none=>rw [hr] at h1;simp at h1
      |some t =>
       rw [hr] at h1;injection h1 with h1
       subst h1;exact (hro.2 i t x hr h2).mono q4
    have hmini:=fun (Q:zT) (v1 v2 v3:Value) (h:MchIn Q v1 v2 v3 (x5 c ⟨tn,tf,tl⟩ search cl al l)) (w:World) (hp:(zx Q).ho w)=>Mini_c h hok (by omega) (by rw [HAL.out.1];exact hL1) w hp
    have hm0:((x5 c ⟨tn,tf,tl⟩ search cl al l).start:Int)=0:=rfl;rw [hm0] at hmini;have HMK:=zh hmk;have HMN:=zh hmini;have HEND:=zh (HR3.out l hG);obtain ⟨adn,cnn,rfl,_⟩:=zW (H.get (A:=zi xt 23 1 _ rows) pk);obtain ⟨ada,caa,rfl,_⟩:=zW (H.get (A:=zi xI 4 1 _ ((acL ⟨tn,tf,tl⟩ search l).take s)) pk);obtain ⟨accs,hacs⟩:∃ z,((acL ⟨tn,tf,tl⟩ search l).take s)=z:=⟨_,rfl⟩
    rw [hacs] at H HMK hal9;rw [hrl,hal9] at H;clear hmk hmini hm0 hok hcons hG2 hzero hnd hG hcs hq hro hrl hal9 hacs hsl2 hln;go_wp2_with (first|refine sL ?_|(refine sS ?_;clear H;intros;rename_i H));obtain ⟨P1,hP1,H⟩:=(H.pick (A:=zi q7 3 1 (.slice (some ⟨gc,0,none⟩) 256 cc) cl) pk).to_pool zL;obtain ⟨P2,hP2,H⟩:=(H.pick (A:=zi xt 23 1 _ rows) pk).to_pool vF;obtain ⟨P3,hP3,H⟩:=(H.pick (A:=zi xI 4 1 _ accs) pk).to_pool yW;replace H:=(H.pick2 (A:=zx P1) (B:=zx P2) pk pk).pool_add;replace H:=(H.pick2 (A:=zx (P1++P2)) (B:=zx P3) pk pk).pool_add;replace H:=(H.pick2 (A:=zx (P1++P2++P3)) (B:=zx PN) pk pk).pool_add;have hmch:=HMK.out (P1++P2++P3++PN) _ _ _ (hP1.mono (by intro x hx;simp [hx])) (hP2.mono (by intro x hx;simp [hx])) (hP3.mono (by intro x hx;simp [hx])) (by intro x hx;simp [hx]);refine zm (HMN.out _ _ _ _ hmch _ (H.get pk)) ?_;rintro e wc ⟨vc',vn',va',P',rfl,hm',hb⟩;replace H:=H.call0 hb;simp only [z7,z8] at H;obtain ⟨xc,yc,rfl,_⟩:=hm'.cls.shape;obtain ⟨xa,ya,rfl,_⟩:=hm'.acc.shape;obtain ⟨rw9,hn9,hl9,hm9⟩:=id hm'.nxt;obtain ⟨xn,yn,rfl,_⟩:=hn9.shape;have HM':=zh hm';clear hn9 hl9 hm9;clear hb hm' hmch hP1 hP2 hP3;go_wp2_with (first|refine sL ?_|(refine sS ?_;clear H;intros;rename_i H));refine bodyPost_ret (yv rfl H rfl pk rfl rfl) rfl ?_;exact HEND.out _ _ _ _ P' HM'.out (H.picks (.cons pk .nil))
end
section
open Go.RowKit Go.Maps
theorem mini_ok2 {m:Mch} {n k:Nat} (hm:m.Ok n k):∃ n' k',m.mini.Canon n' k'∧n'<=n∧k'<=256∧∀ t,Lts t->m.mini.lang t=m.lang t:=by
 have hs:=vR hm;have B:=XF hm;have hO:=Xf hs B;have h1:=xU hO.nd hO.lt;have h2:m.refine.2.length<=n:=by
  have hnd:m.refine.2.Nodup:=by
   rw [kS,List.pairwise_iff_getElem];intro i j hi hj hij e;have a1:=B.nums.num i _ (zg hi);have a2:=B.nums.num j _ (zg hj);rw [e] at a1;omega
  exact xU hnd fun q hq=>hs.lt q (B.nums.sub q hq)
 have h3:(wv m m.refine.1 m.refine.2).length<=256:=by
  have hN:=lets_of (m:=m) (bl:=m.refine.1) (F:=m.refine.2);have hnd:(wv m m.refine.1 m.refine.2).Nodup:=(vd.1 hN.nd).imp fun h e=>h (by rw [e])
  exact xU hnd fun x hx=>zo.1 (hN.sub x hx)
 exact ⟨_,_,(KV hs B).1,by omega,h3,(KV hs B).2⟩
def Rx.lang (r:Rx) (search:Bool) (t:List Nat):Prop:=if search=true then ∃ u v,t=u++v∧r.re.L v else r.re.L t
def Zd (c:Chart):List Nat:=(zl 256).foldl (fun l b=>ins l (X4 c b)) []
def Rx.big (r:Rx) (search:Bool):Prop:=256<=(W7 (r.re.write ⟨[],[]⟩).2 (r.re.write ⟨[],[]⟩).1 search (Zd (r.re.write ⟨[],[]⟩).2) 256 257 0 ((yf (Zd (r.re.write ⟨[],[]⟩).2) (r.re.write ⟨[],[]⟩).1.fst).foldl ins [])).length
def OfOk (r:Rx) (search:Bool) (m:Mch):Prop:=(∃ n k,m.Canon n k∧n<=256∧k<=256)∧∀ t,Lts t->(m.lang t=true↔r.lang search t)
theorem OfOk.uniq {r:Rx} {search:Bool} {m m':Mch} (h:OfOk r search m) (h':OfOk r search m'):m=m':=by
 obtain ⟨⟨n,k,a,_⟩,b⟩:=h;obtain ⟨⟨n',k',a',_⟩,b'⟩:=h';exact Qp a a' fun t ht=>by rw [q5,b t ht,b' t ht]
theorem Vj {r:Rx} {search:Bool} {S L:List LW} {l:List Nat} (hv:r.valid=true) (hS:jR (r.re.write ⟨[],[]⟩).2 S) (hP:Prt (asB S) L)
  (h:wI (r.re.write ⟨[],[]⟩).2 (r.re.write ⟨[],[]⟩).1 search (L.map (wF S)) 256 257 0 ((yf (L.map (wF S)) (r.re.write ⟨[],[]⟩).1.fst).foldl ins [])=some l) :
  OfOk r search (x5 (r.re.write ⟨[],[]⟩).2 (r.re.write ⟨[],[]⟩).1 search (Z9 L) (L.map (wF S)) l).mini:=by
 obtain ⟨hg,hp⟩:=vA r.re ⟨[],[]⟩ (Rx.re_ok hv) rfl;have hf:=Ja hS hP;obtain ⟨hc,hl⟩:=QT 257 h (yl _ _ (by simp)) (fun p hp=>(qk _ _ _).2 (.inr (zC.2 ⟨p,hp,rfl⟩))) (fun j S hj=>by omega);obtain ⟨n',k',a1,a2,a3,a4⟩:=mini_ok2 (Ky hc hf);refine ⟨⟨n',k',a1,by omega,a3⟩,fun t ht=>?_⟩;rw [a4 t ht];unfold Rx.lang;cases search with
 |false=>rw [if_neg (by simp)];exact cons_of hc hf hp hg.fol ht
 |true=>rw [if_pos rfl];exact WA hc hf hp hg.fol ht
theorem Kp {r:Rx} {search:Bool} {S L:List LW} (hS:jR (r.re.write ⟨[],[]⟩).2 S) (hP:Prt (asB S) L) :
  wI (r.re.write ⟨[],[]⟩).2 (r.re.write ⟨[],[]⟩).1 search (L.map (wF S)) 256 257 0 ((yf (L.map (wF S)) (r.re.write ⟨[],[]⟩).1.fst).foldl ins [])=none↔r.big search :=
 VT (fun p=>VM hS hP p) (by omega) (by omega)
def ZV (w:World) (r:Rx) (search:Bool) (e:Ending) (w':World):Prop :=
 (r.err≠0∧e=.returned (.tuple #[.agg #[.int .i64 0,.slice none 0 0,.slice none 0 0,.slice none 0 0],JI r.err])∧St w [] [] w') ∨
 (r.err=0∧r.big search∧e=.returned (.tuple #[.agg #[.int .i64 0,.slice none 0 0,.slice none 0 0,.slice none 0 0],.iface 56 (.int .i64 9)])∧St w [] [] w') ∨
 (r.err=0∧¬ r.big search∧∃ (m:Mch) (vc vn va:Value) (P':zT),OfOk r search m∧e=.returned (.tuple #[.agg #[.int .i64 0,vc,vn,va],.nilIface])∧MchIn P' vc vn va m∧St w [] [zx P'] w')
theorem Vp {r:Rx} (h:r.err=0):r.valid=true:=by
 unfold Rx.err at h;by_cases hv:r.valid=true
 ·exact hv
 ·rw [if_neg hv] at h;omega
theorem vi {P:zT} {x:R8} {r:Rx} {search:Bool} (h:RxIn P x r) (hfx:r.fit) (hlim:(xq P).length<=549755813888) (w:World) (hp:(zw P).ho w) (hde:deA.ho w) :
  Calls z6 19 #[.agg #[.int .i64 x.h.k,.int .u64 (x.h.s0:Nat),.int .u64 (x.h.s1:Nat),.int .u64 (x.h.s2:Nat),.int .u64 (x.h.s3:Nat),.int .i64 x.h.lo,.int .i64 x.h.hi,x.pv],.bool search] w (ZV w r search):=by
 refine WB (search:=search) rfl h hfx hlim w hp hde (fun h1 w' h2=>.inl ⟨h1,rfl,h2⟩) (fun h1 S L h2 h3 h4 w' h5=>.inr (.inl ⟨h1,(Kp h2 h3).1 h4,rfl,h5⟩)) (fun h1 S L l h2 h3 h4 w' vc vn va P' h5 h6=>.inr (.inr ⟨h1,?_,_,vc,vn,va,P',Vj (Vp h1) h2 h3 h4,rfl,h5,h6⟩));intro hb;rw [(Kp h2 h3).2 hb] at h4;cases h4
theorem RxIn.fits {P:zT} {x:R8} {r:Rx} (h:RxIn P x r):r.fit:=by
 induction h with
 |mk x l rows hf hr hl _ ih =>
  rw [Rx.fit];refine ⟨⟨x.h.s0,x.h.s1,x.h.s2,x.h.s3,rfl,hf.s0,hf.s1,hf.s2,hf.s3⟩,Rx.fitL_of fun p hp=>?_⟩;obtain ⟨i,hi⟩:=yj.1 hp;exact ih i _ p (zg (by have:=zP hi;omega)) hi
end
section
open Go.RowKit Go.Maps
theorem of_c (zs:List Nat) (hz:∀ z∈zs,z<256) (hl:zs.length<=9223372036854775807) (b o cap:Nat) (w:World) (HC:Hid (∀ i,i<zs.length->w.cell? ⟨b,o+i,none⟩=some (.int .u8 (zs.getD i 0:Nat)))) (hb:b<w.heap.size) :
  Calls z6 84 #[.slice (some ⟨b,o,none⟩) zs.length cap] w fun e w'=>e=.returned (.agg (AV (ofL zs)))∧Below w.heap.size w w':=by
 go_enter Tryd.func84,Tryd.ntmps84;go_wp2_with (refine qT rfl 34 rfl _ z26 ?_;simp only [Act.put,zd,zj,zk,World.size_alloc])
 go_loopw [5,8] (fun _ i wr=>∃ k:Nat,k<=zs.length∧i=.int .i64 k∧wr=((w.alloc (.cells (AV fun _=>0) 34)).alloc (.cells (AV (ofL (zs.take k))) 34))) (fun _ i _=>zs.length-(intOf i).toNat)
 case atStart=>exact ⟨0,by omega,rfl,rfl⟩
 case round =>
  obtain ⟨k,hk,rfl,rfl⟩:=hrel;by_cases hlt:k<zs.length
  ·obtain ⟨z,hzz⟩:∃ z,z=zs.getD k 0:=⟨_,rfl⟩
   have hz2:z<256:=hz _ (by rw [hzz];simp [List.getD,hlt]);obtain ⟨x,hx⟩:∃ x,x=ofL (zs.take k) (z/64):=⟨_,rfl⟩
   have hxb:x<=18446744073709551615:=(by have:=wM (zs.take k) (z/64);omega);have hc:=YU (ofL (zs.take k)) z hz2 x hx;have hcell:=HC.out k hlt;rw [← hzz] at hcell;have h1:((z:Int)/64).toNat=z/64:=(by omega);have HX:=zh hx;have HZ:=zh hzz;clear hx hzz
   go_wp2
   go_roundw
   case rel =>
    refine ⟨k+1,by omega,by go_num,?_⟩;rw [Wn _ (wM _) _ _ HX.out,Kh zs k hlt,J7,HZ.out]
   case measure=>simp [intOf];omega
  ·obtain rfl:k=zs.length:=by omega
   rw [vX];go_wp2_with (first|(refine wpList_load_row rfl 34 _ rfl _ rfl _ _ _ _ (qS _ _ _ (by simp)) zF rfl (i26 _) ?_;simp only [Act.put,zd,zj,zk])|(refine qr rfl 34 _ _ rfl _ rfl _ rfl _ _ ((yJ _ _ _ (by simp)).trans (qS _ _ _ rfl)) (i26 _) (by rw [qB,qB]) (ws _) ?_;rw [jZ _ _ _ _ (by simp),yQ _ _ _ _ _ rfl];simp only [Act.put,zd,zj,zk]));exact bodyPost_ret (results_cell_row rfl _ _ _ _ _ _ _ rfl ((yJ _ _ _ (by simp)).trans (qS _ _ _ rfl)) zF rfl (i26 _)) rfl
    ⟨rfl,((Below.refl _ _).alloc (by simp) _).alloc (by simp) _⟩
attribute [local go_sem] qM
theorem YH {P:Program} {t xT:TypeId} {k:IntKind} {v:Value} {w:World} (h:P.underlying t=some (.int k)):(Instr.typeAssert (.iface t v) xT t true).run P w=.ok (.tuple #[v,.bool true]) w:=by
 simp [Instr.typeAssert,run_underlying h,go_sem,Result.andThen]
theorem WO:z6.underlying 56=some (.int .i64):=by kernel_rfl
section
variable {ops:Array Oper} {Q:Exit->Act->World->Prop} {rest:List Oper} {a:Act} {w:World} {o1:Oper} {dst:Option Tmp} {ty0:TypeId} {pos:String} {aft:Array Edge} {gd:Option (Nat×Bool)}
def AtAssert (P:Program) (ops:Array Oper) (Q:Exit->Act->World->Prop) (o:Oper) (_:Operand) (_ _:TypeId) (_:Bool) (rest:List Oper) (a:Act) (w:World):Prop:=wpList P ops Q (o::rest) a w
theorem isAssert {P:Program} {t u:TypeId} {x:Operand} {ok:Bool} (h:AtAssert P ops Q ⟨dst,.typeAssert x t u ok,ty0,pos,aft,gd⟩ x t u ok rest a w):wpList P ops Q (⟨dst,.typeAssert x t u ok,ty0,pos,aft,gd⟩::rest) a w:=h
theorem AtAssert.errno {x:Operand} {xT:TypeId} {v:Value} (hw:Region.wanted o1 (yielded ops a.tmps)=true) (ho:o1.op=.typeAssert x xT 56 true) (hx:a.eval x=.iface 56 v)
  (h:wpList z6 ops Q rest (a.put o1.dst (.tuple #[v,.bool true])) w):AtAssert z6 ops Q o1 x xT 56 true rest a w :=
 wpList_step fun _ hK=>by
  rw [if_pos hw];unfold Oper.wp execOp;simp only [ho,hx,Sem.run_bind,YH WO,Result.andThen_ok];exact hK _ _ h
end
theorem num_nil (w:World):Calls z6 9 #[.nilIface] w fun e w'=>e=.returned (.int .i64 0)∧w'=w:=by
 have H:=St.nil w [];have HK:=Ks.nil w [];go_enter Tryd.func9,Tryd.ntmps9;go_wp2_with (first|refine sL ?_);go_ret;exact ⟨rfl,rfl⟩
theorem num_ev (n:Nat) (w:World):Calls z6 9 #[.iface 56 (.int .i64 n)] w fun e w'=>e=.returned (.int .i64 n)∧w'=w:=by
 have H:=St.nil w [];have HK:=Ks.nil w [];go_enter Tryd.func9,Tryd.ntmps9;go_wp2_with (first|refine sL ?_|((with_reducible refine isAssert ?_);refine AtAssert.errno rfl rfl rfl ?_;simp only [Act.put,puA,puB,puC]));go_ret;exact ⟨rfl,rfl⟩
theorem zero_c (w:World):Calls z6 10 #[.agg #[.int .i64 0,.slice none 0 0,.slice none 0 0,.slice none 0 0]] w fun e w'=>e=.returned (.bool true)∧St w [] [] w':=by
 have H:=St.nil w [];have HK:=Ks.nil w [];go_enter Tryd.func10,Tryd.ntmps10;go_wp2_with (first|refine sL ?_|(refine sS ?_;clear H;intros;rename_i H));go_ret;exact ⟨rfl,H.nix⟩
theorem of1_c {P:zT} {x:R8} {r:Rx} (h:RxIn P x r) (hlim:(xq P).length<=549755813888) (w:World) (hp:(zw P).ho w) (hde:deA.ho w) :
  Calls z6 11 #[.agg #[.int .i64 x.h.k,.int .u64 (x.h.s0:Nat),.int .u64 (x.h.s1:Nat),.int .u64 (x.h.s2:Nat),.int .u64 (x.h.s3:Nat),.int .i64 x.h.lo,.int .i64 x.h.hi,x.pv]] w (ZV w r false):=by
 have H:=St.nil w [];have HK:Ks w [] [deA,zw P]:=Ks.cons hde (by simp) (Ks.one hp);have hc:=fun w h1 h2=>vi (search:=false) h h.fits hlim w h1 h2
 obtain ⟨rows,hhd,hfit,hrow,hrl,hrx⟩:=h.inv;obtain ⟨ad,cp,epv,hml⟩:=hrow.shape;obtain ⟨⟨k,s0,s1,s2,s3,lo,hi⟩,pv⟩:=x;simp only at epv hc ⊢;subst epv;have HC:=zh hc;clear h hp hde hc hhd hfit hrow hrl hrx;go_enter Tryd.func11,Tryd.ntmps11;go_wp2_with (first|refine sL ?_|(refine sS ?_;clear H;intros;rename_i H));refine zm (HC.out _ (H.known (A:=zw P) HK pk) (H.known (A:=deA) HK pk)) ?_;rintro e wc (⟨h1,rfl,hb⟩|⟨h1,h2,rfl,hb⟩|⟨h1,h2,m,vc,vn,va,P',h3,rfl,h4,hb⟩)
 ·obtain ⟨ek,hek⟩:∃ z,JI r.err=z:=⟨_,rfl⟩
  rw [hek];have HX:Hid (ZV w r false (.returned (.tuple #[.agg #[.int .i64 0,.slice none 0 0,.slice none 0 0,.slice none 0 0],ek]))=ZV w r false (.returned (.tuple #[.agg #[.int .i64 0,.slice none 0 0,.slice none 0 0,.slice none 0 0],JI r.err]))):=zh (by rw [hek]);have H1:=zh h1;replace H:=H.grew hb.below;clear hb h1 hek;go_wp2_with (first|refine sL ?_|(refine sS ?_;clear H;intros;rename_i H));refine bodyPost_ret (yv rfl H rfl pk rfl rfl) rfl ?_;change ZV w r false (.returned (.tuple #[.agg #[.int .i64 0,.slice none 0 0,.slice none 0 0,.slice none 0 0],ek])) _
  rw [HX.out];exact .inl ⟨H1.out,rfl,H.nix⟩
 ·have H1:=zh (za h1 h2);replace H:=H.grew hb.below;clear hb h1 h2;go_wp2_with (first|refine sL ?_|(refine sS ?_;clear H;intros;rename_i H));refine bodyPost_ret (yv rfl H rfl pk rfl rfl) rfl ?_;exact .inr (.inl ⟨H1.out.1,H1.out.2,rfl,H.nix⟩)
 ·obtain ⟨xc,yc,rfl,_⟩:=h4.cls.shape;obtain ⟨xa,ya,rfl,_⟩:=h4.acc.shape;obtain ⟨rw9,hn9,hl9,hm9⟩:=id h4.nxt;obtain ⟨xn,yn,rfl,_⟩:=hn9.shape;have H1:=zh (za h1 (za h2 (za h3 h4)));replace H:=H.call0 hb;simp only [z7,z8] at H;clear hb h1 h2 h3 h4 hn9 hl9 hm9;go_wp2_with (first|refine sL ?_|(refine sS ?_;clear H;intros;rename_i H));refine bodyPost_ret (yv rfl H rfl pk rfl rfl) rfl ?_;exact .inr (.inr ⟨H1.out.1,H1.out.2.1,m,_,_,_,P',H1.out.2.2.1,rfl,H1.out.2.2.2,H.picks (.cons pk .nil)⟩)
structure StrL (s:ByteArray) (L:List Nat):Prop where
 size:s.size=L.length
 idx:∀ i c,L[i]?=some c->∀ w,(Instr.index 9 (.string s) (.int .i64 (i:Nat))).run z6 w=.ok (.int .u8 (c:Nat)) w
 lt:∀ c∈L,c<256
theorem ZP {bp a b:Nat} {s:ByteArray} {L:List Nat} (hs:StrL s L) (hl:L.length<=262144) (hb:L[a]?=some b) (w:World) (h:(blk bp (.cells #[.string s,.int .i64 (a:Nat)] 58)).ho w) :
  Calls z6 40 #[.pointer (some ⟨bp,0,none⟩),.int .u8 (b:Nat)] w fun e w'=>e=.returned (.bool true)∧St w [bp] [blk bp (.cells #[.string s,.int .i64 ((a+1:Nat):Int)] 58)] w':=by
 have H:=St.one h;rw [qi] at H;have HK:Ks w [bp] []:=Ks.nil w _;have hix:=hs.idx a b hb;have hsz:=hs.size;have hal:=zP hb;obtain ⟨n,hn⟩:∃ z,L.length=z:=⟨_,rfl⟩
 rw [hn] at hsz hal hl;have e1:decide ((a:Int)<(n:Int))=true:=(by simp;omega);have e1n:decide (a<n)=true:=(by simp;omega);have e2:((b:Int)==(b:Int))=true:=(by simp);clear hs hb h hn;go_enter Tryd.func40,Tryd.ntmps40;go_wp2_with (first|refine sL ?_|(refine sS ?_;clear H;intros;rename_i H));refine zr H 23 [] [] (by kernel_rfl) (by kernel_rfl) ?_;apply Exists.intro;refine ⟨fun w1 hw1 HX=>?_,fun bs wr Hr=>?_⟩
 ·refine sG ?_;repeat (first|go_big_quiet_skip|refine sQ ?_|fail|go_big_quiet_step (fail))
  exact wpQuiet_nil rfl
 clear H;have H:=Hr;clear Hr;replace H:=sH H;refine sT ?_;go_wp2_with (first|refine sL ?_|(refine sS ?_;clear H;intros;rename_i H));go_ret;exact ⟨rfl,H⟩
end
end Go.Proofs.YtminpdngkjlehaaDoor
section
namespace Go.Proofs
open Go.Shelf
def Tryd.lays137_ren:Go.Shelf.Ren:=⟨fun|137=>77|217=>68|266=>82|n=>n,fun|9=>9|5=>5|3=>3|n=>n,fun|n=>n⟩
theorem Tryd.lays137:Go.Proofs.Lays.n137 z6 Tryd.lays137_ren:={
 mixed:=by kernel_rfl
 f137:=Tryd.func77.trans (congrArg some (by kernel_rfl))
 f217:=Tryd.func68.trans (congrArg some (by kernel_rfl))
 f266:=Tryd.func82.trans (congrArg some (by kernel_rfl))
 t3:=X1
 a3:=Tryd.isAgg3
 z3:=Tryd.sizeOf3
 v3:=Tryd.zeroValue3
 t5:=Tryd.underlying5
 a5:=Tryd.isAgg5
 z5:=Tryd.sizeOf5
 v5:=Tryd.zeroValue5
 t9:=X2
 a9:=Tryd.isAgg9
 z9:=Tryd.sizeOf9
 v9:=YW }
def Tryd.lays138_ren:Go.Shelf.Ren:=⟨fun|138=>20|195=>36|218=>37|143=>38|219=>53|217=>68|225=>69|224=>70|267=>71|266=>82|314=>83|n=>n,fun|9=>9|3=>3|4=>4|5=>5|0=>0|46=>128|146=>137|51=>136|n=>n,fun|1=>0|n=>n⟩
theorem Tryd.lays138:Go.Proofs.Lays.n138 z6 Tryd.lays138_ren:={
 mixed:=by kernel_rfl
 f138:=Tryd.func20.trans (congrArg some (by kernel_rfl))
 f143:=Tryd.func38.trans (congrArg some (by kernel_rfl))
 f195:=Tryd.func36.trans (congrArg some (by kernel_rfl))
 f217:=Tryd.func68.trans (congrArg some (by kernel_rfl))
 f218:=Tryd.func37.trans (congrArg some (by kernel_rfl))
 f219:=Tryd.func53.trans (congrArg some (by kernel_rfl))
 f224:=Tryd.func70.trans (congrArg some (by kernel_rfl))
 f225:=Tryd.func69.trans (congrArg some (by kernel_rfl))
 f266:=Tryd.func82.trans (congrArg some (by kernel_rfl))
 f267:=Tryd.func71.trans (congrArg some (by kernel_rfl))
 f314:=Tryd.func83.trans (congrArg some (by kernel_rfl))
 t0:=Tryd.underlying0
 a0:=Tryd.isAgg0
 z0:=Tryd.sizeOf0
 v0:=Tryd.zeroValue0
 t3:=X1
 a3:=Tryd.isAgg3
 z3:=Tryd.sizeOf3
 v3:=Tryd.zeroValue3
 t4:=Tryd.underlying4
 a4:=Tryd.isAgg4
 z4:=Tryd.sizeOf4
 v4:=Tryd.zeroValue4
 t5:=Tryd.underlying5
 a5:=Tryd.isAgg5
 z5:=Tryd.sizeOf5
 v5:=Tryd.zeroValue5
 t9:=X2
 a9:=Tryd.isAgg9
 z9:=Tryd.sizeOf9
 v9:=YW
 t46:=Tryd.underlying128
 a46:=Tryd.isAgg128
 z46:=Tryd.sizeOf128
 v46:=Tryd.zeroValue128
 t51:=Tryd.underlying136
 a51:=Tryd.isAgg136
 z51:=Tryd.sizeOf136
 v51:=Tryd.zeroValue136
 t146:=Tryd.underlying137
 a146:=Tryd.isAgg137
 z146:=Tryd.sizeOf137
 v146:=Tryd.zeroValue137
 g1:=by kernel_rfl }
open Go.RowKit Go.Lib in
theorem Tryd.strings_IndexByte (s:ByteArray) (c:Int) (w:World) :
  Calls z6 77 #[.string s,.int .u8 c] w fun e w'=>e=.returned (.int .i64 (Lib.indexByte s.data.toList c.toNat.toUInt8))∧w'=w:=Any.strings_IndexByte Tryd.lays137 s c w
open Go.RowKit Go.Lib in
theorem Tryd.strings_Count_one (s:ByteArray) (c:UInt8) (w:World) :
  Calls z6 20 #[.string s,.string ⟨#[c]⟩] w fun e w'=>e=.returned (.int .i64 (Lib.countByte s.data.toList c))∧w'=w:=Any.strings_Count_one Tryd.lays138 s c w
end Go.Proofs
end
namespace Go.Proofs.YtminpdngkjlehaaDoor
end Go.Proofs.YtminpdngkjlehaaDoor
