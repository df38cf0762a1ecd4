/-
  LocateErrors: the given statement. For every input the law returns true and leaves its arguments. No condition beyond the statement's own.
-/
import Derived.Test.YtijnhpaafhcndaaGreatEr4
import Derived.ChangeOld
import Derived.Deep.LoopGhost
import Derived.Deep.Slices
import Derived.Lib.SmallJoins
import Derived.OpenShut
import Derived.ProofKit
import Derived.ShutString
import Derived.Test.YtijnhpaafhcndaaGreatRows
set_option linter.unusedSimpArgs false
set_option linter.unusedVariables false
set_option maxRecDepth 100000
set_option maxHeartbeats 80000000
namespace Go.Proofs.YtijnhpaafhcndaaGreat
section
open Go.RowKit Go.Maps
attribute [local go_sem] InGr
structure Raw where
 start:Int
 cls:List Int
 next:List (List Int)
 acc:List Bool
 wts:List Int
structure RawAt (P:PoolT) (cv nv av hv:Value) (rvs:List Value) (R:Raw):Prop where
 cls:RowIn P encZ 1 cv R.cls
 next:RowIn P encV 1 nv rvs
 len:rvs.length = R.next.length
 rows:∀ (i:Nat) (rv:Value) (r:List Int),rvs[i]? = some rv→R.next[i]? = some r→RowIn P encZ 1 rv r
 acc:RowIn P encB 1 av R.acc
 wts:RowIn P encZ 1 hv R.wts
structure Raw.Snd (R:Raw) (c:Nat):Prop where
 n1:1≤R.next.length
 n8:R.next.length≤8
 acc:R.acc.length = R.next.length
 wts:R.wts.length = R.next.length
 s0:0≤R.start
 sn:R.start < R.next.length
 cls:R.cls.length = 256
 c1:1≤c
 c256:c≤256
 clsIn:∀ z∈R.cls,0≤z∧z < c
 rows:∀ r∈R.next,r.length = c∧∀ z∈r,0≤z∧z < R.next.length
 wtsIn:∀ x∈R.wts,0≤x∧x≤1048576
def Raw.mc (R:Raw):Mc:=⟨R.start.toNat,R.cls.map Int.toNat,R.next.map (·.map Int.toNat),R.acc,R.wts.map Int.toNat⟩
theorem flat_toNat {xs:List Int} (h:∀ x∈xs,0≤x):flatG encI (xs.map Int.toNat) = flatG encZ xs:=by
 induction xs with
 |nil=>rfl
 |cons x xs ih =>
  have e1:flatG encI ((x :: xs).map Int.toNat) = encI x.toNat ++ flatG encI (xs.map Int.toNat):=by simp [flatG]
  have e2:flatG encZ (x :: xs) = encZ x ++ flatG encZ xs:=by simp [flatG]
  have hx:=h x (by simp)
  rw [e1,e2,ih fun y hy=>h y (by simp [hy])]
  simp only [encI,encZ,Int.toNat_of_nonneg hx]
theorem RowIn.toNat {P:PoolT} {v:Value} {xs:List Int} (h:RowIn P encZ 1 v xs) (h0:∀ x∈xs,0≤x):RowIn P encI 1 v (xs.map Int.toNat):=by
 obtain ⟨ad,c,h1,h2,h3⟩:=h
 refine ⟨ad,c,by rw [List.length_map];exact h1,by rw [List.length_map];exact h2,fun hx=>?_⟩
 rw [List.length_map] at hx
 obtain ⟨g,o,e,hm⟩:=h3 hx
 exact ⟨g,o,e,by rw [flat_toNat h0];exact hm⟩
theorem Raw.Snd.ok {R:Raw} {c:Nat} (h:R.Snd c):R.mc.Ok c:=by
 have hn:R.mc.n = R.next.length:=by simp [Mc.n,Raw.mc]
 have h1:=h.n1
 have h8:=h.n8
 have hs:=h.s0
 have hs2:=h.sn
 refine ⟨by omega,by omega,?_,by simp [Raw.mc,h.cls],h.c1,h.c256,fun i x hx=>?_,fun i r hr=>?_,fun i j x r hr hx=>?_,by rw [hn];exact h.acc,by rw [hn];simp [Raw.mc,h.wts],fun i x hx=>?_⟩
 ·rw [hn];simp only [Raw.mc];omega
 ·obtain ⟨z,hz,rfl⟩:=List.mem_map.1 (List.mem_of_getElem? hx)
  have:=h.clsIn z hz
  omega
 ·obtain ⟨z,hz,rfl⟩:=List.mem_map.1 (List.mem_of_getElem? hr)
  rw [List.length_map]
  exact (h.rows z hz).1
 ·obtain ⟨z,hz,rfl⟩:=List.mem_map.1 (List.mem_of_getElem? hr)
  obtain ⟨y,hy,rfl⟩:=List.mem_map.1 (List.mem_of_getElem? hx)
  have:=(h.rows z hz).2 y hy
  omega
 ·obtain ⟨z,hz,rfl⟩:=List.mem_map.1 (List.mem_of_getElem? hx)
  have:=h.wtsIn z hz
  omega
theorem RawAt.mac {P:PoolT} {cv nv av hv:Value} {rvs:List Value} {R:Raw} {c:Nat} (h:RawAt P cv nv av hv rvs R) (hs:R.Snd c):MacAt P cv nv av rvs R.mc∧RowIn P encI 1 hv R.mc.wts:=by
 refine ⟨⟨h.cls.toNat fun x hx=>(hs.clsIn x hx).1,h.next,by rw [h.len];simp [Mc.n,Raw.mc],fun i rv r h1 h2=>?_,h.acc⟩,h.wts.toNat fun x hx=>(hs.wtsIn x hx).1⟩
 simp only [Raw.mc,List.getElem?_map] at h2
 cases hr:R.next[i]? with
 |none=>rw [hr] at h2;cases h2
 |some r' =>
  rw [hr] at h2
  injection h2 with h2
  subst h2
  exact (h.rows i rv r' h1 hr).toNat fun x hx=>((hs.rows r' (List.mem_of_getElem? hr)).2 x hx).1
def SoRel (R:Raw) (c n b2:Nat) (cs:Array Value) (w:World) (v8:Value) (wr:World):Prop :=
 ∃ k:Nat,v8 = .int .i64 k∧k≤n∧(∀ (j:Nat) (r:List Int) (x:Int),j < k→R.next[j]? = some r→R.wts[j]? = some x→(r.length = c∧∀ z∈r,0≤z∧z < n)∧0≤x∧x≤1048576)∧St w [] [blk b2 (.cells cs 26)] wr
def SndPost (R:Raw) (w:World) (e:Ending) (w':World):Prop:=∃ b,e = .returned (.bool b)∧(b = true→∃ c,R.Snd c)∧St w [] [] w'
theorem sound_c {P:PoolT} {cv nv av hv:Value} {rvs:List Value} {R:Raw} (h:RawAt P cv nv av hv rvs R) (hs1:-9223372036854775808≤R.start) (hs2:R.start≤9223372036854775807) (w:World) (hp:(poolA P).ho w) :
  Calls Tryz.prog 18 #[.agg #[.int .i64 R.start,cv,nv,av],hv] w (SndPost R w):=by
 have H:=St.nil w []
 have HK:=Ks.one hp
 have HRA:=Lib.hid h
 obtain ⟨a1,c1,rfl,hm1⟩:=h.cls.shape
 obtain ⟨a2,c2,rfl,hm2⟩:=h.next.shape
 obtain ⟨a3,c3,rfl,hm3⟩:=h.acc.shape
 obtain ⟨a4,c4,rfl,hm4⟩:=h.wts.shape
 unfold maxLen at hm1 hm2 hm3 hm4
 have hlen:=h.len
 rw [hlen] at HRA hm2 ⊢
 have HCL:=Lib.hid h.cls
 have HNX:=Lib.hid h.next
 have HWT:=Lib.hid h.wts
 have HRS:=Lib.hid h.rows
 have HLEN:=Lib.hid hlen
 rw [hlen] at HNX
 obtain ⟨n,hn⟩:∃ n,n = R.next.length:=⟨_,rfl⟩
 obtain ⟨st,hst⟩:∃ st,st = R.start:=⟨_,rfl⟩
 rw [← hn] at HRA HNX hm2 ⊢
 rw [← hst] at hs1 hs2 ⊢
 have HN:=Lib.hid hn
 have HST:=Lib.hid hst
 generalize hla:R.acc.length = la at *
 generalize hlw:R.wts.length = lw at *
 generalize hlc:R.cls.length = lc at *
 have HLA:=Lib.hid hla
 have HLW:=Lib.hid hlw
 have HLC:=Lib.hid hlc
 clear h hp hlen hn hst hla hlw hlc
 by_cases k1:n < 1
 ·have ek1:decide ((n:Int) < 1) = true:=by simp;omega
  clear k1
  go_enter Tryz.func18,Tryz.ntmps18
  go_wp2_with (first | refine sL ?_ | (refine sS ?_;clear H;intros;rename_i H))
  go_ret
  exact ⟨false,rfl,by simp,H.nix⟩
 have ek1:decide ((n:Int) < 1) = false:=by simp;omega
 by_cases k2:8 < n
 ·have ek2:decide (8 < (n:Int)) = true:=by simp;omega
  clear k2
  go_enter Tryz.func18,Tryz.ntmps18
  go_wp2_with (first | refine sL ?_ | (refine sS ?_;clear H;intros;rename_i H))
  go_ret
  exact ⟨false,rfl,by simp,H.nix⟩
 have ek2:decide (8 < (n:Int)) = false:=by simp;omega
 by_cases k3:la≠n
 ·have ek3:((la:Int) != (n:Int)) = true:=by simp;omega
  have fk30:((la:Int) == (n:Int)) = false:=by simp;omega
  clear k3
  go_enter Tryz.func18,Tryz.ntmps18
  go_wp2_with (first | refine sL ?_ | (refine sS ?_;clear H;intros;rename_i H))
  go_ret
  exact ⟨false,rfl,by simp,H.nix⟩
 have ek3:((la:Int) != (n:Int)) = false:=by simp;omega
 have fk30:((la:Int) == (n:Int)) = true:=by simp;omega
 by_cases k4:lw≠n
 ·have ek4:((lw:Int) != (n:Int)) = true:=by simp;omega
  have fk40:((lw:Int) == (n:Int)) = false:=by simp;omega
  clear k4
  go_enter Tryz.func18,Tryz.ntmps18
  go_wp2_with (first | refine sL ?_ | (refine sS ?_;clear H;intros;rename_i H))
  go_ret
  exact ⟨false,rfl,by simp,H.nix⟩
 have ek4:((lw:Int) != (n:Int)) = false:=by simp;omega
 have fk40:((lw:Int) == (n:Int)) = true:=by simp;omega
 by_cases k5:st < 0
 ·have ek5:decide (st < 0) = true:=by simp;omega
  clear k5
  go_enter Tryz.func18,Tryz.ntmps18
  go_wp2_with (first | refine sL ?_ | (refine sS ?_;clear H;intros;rename_i H))
  go_ret
  exact ⟨false,rfl,by simp,H.nix⟩
 have ek5:decide (st < 0) = false:=by simp;omega
 by_cases k6:(n:Int)≤st
 ·have ek6:decide ((n:Int)≤st) = true:=by simp;omega
  clear k6
  go_enter Tryz.func18,Tryz.ntmps18
  go_wp2_with (first | refine sL ?_ | (refine sS ?_;clear H;intros;rename_i H))
  go_ret
  exact ⟨false,rfl,by simp,H.nix⟩
 have ek6:decide ((n:Int)≤st) = false:=by simp;omega
 by_cases k7:lc≠256
 ·have ek7:((lc:Int) != 256) = true:=by simp;omega
  have fk70:((lc:Int) == 256) = false:=by simp;omega
  clear k7
  go_enter Tryz.func18,Tryz.ntmps18
  go_wp2_with (first | refine sL ?_ | (refine sS ?_;clear H;intros;rename_i H))
  go_ret
  exact ⟨false,rfl,by simp,H.nix⟩
 have ek7:((lc:Int) != 256) = false:=by simp;omega
 have fk70:((lc:Int) == 256) = true:=by simp;omega
 obtain ⟨r0,hr0⟩:∃ r0,R.next[0]? = some r0:=⟨_,List.getElem?_eq_getElem (by rw [← HN.out];omega)⟩
 obtain ⟨v0,hv0⟩:∃ v0,rvs[0]? = some v0:=⟨_,List.getElem?_eq_getElem (by rw [HLEN.out,← HN.out];omega)⟩
 obtain ⟨a0,c0,rfl,hm0⟩:=(HRS.out 0 v0 r0 hv0 hr0).shape
 have HR0:=Lib.hid hr0
 have HV0:=Lib.hid hv0
 unfold maxLen at hm0
 obtain ⟨g2,o2,c2',he2,hnx2⟩:=HNX.out.has (by rw [HLEN.out,← HN.out];omega)
 injection he2 with x1 x2 x3
 subst x1
 obtain ⟨c,hc⟩:∃ c,c = r0.length:=⟨_,rfl⟩
 rw [← hc] at HV0 hm0
 have HC:=Lib.hid hc
 have hn0:0 < n:=by omega
 have hn8:n≤8:=by omega
 have hlc:lc = 256:=by omega
 have hlw:n = lw:=by omega
 have hla:la = n:=by omega
 obtain ⟨g1,o1,c1',he1,_⟩:=HCL.out.has (by rw [HLC.out];omega)
 injection he1 with y1 y2 y3
 subst y1
 obtain ⟨g4,o4,c4',he4,_⟩:=HWT.out.has (by rw [HLW.out];omega)
 injection he4 with z1 z2 z3
 subst z1
 subst hlc
 have HFACT:=Lib.hid (show n = R.next.length∧R.acc.length = n∧R.wts.length = n∧0≤st∧st < n∧R.cls.length = 256 from ⟨HN.out,by rw [HLA.out,hla],by rw [HLW.out,hlw],by omega,by omega,HLC.out⟩)
 subst hlw
 clear hr0 hv0 hnx2 x2 x3 y2 y3 z2 z3 hc hla k1 k2 k3 k4 k5 k6 k7
 by_cases k8:c < 1
 ·have ek8:decide ((c:Int) < 1) = true:=by simp;omega
  clear k8
  go_enter Tryz.func18,Tryz.ntmps18
  go_wp2_with (first | refine sL ?_ | (refine sS ?_;clear H;intros;rename_i H) | ((with_reducible refine isLoad ?_);refine AtLoad.cel rfl rfl rfl rfl (HNX.out.cell (H.known HK pk) encV_len HV0.out rfl) ?_;simp only [Act.put,puA,puB,puC]))
  go_ret
  exact ⟨false,rfl,by simp,H.nix⟩
 have ek8:decide ((c:Int) < 1) = false:=by simp;omega
 by_cases k9:256 < c
 ·have ek9:decide (256 < (c:Int)) = true:=by simp;omega
  clear k9
  go_enter Tryz.func18,Tryz.ntmps18
  go_wp2_with (first | refine sL ?_ | (refine sS ?_;clear H;intros;rename_i H) | ((with_reducible refine isLoad ?_);refine AtLoad.cel rfl rfl rfl rfl (HNX.out.cell (H.known HK pk) encV_len HV0.out rfl) ?_;simp only [Act.put,puA,puB,puC]))
  go_ret
  exact ⟨false,rfl,by simp,H.nix⟩
 have ek9:decide (256 < (c:Int)) = false:=by simp;omega
 have hc0:0 < c:=by omega
 have hc256:c≤256:=by omega
 clear k8 k9
 go_enter Tryz.func18,Tryz.ntmps18
 go_wp2_with (first | refine sL ?_ | (refine sS ?_;clear H;intros;rename_i H) | ((with_reducible refine isLoad ?_);refine AtLoad.cel rfl rfl rfl rfl (HNX.out.cell (H.known HK pk) encV_len HV0.out rfl) ?_;simp only [Act.put,puA,puB,puC]))
 rename_i b2 _ _ _
 go_loopw [7] (fun v7 wr=>∃ k:Nat,v7 = .int .i64 k∧k≤256∧(∀ (j:Nat) (z:Int),j < k→R.cls[j]? = some z→0≤z∧z < c)∧St w [] [blk b2 (.cells #[.int .i64 st,.slice (some ⟨g1,o1,none⟩) 256 c1,.slice (some ⟨g2,o2,none⟩) n c2,.slice a3 la c3] 26)] wr) (fun v7 _=>256 - (intOf v7).toNat)
 case atStart=>exact ⟨0,rfl,Nat.zero_le _,by intro j z hj;omega,H⟩
 case round =>
  clear H
  obtain ⟨k,rfl,hk,hall,H⟩:=hrel
  have HA:=Lib.hid hall
  clear hall
  by_cases hlt:k < 256
  ·obtain ⟨z,hz⟩:∃ z,R.cls[k]? = some z:=⟨_,List.getElem?_eq_getElem (by rw [HLC.out];exact hlt)⟩
   have HZ:=Lib.hid hz
   clear hz
   by_cases z0:z < 0
   ·have d0:decide (z < 0) = true:=by simpa using z0
    go_wp2_with (first | refine sL ?_ | (refine sS ?_;clear H;intros;rename_i H) | ((with_reducible refine isLoad ?_);refine AtLoad.cel rfl rfl rfl rfl (HCL.out.cell (H.known HK pk) encZ_len HZ.out rfl) ?_;simp only [Act.put,puA,puB,puC]))
    go_ret
    exact ⟨false,rfl,by simp,H.nix⟩
   ·have d0:decide (z < 0) = false:=by simpa using z0
    by_cases zn:(c:Int)≤z
    ·have d1:decide ((c:Int)≤z) = true:=by simpa using zn
     go_wp2_with (first | refine sL ?_ | (refine sS ?_;clear H;intros;rename_i H) | ((with_reducible refine isLoad ?_);refine AtLoad.cel rfl rfl rfl rfl (HCL.out.cell (H.known HK pk) encZ_len HZ.out rfl) ?_;simp only [Act.put,puA,puB,puC]))
     go_ret
     exact ⟨false,rfl,by simp,H.nix⟩
    ·have d1:decide ((c:Int)≤z) = false:=by simpa using zn
     go_wp2_with (first | refine sL ?_ | (refine sS ?_;clear H;intros;rename_i H) | ((with_reducible refine isLoad ?_);refine AtLoad.cel rfl rfl rfl rfl (HCL.out.cell (H.known HK pk) encZ_len HZ.out rfl) ?_;simp only [Act.put,puA,puB,puC]))
     refine ⟨⟨k + 1,by go_num,by omega,fun j y hj hy=>?_,H⟩,by simp [intOf];omega⟩
     rcases Nat.lt_or_ge j k with h | h
     ·exact HA.out j y h hy
     ·obtain rfl:j = k:=by omega
      rw [HZ.out] at hy
      injection hy with hy
      subst hy
      omega
  ·have hke:k = 256:=by omega
   subst hke
   have HCI:=Lib.hid (show ∀ z∈R.cls,0≤z∧z < c from fun z hz=>by
    obtain ⟨j,hj⟩:=List.getElem?_of_mem hz
    exact HA.out j z (by have:=getElem_len hj;rw [HLC.out] at this;exact this) hj)
   clear HA
   go_wp2_with (first | refine sL ?_ | (refine sS ?_;clear H;intros;rename_i H))
   go_loopw [8] (fun v8 wr=>SoRel R c n b2 #[.int .i64 st,.slice (some ⟨g1,o1,none⟩) 256 c1,.slice (some ⟨g2,o2,none⟩) n c2,.slice a3 la c3] w v8 wr) (fun v8 _=>n - (intOf v8).toNat)
   case atStart=>exact ⟨0,rfl,Nat.zero_le _,by intro j r x hj;omega,H⟩
   case round =>
    clear H
    obtain ⟨k,rfl,hk,hall,H⟩:=hrel
    have HA:=Lib.hid hall
    clear hall
    by_cases hlt:k < n
    ·obtain ⟨r,hr⟩:∃ r,R.next[k]? = some r:=⟨_,List.getElem?_eq_getElem (by rw [← HFACT.out.1];exact hlt)⟩
     obtain ⟨rv,hrv⟩:∃ rv,rvs[k]? = some rv:=⟨_,List.getElem?_eq_getElem (by rw [HLEN.out,← HFACT.out.1];exact hlt)⟩
     obtain ⟨x,hx⟩:∃ x,R.wts[k]? = some x:=⟨_,List.getElem?_eq_getElem (by rw [HFACT.out.2.2.1];exact hlt)⟩
     have hrow:=HRS.out k rv r hrv hr
     obtain ⟨a9,c9,rfl,hm9⟩:=hrow.shape
     have HX:=Lib.hid hx
     have HRV:=Lib.hid hrv
     have HR9:=Lib.hid hr
     by_cases hX:r.length = c∧∀ z∈r,0≤z∧z < n
     ·have HROW:Hid (∀ w,(poolA P).ho w→Calls Tryz.prog 48 #[.slice a9 r.length c9,.int .i64 c,.int .i64 n] w (fun e w'=>e = .returned (.bool true)∧St w [] [] w')):=Lib.hid fun w h=>by
       refine Calls.mono (row_c hrow hc256 hn8 w h) ?_
       rintro e w' ⟨b,rfl,hb,hs⟩
       obtain rfl:=hb.2 hX
       exact ⟨rfl,hs⟩
      have HX9:=Lib.hid hX
      clear hr hrv hx hrow hm9 hX
      by_cases x0:x < 0
      ·have d0:decide (x < 0) = true:=by simpa using x0
       go_wp2_with (first | refine sL ?_ | (refine sS ?_;clear H;intros;rename_i H) | ((with_reducible refine isLoad ?_);refine AtLoad.cel rfl rfl rfl rfl (HNX.out.cell (H.known HK pk) encV_len HRV.out rfl) ?_;simp only [Act.put,puA,puB,puC]) | ((with_reducible refine isLoad ?_);refine AtLoad.cel rfl rfl rfl rfl (HWT.out.cell (H.known HK pk) encZ_len HX.out rfl) ?_;simp only [Act.put,puA,puB,puC]) | (go_at_call 48;with_reducible refine Calls.mono (HROW.out _ (H.known HK pk)) ?_;rintro e wc ⟨rfl,hb⟩;replace H:=H.grew hb.below;clear hb))
       go_ret
       exact ⟨false,rfl,by simp,H.nix⟩
      ·have d0:decide (x < 0) = false:=by simpa using x0
       by_cases xn:1048576 < x
       ·have d1:decide (1048576 < x) = true:=by simpa using xn
        go_wp2_with (first | refine sL ?_ | (refine sS ?_;clear H;intros;rename_i H) | ((with_reducible refine isLoad ?_);refine AtLoad.cel rfl rfl rfl rfl (HNX.out.cell (H.known HK pk) encV_len HRV.out rfl) ?_;simp only [Act.put,puA,puB,puC]) | ((with_reducible refine isLoad ?_);refine AtLoad.cel rfl rfl rfl rfl (HWT.out.cell (H.known HK pk) encZ_len HX.out rfl) ?_;simp only [Act.put,puA,puB,puC]) | (go_at_call 48;with_reducible refine Calls.mono (HROW.out _ (H.known HK pk)) ?_;rintro e wc ⟨rfl,hb⟩;replace H:=H.grew hb.below;clear hb))
        go_ret
        exact ⟨false,rfl,by simp,H.nix⟩
       ·have d1:decide (1048576 < x) = false:=by simpa using xn
        go_wp2_with (first | refine sL ?_ | (refine sS ?_;clear H;intros;rename_i H) | ((with_reducible refine isLoad ?_);refine AtLoad.cel rfl rfl rfl rfl (HNX.out.cell (H.known HK pk) encV_len HRV.out rfl) ?_;simp only [Act.put,puA,puB,puC]) | ((with_reducible refine isLoad ?_);refine AtLoad.cel rfl rfl rfl rfl (HWT.out.cell (H.known HK pk) encZ_len HX.out rfl) ?_;simp only [Act.put,puA,puB,puC]) | (go_at_call 48;with_reducible refine Calls.mono (HROW.out _ (H.known HK pk)) ?_;rintro e wc ⟨rfl,hb⟩;replace H:=H.grew hb.below;clear hb))
        have HREL:=(show ∀ wx,St w [] [blk b2 (.cells #[.int .i64 st,.slice (some ⟨g1,o1,none⟩) 256 c1,.slice (some ⟨g2,o2,none⟩) n c2,.slice a3 la c3] 26)] wx→SoRel R c n b2 #[.int .i64 st,.slice (some ⟨g1,o1,none⟩) 256 c1,.slice (some ⟨g2,o2,none⟩) n c2,.slice a3 la c3] w (.int .i64 ((k:Int) + 1)) wx from fun wx H=>by
         refine ⟨k + 1,by go_num,by omega,fun j y u hj hy hu=>?_,H⟩
         rcases Nat.lt_or_ge j k with h | h
         ·exact HA.out j y u h hy hu
         ·obtain rfl:j = k:=by omega
          rw [HR9.out] at hy
          rw [HX.out] at hu
          injection hy with hy
          injection hu with hu
          subst hy hu
          exact ⟨HX9.out,by omega,by omega⟩) _ H
        refine ⟨?_,by simp [intOf];omega⟩
        (repeat apply Exists.intro)
        refine ⟨HREL,?_⟩
        rfl
     ·have HROW:Hid (∀ w,(poolA P).ho w→Calls Tryz.prog 48 #[.slice a9 r.length c9,.int .i64 c,.int .i64 n] w (fun e w'=>e = .returned (.bool false)∧St w [] [] w')):=Lib.hid fun w h=>by
       refine Calls.mono (row_c hrow hc256 hn8 w h) ?_
       rintro e w' ⟨b,rfl,hb,hs⟩
       cases b with
       |false=>exact ⟨rfl,hs⟩
       |true=>exact absurd (hb.1 rfl) hX
      clear hr hrv hx hrow hm9 hX
      go_wp2_with (first | refine sL ?_ | (refine sS ?_;clear H;intros;rename_i H) | ((with_reducible refine isLoad ?_);refine AtLoad.cel rfl rfl rfl rfl (HNX.out.cell (H.known HK pk) encV_len HRV.out rfl) ?_;simp only [Act.put,puA,puB,puC]) | ((with_reducible refine isLoad ?_);refine AtLoad.cel rfl rfl rfl rfl (HWT.out.cell (H.known HK pk) encZ_len HX.out rfl) ?_;simp only [Act.put,puA,puB,puC]) | (go_at_call 48;with_reducible refine Calls.mono (HROW.out _ (H.known HK pk)) ?_;rintro e wc ⟨rfl,hb⟩;replace H:=H.grew hb.below;clear hb))
      go_ret
      exact ⟨false,rfl,by simp,H.nix⟩
    ·have hke:k = n:=by omega
     subst hke
     go_wp2_with (first | refine sL ?_ | (refine sS ?_;clear H;intros;rename_i H))
     go_ret
     refine ⟨true,rfl,fun _=>⟨c,?_⟩,H.nix⟩
     obtain ⟨f1,f2,f3,f4,f5,f6⟩:=HFACT.out
     refine ⟨by omega,by omega,by rw [f2,f1],by rw [f3,f1],by rw [← HST.out];exact f4,by rw [← HST.out,← f1];exact f5,f6,hc0,hc256,HCI.out,fun r hr=>?_,fun x hx=>?_⟩
     ·obtain ⟨j,hj⟩:=List.getElem?_of_mem hr
      have hjl:=getElem_len hj
      obtain ⟨x,hx⟩:∃ x,R.wts[j]? = some x:=⟨_,List.getElem?_eq_getElem (by omega)⟩
      have:=(HA.out j r x (by omega) hj hx).1
      rw [f1] at this
      exact this
     ·obtain ⟨j,hj⟩:=List.getElem?_of_mem hx
      have hjl:=getElem_len hj
      obtain ⟨r,hr⟩:∃ r,R.next[j]? = some r:=⟨_,List.getElem?_eq_getElem (by omega)⟩
      exact (HA.out j r x (by omega) hr hj).2
end
section
open Go.RowKit Go.Maps
attribute [local go_sem] InGr
theorem good_c {P:PoolT} {cv nv av hv lv:Value} {rvs:List Value} {R:Raw} {ms:List Mk} {N:Int} (h:RawAt P cv nv av hv rvs R) (hms:RowIn P mkL 5 lv ms) (hs1:-9223372036854775808≤R.start) (hs2:R.start≤9223372036854775807) (w:World) (hp:(poolA P).ho w) :
  Calls Tryz.prog 5 #[.agg #[.int .i64 R.start,cv,nv,av,hv,lv,.int .i64 N]] w fun e w'=>∃ b,e = .returned (.bool b)∧(b = true→ms.length≤100∧∃ c,R.Snd c)∧St w [] [] w':=by
 have H:=St.nil w []
 have HK:=Ks.one hp
 obtain ⟨a1,c1,rfl,hm1⟩:=h.cls.shape
 obtain ⟨a2,c2,rfl,hm2⟩:=h.next.shape
 obtain ⟨a3,c3,rfl,hm3⟩:=h.acc.shape
 obtain ⟨a4,c4,rfl,hm4⟩:=h.wts.shape
 obtain ⟨a5,c5,rfl,hm5⟩:=hms.shape
 unfold maxLen at hm5
 have HS:Hid (∀ w,(poolA P).ho w→Calls Tryz.prog 18 #[.agg #[.int .i64 R.start,.slice a1 R.cls.length c1,.slice a2 rvs.length c2,.slice a3 R.acc.length c3],.slice a4 R.wts.length c4] w fun e w'=>∃ b,e = .returned (.bool b)∧(b = true→∃ c,R.Snd c)∧St w [] [] w'):=Lib.hid fun w hp=>sound_c h hs1 hs2 w hp
 clear h hms hm1 hm2 hm3 hm4 hp
 by_cases hl:ms.length≤100
 ·have d0:decide ((ms.length:Int)≤100) = true:=by simp;omega
  have HL:=Lib.hid hl
  clear hl
  go_enter Tryz.func5,Tryz.ntmps5
  go_wp2_with (first | refine sL ?_ | (refine sS ?_;clear H;intros;rename_i H) | (go_at_call 18;with_reducible refine Calls.mono (HS.out _ (H.known HK pk)) ?_;rintro e wc ⟨b,rfl,hb1,hb⟩;replace H:=H.grew hb.below;clear hb;have HB:=Lib.hid hb1;clear hb1))
  go_ret
  exact ⟨b,rfl,fun hb=>⟨HL.out,HB.out hb⟩,H.nix⟩
 ·have d0:decide ((ms.length:Int)≤100) = false:=by simp;omega
  clear hl
  go_enter Tryz.func5,Tryz.ntmps5
  go_wp2_with (first | refine sL ?_ | (refine sS ?_;clear H;intros;rename_i H))
  go_ret
  exact ⟨false,rfl,by simp,H.nix⟩
def mc0:Mc:=⟨0,List.replicate 256 0,[[0]],[true],[3]⟩
theorem mc0_ok:mc0.Ok 1:=by
 refine ⟨by decide,by decide,by decide,by simp [mc0],by decide,by decide,fun i x hx=>?_,fun i r hr=>?_,fun i j x r hr hx=>?_,by decide,by decide,fun i x hx=>?_⟩
 ·have:=List.eq_of_mem_replicate (List.mem_of_getElem? hx);omega
 ·have:=List.mem_of_getElem? hr
  simp [mc0] at this
  subst this;rfl
 ·have:=List.mem_of_getElem? hr
  simp [mc0] at this
  subst this
  have:=List.mem_of_getElem? hx
  simp at this
  subst this
  decide
 ·have:=List.mem_of_getElem? hx
  simp [mc0] at this
  omega
theorem St.blk_into {e:TypeId} {g:Nat} {cs:Array Value} {Q:PoolT} {w0 w:World} {M:List Nat} {R:List As} (h:St w0 M (blk g (.cells cs e) :: poolA Q :: R) w):St w0 M (poolA ((g,0,cs.toList) :: Q) :: R) w:=h.blk_pool.pool_add
theorem RowIn.one {α:Type} {P:PoolT} {enc:α→List Value} {g:Nat} {x:α} {u:List Value} (he:enc x = u) (h:(g,0,u)∈P) (k:Nat):RowIn P enc k (.slice (some ⟨g,0,none⟩) 1 1) [x] :=
 ⟨_,1,rfl,by simp [maxLen],fun _=>⟨g,0,rfl,by simpa [flatG,he] using h⟩⟩
theorem alive_c (w:World):Calls Tryz.prog 21 #[] w fun e w'=>e = .returned (.bool true)∧St w [] [] w':=by
 have H:=St.nil w []
 have HK:=Ks.nil w []
 have hS0:(⟨10,[]⟩:Sto).Ok:=(Scr.start (most:=10) (by omega)).ok
 have hS1:(⟨10,[letterE 97]⟩:Sto).Ok:=Sto.letter_ok hS0 (b:=97) (by omega)
 have HN:=Lib.hid (fun w=>new_c 10 (by omega) 10 rfl w)
 have HLT:Hid (∀ p m w,(stoA p (.slice none 0 0) m ⟨10,[]⟩).ho w→Calls Tryz.prog 50 #[.pointer (some ⟨p,0,none⟩),.int .u8 97] w fun e w'=>∃ lv',e = .returned (.tuple #[.int .i64 1,.nilIface])∧St w (stoA p (.slice none 0 0) m ⟨10,[]⟩).fp [stoA p lv' m ⟨10,[letterE 97]⟩] w'):=Lib.hid fun p m w h=>letter_c hS0 97 (by omega) w h
 have HS1:=Lib.hid hS1
 clear hS0 hS1
 go_enter Tryz.func21,Tryz.ntmps21
 go_wp2_with (first | refine sL ?_ | (go_at_call 19;with_reducible refine Calls.mono (HN.out _) ?_;rintro e wc ⟨p,m,rfl,hb⟩;replace H:=H.call0 hb;clear hb;simp only [List.cons_append,List.nil_append] at H) | (go_at_call 50;with_reducible refine Calls.mono (HLT.out p m _ (H.get (A:=stoA p (.slice none 0 0) m ⟨10,[]⟩) pk)) ?_;rintro e wc ⟨lv1,rfl,hb⟩;replace H:=H.pick (A:=stoA p (.slice none 0 0) m ⟨10,[]⟩) pk;replace H:=H.call hb;clear hb;simp only [List.cons_append,List.nil_append] at H) | ((with_reducible refine isMakeSlice ?_);refine AtMakeSlice.go encI H rfl rfl 256 rfl rfl rfl rfl 0 rfl rfl encI_len (by omega) (by omega) ?_;clear H;intro bc _ H;simp only [Act.put,puA,puB,puC]) | ((with_reducible refine isSlice ?_);refine AtSlice.one H rfl rfl rfl rfl rfl rfl rfl rfl rfl ?_;clear H;intro b _ H;simp only [Act.put,puA,puB,puC]))
 rename_i br _ bn _ ba _ _ _ _
 obtain ⟨Q,hq,H⟩:=(H.pick (A:=rowsA encI 3 1 (.slice (some ⟨bc,0,none⟩) 256 256) (List.replicate 256 0)) pk).to_pool encI_len
 replace H:=(H.pick2 (A:=blk br (.cells #[.int .i64 0] 3)) (B:=poolA Q) pk pk).blk_into
 replace H:=(H.pick2 (A:=blk bn (.cells #[.slice (some ⟨br,0,none⟩) 1 1] 22)) (B:=poolA ((br,0,[.int .i64 0]) :: Q)) pk pk).blk_into
 replace H:=(H.pick2 (A:=blk ba (.cells #[.bool true] 4)) (B:=poolA ((bn,0,[.slice (some ⟨br,0,none⟩) 1 1]) :: (br,0,[.int .i64 0]) :: Q)) pk pk).blk_into
 replace H:=(H.pick2 (A:=blk b (.cells #[.int .i64 3] 3)) (B:=poolA ((ba,0,[.bool true]) :: (bn,0,[.slice (some ⟨br,0,none⟩) 1 1]) :: (br,0,[.int .i64 0]) :: Q)) pk pk).blk_into
 obtain ⟨P,hP⟩:∃ P:PoolT,P = (b,0,[.int .i64 3]) :: (ba,0,[.bool true]) :: (bn,0,[.slice (some ⟨br,0,none⟩) 1 1]) :: (br,0,[.int .i64 0]) :: Q:=⟨_,rfl⟩
 simp only [] at H
 rw [show ((b,0,(#[.int .i64 3]:Array Value).toList) :: (ba,0,[.bool true]) :: (bn,0,[.slice (some ⟨br,0,none⟩) 1 1]) :: (br,0,[.int .i64 0]) :: Q:PoolT) = P from hP.symm] at H
 have hmac:MacAt P (.slice (some ⟨bc,0,none⟩) 256 256) (.slice (some ⟨bn,0,none⟩) 1 1) (.slice (some ⟨ba,0,none⟩) 1 1) [.slice (some ⟨br,0,none⟩) 1 1] mc0:=by
  refine ⟨?_,RowIn.one (u:=[.slice (some ⟨br,0,none⟩) 1 1]) rfl (by rw [hP];simp) 1,rfl,fun i rv r h1 h2=>?_,RowIn.one (u:=[.bool true]) rfl (by rw [hP];simp) 1⟩
  ·exact hq.mono fun x hx=>by rw [hP];simp [hx]
  ·have e1:=List.mem_of_getElem? h1
   have e2:=List.mem_of_getElem? h2
   simp [mc0] at e1 e2
   subst e1 e2
   exact RowIn.one (u:=[.int .i64 0]) rfl (by rw [hP];simp) 1
 have hhit:RowIn P encI 1 (.slice (some ⟨b,0,none⟩) 1 1) mc0.wts:=RowIn.one (u:=[.int .i64 3]) rfl (by rw [hP];simp) 1
 have HNEW:Hid (∀ w,(poolA P).ho w→Calls Tryz.prog 11 #[.pointer (some ⟨p,0,none⟩),.agg #[.int .i64 0,.slice (some ⟨bc,0,none⟩) 256 256,.slice (some ⟨bn,0,none⟩) 1 1,.slice (some ⟨ba,0,none⟩) 1 1],.slice (some ⟨b,0,none⟩) 1 1,.bool false] w (NewPost mc0 p false w)):=Lib.hid fun w hp=>tnew_c p false mc0_ok hmac hhit w hp
 clear hmac hhit hq hP
 with_reducible refine Calls.mono (HNEW.out _ (H.get (A:=poolA P) pk)) ?_
 rintro e wc ⟨T,hmc,hs,hbk,hes,hok,rfl,hb⟩
 replace H:=H.call0 hb
 clear hb
 simp only [List.cons_append,List.nil_append] at H
 replace H:=(H.pick2 (A:=tabA T) (B:=stoA p lv1 m ⟨10,[letterE 97]⟩) pk pk).onlyTwo
 have HCNT:Hid (∀ w,((tabA T).sep (stoA p lv1 m ⟨10,[letterE 97]⟩)).ho w→Calls Tryz.prog 14 #[.pointer (some ⟨T.p,0,none⟩),.int .i64 1,.int .i64 0,.int .i64 1] w fun e w'=>∃ T',e = .returned (.tuple #[.int .i64 3,.nilIface])∧St w (tabA T).fp [tabA T'] w'):=Lib.hid fun w h=>by
  have hr:(⟨10,[letterE 97]⟩:Sto).rsum T.mc 1 0 1 = 3:=by rw [hmc];decide
  have ht:((⟨10,[letterE 97]⟩:Sto).txt 1).length = 1:=by decide
  have hc:=count_c (lv:=lv1) (m:=m) (S:=⟨10,[letterE 97]⟩) (T:=T) (id:=1) (s:=0) (n:=1) HS1.out (hok _) hbk (by decide) (by rw [ht];omega) w (by rw [hs];exact h)
  rw [hr] at hc
  refine Calls.mono hc ?_
  rintro e w' ⟨T',he,_,_,hst⟩
  exact ⟨T',by rw [he];rfl,hst⟩
 clear HNEW hmc hs hbk hes hok
 go_wp2_with (first | refine sL ?_ | (go_at_call 14;with_reducible refine Calls.mono (HCNT.out _ (sep_mk (H.get (A:=tabA T) pk) (H.get (A:=stoA p lv1 m ⟨10,[letterE 97]⟩) pk) (H.apart2 (A:=tabA T) (B:=stoA p lv1 m ⟨10,[letterE 97]⟩) pk pk))) ?_;rintro e wc ⟨T2,rfl,hb⟩;replace H:=H.pick (A:=tabA T) pk;replace H:=H.call hb;clear hb;simp only [List.cons_append,List.nil_append] at H))
 go_ret
 exact ⟨rfl,H.nix⟩
end
section
open Go.RowKit Go.Maps
attribute [local go_sem] InGr
theorem St.apartK {w0 w:World} {M:List Nat} {L R K R':List As} {A B:As} (h:St w0 M L w) (k:Ks w0 M K) (hp:Pick L A R) (hq:Pick K B R'):∀ b∈A.fp,b ∉ B.fp:=by
 have:=h.sepK k hp hq
 rw [sep_ho] at this
 exact this.2.2
theorem results_tmp4 {fn:Func} {t u v x:Tmp} (h:fn.results = #[.tmp t,.tmp u,.tmp v,.tmp x]) (tmps:Array Value) (P:Program) (w:World) :
  (results fn tmps).run P w = .ok (.tuple #[tmps.getD t undef,tmps.getD u undef,tmps.getD v undef,tmps.getD x undef]) w:=by
 simp [results,h]
def stoOf (ms:List Mk):Sto:=(scr 1000 ms ms.length).1
def idsOf (ms:List Mk):List Nat:=(scr 1000 ms ms.length).2
def idOf (ms:List Mk) (N:Int):Nat:=(idsOf ms).getD (pickN N (idsOf ms).length) 0
theorem idOf_le {ms:List Mk} (hf:∀ m∈ms,m.Fits) (N:Int):(stoOf ms).Ok∧idOf ms N≤(stoOf ms).list.length∧(idsOf ms)[pickN N (idsOf ms).length]? = some (idOf ms N)∧(idsOf ms).length = ms.length + 1:=by
 have hs:=scr_ok (most:=1000) (by omega) hf ms.length (Nat.le_refl _)
 have hc:(idsOf ms).length = ms.length + 1:=hs.cnt
 have hp:pickN N (idsOf ms).length < (idsOf ms).length:=pickN_lt (by omega)
 have he:(idsOf ms)[pickN N (idsOf ms).length]? = some (idOf ms N):=by
  unfold idOf
  rw [List.getD_eq_getElem?_getD,List.getElem?_eq_getElem hp]
  rfl
 exact ⟨hs.ok,hs.mem _ (List.mem_of_getElem? he),he,hc⟩
def BegunPost (R:Raw) (ms:List Mk) (N:Int) (w:World) (e:Ending) (w':World):Prop :=
 ∃ T m lv,e = .returned (.tuple #[.pointer (some ⟨T.p,0,none⟩),.int .i64 (idOf ms N:Nat),.int .i64 (((stoOf ms).txt (idOf ms N)).length:Nat),.bool true])∧T.mc = R.mc∧T.back = false∧TabOk (stoOf ms) T∧St w [] [tabA T,stoA T.s lv m (stoOf ms)] w'
theorem begun_c {P:PoolT} {cv nv av hv lv:Value} {rvs:List Value} {R:Raw} {c:Nat} {ms:List Mk} {N:Int} (h:RawAt P cv nv av hv rvs R) (hR:R.Snd c) (hms:RowIn P mkL 5 lv ms) (hf:∀ m∈ms,m.Fits) (hl:ms.length≤100) (hN:fits64 N) (w:World) (hp:(poolA P).ho w) :
  Calls Tryz.prog 6 #[.agg #[.int .i64 R.start,cv,nv,av,hv,lv,.int .i64 N]] w (BegunPost R ms N w):=by
 have H:=St.nil w []
 have HK:=Ks.one hp
 obtain ⟨hok,hid,hget,hcnt⟩:=idOf_le hf N
 obtain ⟨x,hx⟩:=enAt_some hid
 have htl:=Sto.txt_len hok hx
 obtain ⟨hmac,hhit⟩:=h.mac hR
 have hst:((R.mc.start:Nat):Int) = R.start:=by simp [Raw.mc,Int.toNat_of_nonneg hR.s0]
 have HN:=Lib.hid (fun w=>new_c 1000 (by omega) 1000 rfl w)
 have HAL:=Lib.hid (fun w=>alive_c w)
 obtain ⟨a1,c1,rfl,hm1⟩:=h.cls.shape
 obtain ⟨a2,c2,rfl,hm2⟩:=h.next.shape
 obtain ⟨a3,c3,rfl,hm3⟩:=h.acc.shape
 obtain ⟨a4,c4,rfl,hm4⟩:=h.wts.shape
 obtain ⟨a5,c5,rfl,hm5⟩:=hms.shape
 have HBU:Hid (∀ p m w,(stoA p (.slice none 0 0) m ⟨1000,[]⟩).ho w→(poolA P).ho w→(∀ b∈(stoA p (.slice none 0 0) m ⟨1000,[]⟩).fp,b ∉ (poolA P).fp)→Calls Tryz.prog 20 #[.pointer (some ⟨p,0,none⟩),.slice a5 ms.length c5] w fun e w'=>∃ g cr lv,e = .returned (.tuple #[.slice (some ⟨g,0,none⟩) (idsOf ms).length cr,.bool true])∧St w (stoA p (.slice none 0 0) m ⟨1000,[]⟩).fp [stoA p lv m (stoOf ms),rowsA encI 32 1 (.slice (some ⟨g,0,none⟩) (idsOf ms).length cr) (idsOf ms)] w'):=Lib.hid fun p m w a b hd=>by
  refine Calls.mono (lbuild_c 1000 (by omega) (by omega) hf w a b (fun x hx hm=>hd x hm hx) hms) ?_
  rintro e w' ⟨rv,lv,rfl,hs⟩
  obtain ⟨g,cr,rfl,_,_⟩:=rowsA_cases (hs.get (A:=rowsA encI 32 1 rv (idsOf ms)) (.there .here)) (by omega)
  exact ⟨g,cr,lv,rfl,hs⟩
 have HNEW:Hid (∀ p w,(poolA P).ho w→Calls Tryz.prog 11 #[.pointer (some ⟨p,0,none⟩),.agg #[.int .i64 R.start,.slice a1 R.cls.length c1,.slice a2 rvs.length c2,.slice a3 R.acc.length c3],.slice a4 R.wts.length c4,.bool false] w fun e w'=>∃ T,T.mc = R.mc∧T.s = p∧T.back = false∧(∀ S,TabOk S T)∧e = .returned (.tuple #[.pointer (some ⟨T.p,0,none⟩),.nilIface])∧St w [] [tabA T] w'):=Lib.hid fun p w hp=>by
  rw [← hst]
  refine Calls.mono (tnew_c p false hR.ok hmac hhit w hp) ?_
  rintro e w' ⟨T,q1,q2,q3,q4,q5,q6,q7⟩
  exact ⟨T,q1,q2,q3,q5,q6,q7⟩
 have HPK:Hid (∀ w,Calls Tryz.prog 22 #[.int .i64 N,.int .i64 (idsOf ms).length] w fun e w'=>e = .returned (.int .i64 (pickN N (idsOf ms).length))∧w' = w):=Lib.hid fun w=>pickf_c _ _ _ rfl hN (by omega) (by omega) w
 have HW:Hid (∀ p m lv w,(stoA p lv m (stoOf ms)).ho w→Calls Tryz.prog 23 #[.pointer (some ⟨p,0,none⟩),.int .i64 (idOf ms N:Nat)] w fun e w'=>e = .returned (.tuple #[.agg #[.int .i64 x.w.len,.int .i64 x.w.lines,.int .i64 x.w.head,.int .i64 x.w.tail,.int .u64 x.w.val,.int .u64 x.w.scale],.nilIface])∧St w [] [] w'):=Lib.hid fun p m lv w h=>weight_c hx w h
 have HGET:=Lib.hid hget
 have HTL:=Lib.hid htl
 have hpl:=getElem_len hget
 have hil:(idsOf ms).length≤101:=by omega
 clear h hR hms hf hN hp hok hx htl hmac hhit hst hget hm1 hm2 hm3 hm4 hm5 hcnt hl
 unfold BegunPost
 generalize hpk:pickN N (idsOf ms).length = pkN at *
 generalize hii:idOf ms N = id at *
 generalize hids:idsOf ms = ids at *
 generalize hSS:stoOf ms = S at *
 clear hpk hii hids hSS
 go_enter Tryz.func6,Tryz.ntmps6
 go_wp2_with (first | refine sL ?_ | (refine sS ?_;clear H;intros;rename_i H) | (go_at_call 19;with_reducible refine Calls.mono (HN.out _) ?_;rintro e wc ⟨p,m,rfl,hb⟩;replace H:=H.call0 hb;clear hb;simp only [List.cons_append,List.nil_append] at H) | (go_at_call 20;with_reducible refine Calls.mono (HBU.out p m _ (H.get (A:=stoA p (.slice none 0 0) m ⟨1000,[]⟩) pk) (H.known HK pk) (H.apartK HK (A:=stoA p (.slice none 0 0) m ⟨1000,[]⟩) (B:=poolA P) pk pk)) ?_;rintro e wc ⟨g,cr,lv1,rfl,hb⟩;replace H:=H.pick (A:=stoA p (.slice none 0 0) m ⟨1000,[]⟩) pk;replace H:=H.call hb;clear hb;simp only [List.cons_append,List.nil_append] at H) | (go_at_call 21;with_reducible refine Calls.mono (HAL.out _) ?_;rintro e wc ⟨rfl,hb⟩;replace H:=H.grew hb.below;clear hb) | (go_at_call 11;with_reducible refine Calls.mono (HNEW.out p _ (H.known HK pk)) ?_;rintro e wc ⟨T,hmc,hs,hbk,hokT,rfl,hb⟩;replace H:=H.call0 hb;clear hb;simp only [List.cons_append,List.nil_append] at H;have HT:=Lib.hid (And.intro hmc (And.intro hs (And.intro hbk hokT)));clear hmc hs hbk hokT) | (go_at_call 22;with_reducible refine same (HPK.out _) ?_) | ((with_reducible refine isLoad ?_);refine AtLoad.cel rfl rfl rfl rfl (rowsA_cell1 (H.get (A:=rowsA encI 32 1 (.slice (some ⟨g,0,none⟩) ids.length cr) ids) pk) encI_len HGET.out rfl) ?_;simp only [Act.put,puA,puB,puC]) | (go_at_call 23;with_reducible refine Calls.mono (HW.out p m lv1 _ (H.get (A:=stoA p lv1 m S) pk)) ?_;rintro e wc ⟨rfl,hb⟩;replace H:=H.grew hb.below;clear hb))
 refine wp_region_h H 18 [] [] (by kernel_rfl) (by kernel_rfl) ?_
 apply Exists.intro
 refine ⟨fun w1 hw1 HX=>?_,fun bs wr Hr=>?_⟩
 ·refine sG ?_
  repeat (first | refine sQ ?_ | fail | go_big_quiet_step (fail))
  exact wpQuiet_nil rfl
 clear H
 have H:=Hr
 clear Hr
 replace H:=sH H;refine sT ?_
 go_wp2_with (first | refine sL ?_ | (refine sS ?_;clear H;intros;rename_i H))
 refine bodyPost_ret (results_tmp4 rfl _ _ _) rfl ?_
 obtain ⟨q1,q2,q3,q4⟩:=HT.out
 refine ⟨T,m,lv1,by rw [HTL.out];rfl,q1,q3,q4 _,?_⟩
 rw [q2]
 exact (H.pick2 (A:=tabA T) (B:=stoA p lv1 m S) pk pk).onlyTwo
end
section
open Go.RowKit Go.Maps
attribute [local go_sem] InGr
end
section
open Go.RowKit Go.Maps
attribute [local go_sem] InGr
section
variable {ops:Array Oper} {Q:Exit→Act→World→Prop} {rest:List Oper} {a:Act} {w w0:World} {o1:Oper} {dst:Option Tmp} {ty0:TypeId} {pos:String} {aft:Array Edge} {gd:Option (Nat × Bool)}
theorem run_cut {t e:TypeId} (hte:sliceO t = some e) {z:Value} {k bytes:Nat} (hi:infoO e = some (z,k,bytes)) {ad:Option Addr} {n c m:Nat} (had:ad = none∨∃ g,ad = some ⟨g,0,none⟩) (hm:m≤c) (w:World) :
  (Instr.sliceAt t (.slice ad n c) none (some (.int .i64 (m:Nat))) none).run Tryz.prog w = .ok (.slice ad m c) w:=by
 obtain ⟨i,h2,h3,h4,h5⟩:=infoO_ok hi
 have hu:=sliceO_ok hte
 have hb:(Instr.sliceBound (Value.int .i64 (m:Nat)) c .sliceAcap).run Tryz.prog w = .ok m w:=by
  unfold Instr.sliceBound
  simp [asIntOf,hm]
 rcases had with rfl | ⟨g,rfl⟩
 ·simp [Instr.sliceAt,Instr.slice,Instr.sliceBounds,run_underlying hu,sizeOf,typeInfo,h2,Sem.run_bind,Result.andThen,hb]
 ·simp [Instr.sliceAt,Instr.slice,Instr.sliceBounds,run_underlying hu,sizeOf,typeInfo,h2,Sem.run_bind,Result.andThen,hb,Addr.add]
theorem AtCut.any {t e:TypeId} {x y:Operand} (hw:Region.wanted o1 (yielded ops a.tmps) = true) (ho:o1.op = .slice t x none (some y) none) (hte:sliceO t = some e) {z:Value} {k bytes:Nat} (hi:infoO e = some (z,k,bytes)) {ad:Option Addr} {n c m:Nat} (hx:a.eval x = .slice ad n c) (hy:a.eval y = .int .i64 (m:Nat)) (had:ad = none∨∃ g,ad = some ⟨g,0,none⟩) (hm:m≤c)
  (h:wpList Tryz.prog ops Q rest (a.put o1.dst (.slice ad m c)) w):AtCut Tryz.prog ops Q o1 t x y rest a w :=
 wpList_step fun _ hK=>by
  rw [if_pos hw]
  unfold Oper.wp execOp
  simp only [ho,hx,hy,Option.map_none,Option.map_some,Sem.run_bind,run_cut hte hi had hm,Result.andThen_ok,Sem.run_pure]
  exact hK _ _ h
end
end
section
open Go.RowKit Go.Maps
attribute [local go_sem] InGr
section
variable {ops:Array Oper} {a:Act} {w:World} {o:Oper} {ty:TypeId} {x:Operand} {Rr:Value→World→Prop}
theorem StStep.cel (hw:Region.wanted o (yielded ops a.tmps) = true) (ho:o.op = .load ty x) {g off:Nat} (hx:a.eval x = .pointer (some ⟨g,off,none⟩)) {v:Value} (hc:w.cell? ⟨g,off,none⟩ = some v)
  (hr:isCellT ty = true) (h:Rr v w):StStep Tryz.prog ops o a w Rr :=
 StStep.val hw (by
  have hr:=isCellT_ok hr
  unfold cellTy at hr
  simp only [Bool.and_eq_true,beq_iff_eq] at hr
  have hl:(Instr.loadAt ty (.pointer (some ⟨g,off,none⟩))).run Tryz.prog w = .ok v w:=by
   cases hu:Tryz.prog.underlying ty with
   |none=>simp [hu] at hr
   |some d =>
    have hagg:(isAgg ty).run Tryz.prog w = .ok false w:=by
     unfold isAgg
     rw [Sem.run_bind,run_underlying hu w]
     simp only [hu] at hr
     cases d <;> simp_all
    simp [Instr.loadAt,Instr.sureAddr,loadVar,Sem.run_bind,hagg,run_load,hc]
  unfold execOp;simp only [ho,hx,Sem.run_bind,hl,Result.andThen_ok];rfl) h
end
inductive Held (P:Prop):Prop | mk (h:P):Held P
theorem Held.out {P:Prop}:Held P→P | .mk h=>h
end
section

end
section
open Go.RowKit Go.Maps
attribute [local go_sem] InGr
end
section
open Go.RowKit Go.Maps
attribute [local go_sem] InGr Oper.semAt_some
theorem results_bool_at {fn:Func} {p:Tmp} (h:fn.results = #[.cell p 4]) (tmps:Array Value) (w:World) (g:Nat) (b:Bool) (hp:tmps.getD p undef = .pointer (some ⟨g,0,none⟩)) (hg:w.heap[g]? = some (.cells #[.bool b] 4)) :
  (results fn tmps).run Tryz.prog w = .ok (.bool b) w:=by
 have hp':tmps[p]?.getD undef = .pointer (some ⟨g,0,none⟩):=by simpa using hp
 have hc:w.cell? ⟨g,0,none⟩ = some (.bool b):=cell_of_row _ g 0 #[.bool b] 4 (0,0) hg
 simp [results,h,hp',asAddr,go_sem,hc,Tryz.underlying4]
theorem bool_end0 {fn:Func} {p:Tmp} {tmps:Array Value} {w0 w:World} {M:List Nat} {L R:List As} {g:Nat} {b:Bool} {post:Ending→World→Prop} (hr:fn.results = #[.cell p 4]) (H:St w0 M L w) (p1:Pick L (blk g (.cells #[.bool b] 4)) R) (hp:tmps.getD p undef = .pointer (some ⟨g,0,none⟩)) (h:St w0 M [] w→post (.returned (.bool b)) w):bodyPostM Fence.wide 3 Tryz.prog fn post .ret { tmps,defers:=[] } w :=
 ⟨_,results_bool_at hr tmps w g b hp (H.at p1),h H.nix⟩
inductive Picks:List As→List As→Prop
 |nil {L:List As}:Picks L []
 |cons {L R L':List As} {A:As}:Pick L A R→Picks R L'→Picks L (A :: L')
theorem Picks.perm {L L':List As} (h:Picks L L'):∃ R,L.Perm (L' ++ R):=by
  induction h with
  | nil=>exact ⟨_,List.Perm.refl _⟩
  | cons h1 _ ih =>
    obtain ⟨R, hR⟩ := ih
    exact ⟨R, h1.perm.trans (hR.cons _)⟩
theorem St.picks {w0 w:World} {M:List Nat} {L L':List As} (h:St w0 M L w) (hp:Picks L L'):St w0 M L' w:=by
 obtain ⟨R,hR⟩:=hp.perm
 have k:=h.perm hR
 exact ⟨k.os,k.tape,k.output,k.size,k.keep,fun X hX=>k.ho X (List.mem_append_left _ hX),fun X hX=>k.own X (List.mem_append_left _ hX),k.dis.sublist (List.sublist_append_left _ _)⟩
theorem St.add {w0 w:World} {L:List As} {g:Nat} {o:Obj} (h:St w0 [] L w) (hg:w.heap[g]? = some o) (h0:w0.heap.size≤g) (hd:∀ b∈fps L,b≠g):St w0 [] (blk g o :: L) w:=by
 refine ⟨h.os,h.tape,h.output,h.size,h.keep,fun A hA=>?_,fun A hA b hb=>?_,List.pairwise_cons.2 ⟨fun A hA b hb hb'=>?_,h.dis⟩⟩
 ·rcases List.mem_cons.1 hA with rfl | hA
  ·rw [blk_ho];exact hg
  ·exact h.ho A hA
 ·rcases List.mem_cons.1 hA with rfl | hA
  ·have:b = g:=by simpa [blk_fp] using hb
   exact .inl (by omega)
  ·exact h.own A hA b hb
 ·have:b = g:=by simpa [blk_fp] using hb
  exact hd b (List.mem_flatMap.2 ⟨A,hA,hb'⟩) this
theorem Turn.setCell (M:List Nat) {B g:Nat} (W:World) (v:Value) (h:g∈M∨B≤g):Turn M B W (W.setCell ⟨g,0,none⟩ v):=by
 refine ⟨rfl,rfl,rfl,by simp,fun b hb hm=>heap_setCell_other _ _ _ _ ?_⟩
 intro e
 have e:b = g:=e
 rw [e] at hb hm
 rcases h with h | h
 ·exact hm h
 ·omega
end
section
open Go.RowKit Go.Maps
attribute [local go_sem] InGr Oper.semAt_some
theorem lcheck_nil {x:Int} (w:World):Calls Tryz.prog 27 #[.pointer none,.int .i64 x] w fun e w'=>e = .returned (.iface 42 (.int .i64 5))∧w' = w:=by
 have H:=St.nil w []
 have HK:=Ks.nil w []
 go_enter Tryz.func27,Tryz.ntmps27
 go_wp2_with (first | refine sL ?_)
 go_ret
 exact ⟨rfl,rfl⟩
theorem lcheck_back {S:Sto} {T:Tab} {x:Int} (hT:TabOk S T) (hb:T.back = true) (w:World) (h:(tabA T).ho w) :
  Calls Tryz.prog 27 #[.pointer (some ⟨T.p,0,none⟩),.int .i64 x] w fun e w'=>e = .returned (.iface 42 (.int .i64 7))∧w' = w:=by
 have H:=St.nil w []
 have HK:=Ks.nil w []
 have HST:Hid (Calls Tryz.prog 12 #[.pointer (some ⟨T.p,0,none⟩)] w fun e w'=>e = .returned (.pointer (some ⟨T.s,0,none⟩))∧w' = w):=Lib.hid (store_c hT w h)
 have HBK:Hid (Calls Tryz.prog 57 #[.pointer (some ⟨T.p,0,none⟩)] w fun e w'=>e = .returned (.bool true)∧w' = w):=Lib.hid (hb ▸ back_c hT w h)
 clear hT h hb
 go_enter Tryz.func27,Tryz.ntmps27
 go_wp2_with (first | refine sL ?_ | (go_at_call 12;with_reducible refine same (HST.out) ?_) | (go_at_call 57;with_reducible refine same (HBK.out) ?_))
 go_ret
 exact ⟨rfl,rfl⟩
theorem lcheck_range {S:Sto} {T:Tab} {lv:Value} {m:Nat} {x:Int} (hT:TabOk S T) (hb:T.back = false) (hx:¬ (0≤x∧x≤S.list.length)) (w:World) (h:(tabA T).ho w) (hs:(stoA T.s lv m S).ho w) :
  Calls Tryz.prog 27 #[.pointer (some ⟨T.p,0,none⟩),.int .i64 x] w fun e w'=>e = .returned (.iface 42 (.int .i64 1))∧w' = w:=by
 have H:=St.nil w []
 have HK:=Ks.nil w []
 have HST:Hid (Calls Tryz.prog 12 #[.pointer (some ⟨T.p,0,none⟩)] w fun e w'=>e = .returned (.pointer (some ⟨T.s,0,none⟩))∧w' = w):=Lib.hid (store_c hT w h)
 have HBK:Hid (Calls Tryz.prog 57 #[.pointer (some ⟨T.p,0,none⟩)] w fun e w'=>e = .returned (.bool false)∧w' = w):=Lib.hid (hb ▸ back_c hT w h)
 have HLEN:Hid (Calls Tryz.prog 13 #[.pointer (some ⟨T.s,0,none⟩)] w fun e w'=>e = .returned (.int .i64 S.list.length)∧w' = w):=Lib.hid (len_c w hs)
 generalize S.list.length = len at *
 clear hT h hs hb
 by_cases hn:x < 0
 ·have d1:decide (x < 0) = true:=by simp;omega
  clear hx hn
  go_enter Tryz.func27,Tryz.ntmps27
  go_wp2_with (first | refine sL ?_ | (go_at_call 12;with_reducible refine same (HST.out) ?_) | (go_at_call 57;with_reducible refine same (HBK.out) ?_) | (go_at_call 13;with_reducible refine same (HLEN.out) ?_))
  go_ret
  exact ⟨rfl,rfl⟩
 ·have d1:decide (x < 0) = false:=by simp;omega
  have d2:decide ((len:Int) < x) = true:=by simp;omega
  clear hx hn
  go_enter Tryz.func27,Tryz.ntmps27
  go_wp2_with (first | refine sL ?_ | (go_at_call 12;with_reducible refine same (HST.out) ?_) | (go_at_call 57;with_reducible refine same (HBK.out) ?_) | (go_at_call 13;with_reducible refine same (HLEN.out) ?_))
  go_ret
  exact ⟨rfl,rfl⟩
theorem Count_bad {pv:Value} {x a n:Int} {k:Nat} {w:World} (hc:Calls Tryz.prog 27 #[pv,.int .i64 x] w fun e w'=>e = .returned (.iface 42 (.int .i64 k))∧w' = w) :
  Calls Tryz.prog 14 #[pv,.int .i64 x,.int .i64 a,.int .i64 n] w fun e w'=>e = .returned (.tuple #[.int .i64 0,.iface 42 (.int .i64 k)])∧w' = w:=by
 have H:=St.nil w []
 have HK:=Ks.nil w []
 have HC:=Lib.hid hc
 clear hc
 go_enter Tryz.func14,Tryz.ntmps14
 go_wp2_with (first | refine sL ?_ | (go_at_call 27;with_reducible refine same (HC.out) ?_))
 go_ret2
 exact ⟨rfl,rfl⟩
theorem Nth_bad {pv:Value} {x a:Int} {k:Nat} {w:World} (hc:Calls Tryz.prog 27 #[pv,.int .i64 x] w fun e w'=>e = .returned (.iface 42 (.int .i64 k))∧w' = w) :
  Calls Tryz.prog 8 #[pv,.int .i64 x,.int .i64 a] w fun e w'=>e = .returned (.tuple #[.int .i64 0,.iface 42 (.int .i64 k)])∧w' = w:=by
 have H:=St.nil w []
 have HK:=Ks.nil w []
 have HC:=Lib.hid hc
 clear hc
 go_enter Tryz.func8,Tryz.ntmps8
 go_wp2_with (first | refine sL ?_ | (go_at_call 27;with_reducible refine same (HC.out) ?_))
 go_ret2
 exact ⟨rfl,rfl⟩
theorem Next_bad {pv:Value} {x a:Int} {k:Nat} {w:World} (hc:Calls Tryz.prog 27 #[pv,.int .i64 x] w fun e w'=>e = .returned (.iface 42 (.int .i64 k))∧w' = w) :
  Calls Tryz.prog 15 #[pv,.int .i64 x,.int .i64 a] w fun e w'=>e = .returned (.tuple #[.int .i64 0,.iface 42 (.int .i64 k)])∧w' = w:=by
 have H:=St.nil w []
 have HK:=Ks.nil w []
 have HC:=Lib.hid hc
 clear hc
 go_enter Tryz.func15,Tryz.ntmps15
 go_wp2_with (first | refine sL ?_ | (go_at_call 27;with_reducible refine same (HC.out) ?_))
 go_ret2
 exact ⟨rfl,rfl⟩
theorem Prev_bad {pv:Value} {x a:Int} {k:Nat} {w:World} (hc:Calls Tryz.prog 27 #[pv,.int .i64 x] w fun e w'=>e = .returned (.iface 42 (.int .i64 k))∧w' = w) :
  Calls Tryz.prog 16 #[pv,.int .i64 x,.int .i64 a] w fun e w'=>e = .returned (.tuple #[.int .i64 0,.iface 42 (.int .i64 k)])∧w' = w:=by
 have H:=St.nil w []
 have HK:=Ks.nil w []
 have HC:=Lib.hid hc
 clear hc
 go_enter Tryz.func16,Tryz.ntmps16
 go_wp2_with (first | refine sL ?_ | (go_at_call 27;with_reducible refine same (HC.out) ?_))
 go_ret2
 exact ⟨rfl,rfl⟩
theorem AllV_c (pv:Value) (x:Int) (hp:pv.oneCell' = true) (w:World):Calls Tryz.prog 17 #[pv,.int .i64 x] w fun e w'=>∃ b1 b2,e = .returned (.func (.func 43) #[] #[.pointer (some ⟨b1,0,none⟩),.pointer (some ⟨b2,0,none⟩)])∧St w [] [blk b1 (.cells #[pv] 31),blk b2 (.cells #[.int .i64 x] 32)] w':=by
 have H:=St.nil w []
 have HK:=Ks.nil w []
 have hmf:∀ (fn:Fn) (first cap:Array Value) (w:World),(Instr.makeFunc fn first cap).run Tryz.prog w = .ok (.func fn first cap) w:=fun _ _ _ _=>rfl
 have hcs:cellsO pv = some #[pv]:=by cases pv <;> first | rfl | simp [Value.oneCell'] at hp
 clear hp
 go_enter Tryz.func17,Tryz.ntmps17
 go_wp2_with (first | ((with_reducible refine isBox (t:=31) ?_);refine AtBox.go H rfl rfl rfl (cs:=#[pv]) hcs ?_;simp only [Act.put,puA,puB,puC];clear H;intro b1 _ H) | ((with_reducible refine isBox (t:=32) ?_);refine AtBox.go H rfl rfl rfl rfl ?_;simp only [Act.put,puA,puB,puC];clear H;intro b2 _ H))
 go_ret
 exact ⟨b1,b2,rfl,(H.pick2 (A:=blk b1 (.cells #[pv] 31)) (B:=blk b2 (.cells #[.int .i64 x] 32)) pk pk).onlyTwo⟩
theorem All1_bad {pv:Value} {x:Int} {k:Nat} {b1 b2:Nat} (w:World) (h:St w [] [] w) (h1:(blk b1 (.cells #[pv] 31)).ho w) (h2:(blk b2 (.cells #[.int .i64 x] 32)).ho w)
  (hc:∀ w',Below w.heap.size w w'→Calls Tryz.prog 27 #[pv,.int .i64 x] w' fun e w''=>e = .returned (.iface 42 (.int .i64 k))∧w'' = w') {n:Nat} :
  SeqT Fence.wide n Tryz.prog 43 #[.pointer (some ⟨b1,0,none⟩),.pointer (some ⟨b2,0,none⟩)] (fun x:Empty=>#[.int .i64 0,.int .i64 0]) [] [] (fun _ _=>False) (· = []) (fun _=>False) w:=by
 intro l J Jx W hW hl hWs hJ hJx hY h0
 subst hl
 have HC:=Lib.hid (hc W hW)
 have c1:=cell_of_row W b1 0 #[pv] 31 (0,0) (by
  rw [blk_ho] at h1
  exact (hW.block _ (lt_of_block h1)).trans h1)
 have c2:=cell_of_row W b2 0 #[.int .i64 x] 32 (0,0) (by
  rw [blk_ho] at h2
  exact (hW.block _ (lt_of_block h2)).trans h2)
 have HJ:=Lib.hid h0
 have H:=St.nil W []
 have HK:=Ks.nil W []
 clear h0 hY hJ hJx hW hWs hc h1 h2 h
 refine callsIn_wide.2 ?_
 simp only [List.append_toArray,List.cons_append,List.nil_append,List.append_eq]
 go_enter Tryz.func43,Tryz.ntmps43
 go_wp2_with (first | refine sL ?_ | (refine sS ?_;clear H;intros;rename_i H) | (go_at_call 27;with_reducible refine same (HC.out) ?_))
 refine bodyPost_ret (results_none rfl _ _ _) rfl ?_
 exact ⟨⟨_,rfl⟩,.inl ⟨[],rfl,HJ.out⟩⟩
end
section
open Go.RowKit
theorem PS:(∀ (ps:List (Nat × Tmp)) (vals:Nat→Value) (a:Act),putS ps vals a = ps.foldl (fun a p=>a.put (some p.2) (vals p.1)) a)∧(∀ (f:Act→Nat × Tmp→Act) (b:Act),List.foldl f b [] = b)∧(∀ (f:Act→Nat × Tmp→Act) (b:Act) (p:Nat × Tmp) (ps:List (Nat × Tmp)),List.foldl f b (p :: ps) = List.foldl f (f b p) ps) ∧
  (∀ (a:Act) (t:Tmp) (v:Value),a.put (some t) v = { a with tmps:=a.tmps.setIfInBounds t v })∧(∀ (l:List Value) (i:Nat) (v:Value),l.toArray.setIfInBounds i v = (l.set i v).toArray)∧(∀ (a b:Value) (l:List Value),(a :: l).set 0 b = b :: l)∧(∀ (a b:Value) (l:List Value) (n:Nat),(a :: l).set (n + 1) b = a :: l.set n b) ∧
  (∀ l:List Oper,l.drop 0 = l)∧(∀ (n:Nat) (o:Oper) (l:List Oper),(o :: l).drop (n + 1) = l.drop n) :=
 ⟨fun _ _ _=>rfl,fun _ _=>rfl,fun _ _ _ _=>rfl,fun _ _ _=>rfl,fun l i v=>List.setIfInBounds_toArray l i v,fun _ _ _=>rfl,fun _ _ _ _=>rfl,fun _=>rfl,fun _ _ _=>rfl⟩
theorem CA:(∀ (Cs:List ((Nat→Value)→World→Prop)) (s:Nat) (vals:Nat→Value) (w:World),cAt Cs s vals w = Cs.getD s (fun _ _=>True) vals w)∧(∀ (C d:(Nat→Value)→World→Prop) (Cs:List ((Nat→Value)→World→Prop)),(C :: Cs).getD 0 d = C)∧(∀ (C d:(Nat→Value)→World→Prop) (Cs:List ((Nat→Value)→World→Prop)) (n:Nat),(C :: Cs).getD (n + 1) d = Cs.getD n d) ∧
  (∀ (n:Nat) (l:List Nat),(n :: l).length = l.length + 1)∧([]:List Nat).length = 0 :=
 ⟨fun _ _ _ _=>rfl,fun _ _ _=>rfl,fun _ _ _ _=>rfl,fun _ _=>rfl,rfl⟩
theorem GF:(∀ (Ss:List GS) (vals:Nat→Value),GFacts Ss vals [] = True)∧(∀ (Ss:List GS) (vals:Nat→Value) (i:Nat) (is:List Nat),GFacts Ss vals (i :: is) = ((Ss.getD i ⟨[],fun _ _=>True⟩).R (vals i) ((Ss.getD i ⟨[],fun _ _=>True⟩).D.map vals)∧GFacts Ss vals is)) ∧
  (∀ (C d:GS) (Cs:List GS),(C :: Cs).getD 0 d = C)∧(∀ (C d:GS) (Cs:List GS) (n:Nat),(C :: Cs).getD (n + 1) d = Cs.getD n d)∧(∀ p:Prop,(True∧p) = p)∧(∀ p:Prop,(p∧True) = p)∧(∀ n:Nat,List.range n = List.range.loop n [])∧(∀ l:List Nat,List.range.loop 0 l = l)∧(∀ (n:Nat) (l:List Nat),List.range.loop (n + 1) l = List.range.loop n (n :: l)) :=
 ⟨fun _ _=>rfl,fun _ _ _ _=>rfl,fun _ _ _=>rfl,fun _ _ _ _=>rfl,fun p=>true_and p,fun p=>and_true p,fun _=>rfl,fun _=>rfl,fun _ _=>rfl⟩
theorem StStep.celC {ops:Array Oper} {a:Act} {w:World} {o:Oper} {Rr:Value→World→Prop} {ty:TypeId} {x:Operand} (hw:Region.wanted o (yielded ops a.tmps) = true) (ho:o.op = .load ty x) {g off:Nat} (hx:a.eval x = .pointer (some ⟨g,off,none⟩)) (hr:isCellT ty = true) {v:Value} (hc:w.cell? ⟨g,off,none⟩ = some v) (h:Rr v w):StStep Tryz.prog ops o a w Rr :=
 StStep.val hw (by
  have hr:=isCellT_ok hr
  unfold cellTy at hr
  simp only [Bool.and_eq_true,beq_iff_eq] at hr
  have hl:(Instr.loadAt ty (.pointer (some ⟨g,off,none⟩))).run Tryz.prog w = .ok v w:=by
   cases hu:Tryz.prog.underlying ty with
   |none=>simp [hu] at hr
   |some d =>
    have hagg:(isAgg ty).run Tryz.prog w = .ok false w:=by
     unfold isAgg
     rw [Sem.run_bind,run_underlying hu w]
     simp only [hu] at hr
     cases d <;> simp_all
    simp [Instr.loadAt,Instr.sureAddr,loadVar,Sem.run_bind,hagg,run_load,hc]
  unfold execOp
  simp only [ho,hx,Sem.run_bind,hl,Result.andThen_ok]
  rfl) h
theorem lk {p:Prop} (h:p:=by first | refine StStep.cellT rfl rfl rfl gt rfl rfl ⟨rfl,HC⟩ | refine StStep.wholeT rfl rfl rfl gt rfl ⟨rfl,HC⟩ | refine StStep.celC rfl rfl rfl rfl kc ⟨rfl,HC⟩):p:=h
theorem ql {p:Prop} (h:p:=by
 intro vals wx hd HC
 first | (simp only [GF] at hd;simp only [PS,hd];clear hd) | (clear hd;simp only [PS])
 have H:=HC
 simp only [CA] at H
 first | exact lk | (obtain ⟨_,H⟩:=H;first | exact lk | (obtain ⟨_,H⟩:=H;first | exact lk | (obtain ⟨_,H⟩:=H;first | exact lk | (obtain ⟨_,H⟩:=H;first | exact lk | (obtain ⟨_,H⟩:=H;exact lk)))))):p:=h
theorem qo {p:Prop} (h:p:=by
 intro vals wx hd HC
 first | (simp only [GF] at hd;simp only [PS,hd];clear hd) | (clear hd;simp only [PS])
 go_simp
 first | exact HC | exact ⟨rfl,HC⟩ | exact ⟨IntWalk.i64_in _ (by omega),HC⟩):p:=h
end
section
open Go.RowKit Go.Maps
attribute [local go_sem] InGr Oper.semAt_some
theorem bool_stepD {fn:Func} {tmps:Array Value} {ds:List Deferred} {w0 w:World} {L R:List As} {D:Nat} {post:Ending→World→Prop} (H:St w0 [] L w) (p:Pick L (blk D (.deferred (some []))) R) (h:∀ w',St w0 [] R w'→bodyPostM Fence.wide 3 Tryz.prog fn post .ret { tmps,defers:=ds } w'):bodyPostM Fence.wide 3 Tryz.prog fn post .ret { tmps,defers:={ target:=.collected D,args:=#[] } :: ds } w:=by
 have H2:=H.pick p
 have hD:w.heap[D]? = some (.deferred (some [])):=H2.at .here
 have H3:St w0 [] (blk D (.deferred none) :: R) (w.putObj D (.deferred none)):=by
  refine St.turn H2 (fun b hb=>World.putObj_heap_other fun e=>hb (by subst e;simp [blk_fp])) rfl rfl rfl (by simp) ?_ (by rw [blk_fp,blk_fp])
  rw [blk_ho]
  exact World.putObj_heap_same (lt_of_block hD)
 exact ⟨by simp,.inl ⟨_,_,rfl,run_takeDeferred hD,h _ ⟨H3.os,H3.tape,H3.output,H3.size,H3.keep,fun B hB=>H3.ho B (List.mem_cons_of_mem _ hB),fun B hB=>H3.own B (List.mem_cons_of_mem _ hB),(List.pairwise_cons.1 H3.dis).2⟩⟩⟩
theorem range_bad {w0 w:World} {L:List As} {body assign:Code} {ps:Array Tmp} {g:Operand} {a:Act} {Q:Exit→Act→World→Prop} {pv:Value} {x:Int} {k b1 b2:Nat} (H:St w0 [] L w) (hg:a.eval g = .func (.func 43) #[] #[.pointer (some ⟨b1,0,none⟩),.pointer (some ⟨b2,0,none⟩)])
  (h1:(blk b1 (.cells #[pv] 31)).ho w) (h2:(blk b2 (.cells #[.int .i64 x] 32)).ho w)
  (hc:∀ w',Below w.heap.size w w'→Calls Tryz.prog 27 #[pv,.int .i64 x] w' fun e w''=>e = .returned (.iface 42 (.int .i64 k))∧w'' = w')
  (hk:∀ D W,St w0 [] (blk D (.deferred (some [])) :: L) W→Q .normal { a with defers:={ target:=.collected D,args:=#[] } :: a.defers } W):(Code.rangeFunc g ps assign body).wp Tryz.prog Q a w:=by
 refine (wpIn_wide (n:=3)).1 ?_
 refine wpIn_rangeFunc_T (α:=Empty) (F:=Fence.wide) (n:=3) rfl (by omega) (gf:=43) hg trivial (enters_of Tryz.func43 (by kernel_rfl) rfl) (All1_bad w (St.nil w []) h1 h2 hc) (fun b hb=>by simp at hb) (fun b hb=>by simp at hb) (fun x=>x.elim)
  (fun _ W=>St w0 [] L W) (fun _ _ _=>False) (fun s W W' hs ht=>hs.turned ht H.size (by simp) fun A hA b hb=>⟨H.fpLt hA b hb,by simp⟩) (fun _ _ _ _ hs _=>hs) H (fun x=>x.elim) (fun _ x=>x.elim) (fun _ _ x=>x.elim) ?_ (fun _ _ _ _ _ h=>h.elim)
 intro D xs W hD hxs hI hWD
 exact hk D W (hI.add hWD (Nat.le_trans H.size hD) fun b hb e=>by
  subst e
  obtain ⟨A,hA,hb⟩:=List.mem_flatMap.1 hb
  have:=H.fpLt hA b hb
  omega)
theorem AtSlice.litK {t e:TypeId} {n:Nat} {ps:Array (Nat × Operand)} {ops:Array Oper} {Q:Exit→Act→World→Prop} {rest:List Oper} {a:Act} {w w0:World} {M:List Nat} {L:List As} {o1:Oper} (H:St w0 M L w) (hw:Region.wanted o1 (yielded ops a.tmps) = true) (ho:o1.op = .buildSlice t n ps) (hte:sliceO t = some e) {z:Value} {k bytes:Nat} {cs:Array Value} (hi:infoO e = some (z,k,bytes)) (hn:¬ n * k > 2 ^ 24) (hn0:¬ n * k = 0)
  (hf:Instr.fill (fun i=>some (i * k,k)) ((Array.range (n * k)).map (z.cells[· % z.cells.size]!)) (ps.map fun (i,x)=>(i,a.eval x)).toList = some cs)
  (h:∀ b w',St w0 M (blk b (.cells cs e) :: L) w'→wpList Tryz.prog ops Q rest (a.put o1.dst (.slice (some ⟨b,0,none⟩) n n)) w'):AtSlice Tryz.prog ops Q o1 t n ps rest a w :=
 wpList_step fun _ hK=>by
  rw [if_pos hw]
  obtain ⟨i,h2,h3,h4,h5⟩:=infoO_ok hi
  have hr:=run_buildSlice (P:=Tryz.prog) w t e n (ps.map fun (i,x)=>(i,a.eval x)) cs i z (sliceO_ok hte) h2 h3 (by rw [h4];exact hn) (by rw [h4];exact hn0) (by rw [h4];exact hf)
  unfold Oper.wp execOp
  simp only [ho,Sem.run_bind,hr,Result.andThen_ok,Sem.run_pure]
  exact hK _ _ (h _ _ (H.alloc _))
theorem X8 {v u:Value} (h:[v] = [u]):u = v:=by simpa using h.symm
attribute [local go_sem] StStep stAt stUpon in
theorem errors_walk {P:PoolT} {cv nv av hv lv:Value} {rvs:List Value} {R:Raw} {ms:List Mk} {N f:Int} (h:RawAt P cv nv av hv rvs R) (hms:RowIn P mkL 5 lv ms) (hf:∀ m∈ms,m.Fits) (hs:fits64 R.start) (hN:fits64 N) (h1:fits64 f) (w:World) (hp:(poolA P).ho w) :
  Calls Tryz.prog 4 #[.agg #[.int .i64 R.start,cv,nv,av,hv,lv,.int .i64 N],.int .i64 f] w fun e w'=>e = .returned (.bool true)∧St w [] [] w':=by
 have H:=St.nil w []
 have HK:=Ks.one hp
 unfold fits64 at hs h1
 have HG:=Lib.hid (fun w hp=>good_c h hms hs.1 hs.2 (N:=N) w hp)
 have HB:Hid (∀ c,R.Snd c→ms.length≤100→∀ w,(poolA P).ho w→_):=Lib.hid (fun c hR hl w hp=>begun_c h hR hms hf hl hN w hp)
 have HID:=Lib.hid (idOf_le hf N)
 have HRA:=Lib.hid h
 obtain ⟨a1,c1,rfl,hm1⟩:=h.cls.shape
 obtain ⟨a2,c2,rfl,hm2⟩:=h.next.shape
 obtain ⟨a3,c3,rfl,hm3⟩:=h.acc.shape
 obtain ⟨a4,c4,rfl,hm4⟩:=h.wts.shape
 obtain ⟨a5,c5,rfl,hm5⟩:=hms.shape
 have HHR:=Lib.hid hs
 clear h hms hf hs hN hp hm1 hm2 hm3 hm4 hm5
 refine (callsIn_wide (n:=3)).1 ?_
 refine callsIn_of_wp_marks Tryz.func4 rfl trivial ?_ rfl
 simp only [Tryz.ntmps4,List.size_toArray,List.length_cons,List.length_nil,Nat.reduceAdd,Nat.reduceSub,Array.replicate_succ,Array.replicate_zero,List.push_toArray,List.append_toArray,List.nil_append,List.cons_append]
 refine wpIn_wide.2 ?_
 go_wp2_with (first | refine sL ?_ | (refine sS ?_;clear H;intros;rename_i H))
 rename_i bx _ br _ _ _ _ _ _ _
 with_reducible refine Calls.mono (HG.out _ (H.known HK pk)) ?_
 rintro e wc ⟨b,rfl,hgood,hb⟩
 replace H:=H.grew hb.below
 clear hb
 cases b with
 |false =>
  clear hgood
  go_wp2_with (first | refine sL ?_ | (refine sS ?_;clear H;intros;rename_i H))
  exact bool_end0 rfl H pk rfl fun h=>⟨rfl,h⟩
 |true =>
  obtain ⟨hl,c,hR⟩:=hgood rfl
  obtain ⟨hmac,hhit⟩:=HRA.out.mac hR
  have hst:((R.mc.start:Nat):Int) = R.start:=by simp [Raw.mc,Int.toNat_of_nonneg hR.s0]
  have HNEW:Hid (∀ p w,(poolA P).ho w→Calls Tryz.prog 11 #[.pointer (some ⟨p,0,none⟩),.agg #[.int .i64 R.start,.slice a1 R.cls.length c1,.slice a2 rvs.length c2,.slice a3 R.acc.length c3],.slice a4 R.wts.length c4,.bool true] w fun e w'=>∃ T,T.mc = R.mc∧T.s = p∧T.back = true∧(∀ S,TabOk S T)∧e = .returned (.tuple #[.pointer (some ⟨T.p,0,none⟩),.nilIface])∧St w [] [tabA T] w'):=Lib.hid fun p w hp=>by
   rw [← hst]
   refine Calls.mono (tnew_c p true hR.ok hmac hhit w hp) ?_
   rintro e w' ⟨T,q1,q2,q3,q4,q5,q6,q7⟩
   exact ⟨T,q1,q2,q3,q5,q6,q7⟩
  have HR:=Lib.hid hR
  have HL:=Lib.hid hl
  clear hgood hl hR hmac hhit hst
  go_wp2_with (first | refine sL ?_ | (refine sS ?_;clear H;intros;rename_i H))
  with_reducible refine Calls.mono (HB.out c HR.out HL.out _ (H.known HK pk)) ?_
  rintro e wc ⟨T,mm,lv1,rfl,hmc,hbk,hT,hb⟩
  replace H:=H.call0 hb
  clear hb
  simp only [List.cons_append,List.nil_append] at H
  obtain ⟨hok,hid,_,_⟩:=HID.out
  generalize hii:idOf ms N = id at *
  generalize hSS:stoOf ms = S at *
  have hlen:S.list.length≤1048576:=by have:=hok.len;have:=hok.most;omega
  obtain ⟨len,hlen9⟩:∃ n,S.list.length = n:=⟨_,rfl⟩
  obtain ⟨len1,hlen1⟩:∃ n,len + 1 = n:=⟨_,rfl⟩
  have i9:(len:Int) + 1 = (len1:Nat):=by omega
  have ilb:len≤1048576:=by omega
  have HST:Hid (∀ w,(tabA T).ho w→Calls Tryz.prog 12 #[.pointer (some ⟨T.p,0,none⟩)] w fun e w'=>e = .returned (.pointer (some ⟨T.s,0,none⟩))∧w' = w):=Lib.hid fun w h=>store_c hT w h
  have HLE:Hid (∀ w,(stoA T.s lv1 mm S).ho w→Calls Tryz.prog 13 #[.pointer (some ⟨T.s,0,none⟩)] w fun e w'=>e = .returned (.int .i64 (len:Nat))∧w' = w):=Lib.hid fun w h=>by rw [← hlen9];exact len_c w h
  have HB0:Hid (∀ w,Calls Tryz.prog 27 #[.pointer none,.int .i64 (-1)] w fun e w'=>e = .returned (.iface 42 (.int .i64 (5:Nat)))∧w' = w):=Lib.hid fun w=>lcheck_nil w
  have HB3:Hid (∀ w,(tabA T).ho w→(stoA T.s lv1 mm S).ho w→Calls Tryz.prog 27 #[.pointer (some ⟨T.p,0,none⟩),.int .i64 (-1)] w fun e w'=>e = .returned (.iface 42 (.int .i64 (1:Nat)))∧w' = w):=Lib.hid fun w h h2=>lcheck_range hT hbk (by omega) w h h2
  have HB4:Hid (∀ w,(tabA T).ho w→(stoA T.s lv1 mm S).ho w→Calls Tryz.prog 27 #[.pointer (some ⟨T.p,0,none⟩),.int .i64 (len1:Nat)] w fun e w'=>e = .returned (.iface 42 (.int .i64 (1:Nat)))∧w' = w):=Lib.hid fun w h h2=>lcheck_range hT hbk (by omega) w h h2
  have HI5:Hid (∀ w,Calls Tryz.prog 9 #[.iface 42 (.int .i64 5),.int .i64 5] w fun e w'=>e = .returned (.bool true)∧w' = w):=Lib.hid (fun w=>is_ev 5 5 (by omega) true rfl w)
  have HI7:Hid (∀ w,Calls Tryz.prog 9 #[.iface 42 (.int .i64 7),.int .i64 7] w fun e w'=>e = .returned (.bool true)∧w' = w):=Lib.hid (fun w=>is_ev 7 7 (by omega) true rfl w)
  have HI1:Hid (∀ w,Calls Tryz.prog 9 #[.iface 42 (.int .i64 1),.int .i64 1] w fun e w'=>e = .returned (.bool true)∧w' = w):=Lib.hid (fun w=>is_ev 1 1 (by omega) true rfl w)
  clear HB HG HID hok hid hii hSS hmc hbk hT hlen hlen9 hlen1
  go_wp2_with (first | refine sL ?_ | (refine sS ?_;clear H;intros;rename_i H))
  have HRN:Hid (∀ w,(blk bx (.cells #[.int .i64 R.start,.slice a1 R.cls.length c1,.slice a2 rvs.length c2,.slice a3 R.acc.length c3,.slice a4 R.wts.length c4,.slice a5 ms.length c5,.int .i64 N] 29)).ho w→w.rangeAt bx 0 [.int .i64 R.start,.slice a1 R.cls.length c1,.slice a2 rvs.length c2,.slice a3 R.acc.length c3]):=Lib.hid fun w h=>by
   rw [blk_ho] at h
   intro i u hi
   match i,hi with
   |0,hi=>simp at hi;subst hi;exact cell_of_row w bx 0 _ _ _ h
   |1,hi=>simp at hi;subst hi;exact cell_of_row w bx 1 _ _ _ h
   |2,hi=>simp at hi;subst hi;exact cell_of_row w bx 2 _ _ _ h
   |3,hi=>simp at hi;subst hi;exact cell_of_row w bx 3 _ _ _ h
   |n + 4,hi=>simp at hi
  replace H:=H.picks (.cons (A:=tabA T) pk (.cons (A:=stoA T.s lv1 mm S) pk (.cons (A:=blk br (.cells #[.bool false] 4)) pk (.cons (A:=blk bx (.cells #[.int .i64 R.start,.slice a1 R.cls.length c1,.slice a2 rvs.length c2,.slice a3 R.acc.length c3,.slice a4 R.wts.length c4,.slice a5 ms.length c5,.int .i64 N] 29)) pk .nil))))
  refine wp_region_sgx 12 [⟨[],fun v _=>v = .pointer (some ⟨T.p,0,none⟩)⟩,⟨[0],fun v _=>v = .pointer (some ⟨T.s,0,none⟩)⟩,⟨[],fun v _=>v = .pointer (some ⟨bx,0,none⟩)⟩,⟨[2],fun v _=>v = .agg #[.int .i64 R.start,.slice a1 R.cls.length c1,.slice a2 rvs.length c2,.slice a3 R.acc.length c3]⟩,⟨[],fun v _=>v = .pointer (some ⟨bx,4,none⟩)⟩,⟨[4],fun v _=>v = .slice a4 R.wts.length c4⟩,⟨[1,3,5],fun v _=>∃ q:Nat,v = .tuple #[.pointer (some ⟨q,0,none⟩),.nilIface]⟩,⟨[6],fun v ds=>ds = [v]⟩,⟨[7],fun v ds=>∃ q:Nat,ds = [.tuple #[.pointer (some ⟨q,0,none⟩),.nilIface]]∧v = .pointer (some ⟨q,0,none⟩)⟩,⟨[7],fun v ds=>∃ q:Nat,ds = [.tuple #[.pointer (some ⟨q,0,none⟩),.nilIface]]∧v = .nilIface⟩,⟨[8],fun v ds=>ds = [v]⟩,⟨[9],fun v ds=>ds = [v]⟩] [6] [[0],[0],[0],[0],[0],[0],[0],[1],[1],[1],[1],[1]] [fun _ wx=>St w [] [tabA T,stoA T.s lv1 mm S,blk br (.cells #[.bool false] 4),blk bx (.cells #[.int .i64 R.start,.slice a1 R.cls.length c1,.slice a2 rvs.length c2,.slice a3 R.acc.length c3,.slice a4 R.wts.length c4,.slice a5 ms.length c5,.int .i64 N] 29)] wx,fun vals wx=>∃ T2:Tab,vals 6 = .tuple #[.pointer (some ⟨T2.p,0,none⟩),.nilIface]∧(T2.back = true∧TabOk S T2)∧St w [] [tabA T2,tabA T,stoA T.s lv1 mm S,blk br (.cells #[.bool false] 4),blk bx (.cells #[.int .i64 R.start,.slice a1 R.cls.length c1,.slice a2 rvs.length c2,.slice a3 R.acc.length c3,.slice a4 R.wts.length c4,.slice a5 ms.length c5,.int .i64 N] 29)] wx]
   [[],[(0,34)],[],[(2,36)],[],[(4,38)],[(1,35),(3,37),(5,39)],[(6,40)],[(7,33)],[(7,33)],[(8,41)],[(9,42)]] [(0,34),(1,35),(2,36),(3,37),(4,38),(5,39),(6,40),(7,33),(8,41),(9,42),(10,9),(11,10)] (by kernel_rfl) (by kernel_rfl) H.drew ⟨⟨qo,trivial⟩,⟨?_,trivial⟩,⟨qo,trivial⟩,⟨?_,trivial⟩,⟨qo,trivial⟩,⟨ql,trivial⟩,⟨?_,trivial⟩,⟨?_,trivial⟩,⟨?_,trivial⟩,⟨?_,trivial⟩,⟨?_,trivial⟩,⟨?_,trivial⟩,trivial⟩ ?_
  ·intro vals wx hd HC
   simp only [GF] at hd
   have h0:=hd
   clear hd
   have H:=HC
   simp only [CA] at H
   simp only [PS,h0]
   clear h0
   go_simp
   with_reducible refine Calls.mono (HST.out _ (H.get (A:=tabA T) pk)) ?_
   rintro e wz ⟨rfl,rfl⟩
   exact ⟨_,rfl,rfl,H⟩
  ·intro vals wx hd HC
   simp only [GF] at hd
   have H:=HC
   simp only [CA] at H
   simp only [PS,hd]
   refine StStep.rngT rfl rfl rfl (HRN.out _ (H.get (A:=blk bx (.cells #[.int .i64 R.start,.slice a1 R.cls.length c1,.slice a2 rvs.length c2,.slice a3 R.acc.length c3,.slice a4 R.wts.length c4,.slice a5 ms.length c5,.int .i64 N] 29)) pk)) rfl ⟨rfl,HC⟩
  ·intro vals wx hd HC
   simp only [GF] at hd
   obtain ⟨h1,h3,h5⟩:=hd
   have H:=HC
   simp only [CA] at H
   simp only [PS,h1,h3,h5]
   clear h1 h3 h5 HC
   go_simp
   with_reducible refine Calls.mono (HNEW.out _ _ (H.known HK pk)) ?_
   rintro e wz ⟨T2,hmc2,hs2,hbk2,hT2,rfl,hb⟩
   have H2:=H.call0 hb
   exact ⟨_,rfl,⟨_,rfl⟩,T2,rfl,⟨hbk2,hT2 S⟩,by simpa using H2⟩
  ·intro vals wx hd HC
   simp only [GF] at hd
   have h6:=hd
   clear hd
   have H:=HC
   simp only [CA] at H
   obtain ⟨T2,hv6,hT2,H⟩:=H
   simp only [PS]
   clear h6
   go_simp
   first | exact HC | exact ⟨rfl,HC⟩
  ·intro vals wx hd HC
   simp only [GF] at hd
   have h7:=hd
   clear hd
   have H:=HC
   simp only [CA] at H
   obtain ⟨T2,hv6,hT2,H⟩:=H
   simp only [PS]
   have e7:vals 7 = .tuple #[.pointer (some ⟨T2.p,0,none⟩),.nilIface]:=by rw [← hv6];exact X8 (show [vals 6] = [vals 7] from h7)
   simp only [e7]
   clear h7
   go_simp
   first | exact ⟨⟨T2.p,by simp [e7],rfl⟩,HC⟩ | exact ⟨⟨T2.p,rfl⟩,HC⟩ | exact ⟨rfl,HC⟩ | exact HC | exact ⟨⟨⟨T2.p,rfl⟩,rfl⟩,HC⟩ | exact ⟨⟨T2.p,rfl,rfl⟩,HC⟩ | fail "Z9"
  ·intro vals wx hd HC
   simp only [GF] at hd
   have h7:=hd
   clear hd
   have H:=HC
   simp only [CA] at H
   obtain ⟨T2,hv6,hT2,H⟩:=H
   simp only [PS]
   have e7:vals 7 = .tuple #[.pointer (some ⟨T2.p,0,none⟩),.nilIface]:=by rw [← hv6];exact X8 (show [vals 6] = [vals 7] from h7)
   simp only [e7]
   clear h7
   go_simp
   first | exact ⟨⟨T2.p,by simp [e7],rfl⟩,HC⟩ | exact ⟨⟨T2.p,rfl⟩,HC⟩ | exact ⟨rfl,HC⟩ | exact HC | exact ⟨⟨⟨T2.p,rfl⟩,rfl⟩,HC⟩ | exact ⟨⟨T2.p,rfl,rfl⟩,HC⟩ | fail "Z9"
  ·intro vals wx hd HC
   simp only [GF] at hd
   have h8:=hd
   clear hd
   have H:=HC
   simp only [CA] at H
   obtain ⟨T2,hv6,hT2,H⟩:=H
   simp only [PS]
   clear h8
   go_simp
   first | exact HC | exact ⟨rfl,HC⟩
  ·intro vals wx hd HC
   simp only [GF] at hd
   have h9:=hd
   clear hd
   have H:=HC
   simp only [CA] at H
   obtain ⟨T2,hv6,hT2,H⟩:=H
   simp only [PS]
   clear h9
   go_simp
   first | exact HC | exact ⟨rfl,HC⟩
  intro vals wx hd HC
  have h6:=hd.2.2.2.2.2.2.1
  have h7:=hd.2.2.2.2.2.2.2.1
  have h8:=hd.2.2.2.2.2.2.2.2.1
  have h9:=hd.2.2.2.2.2.2.2.2.2.1
  have h10:=hd.2.2.2.2.2.2.2.2.2.2.1
  have h11:=hd.2.2.2.2.2.2.2.2.2.2.2.1
  simp only [CA] at HC
  obtain ⟨T2,hv6,hT2,H⟩:=HC
  simp only [GF] at hd
  simp only [PS,hd]
  clear hd
  have e10:vals 10 = .pointer (some ⟨T2.p,0,none⟩):=by
   have e7:vals 7 = .tuple #[.pointer (some ⟨T2.p,0,none⟩),.nilIface]:=by rw [← hv6];exact X8 (show [vals 6] = [vals 7] from h7)
   obtain ⟨q,q1,q2⟩:=(h8:∃ q:Nat,[vals 7] = [.tuple #[.pointer (some ⟨q,0,none⟩),.nilIface]]∧vals 8 = .pointer (some ⟨q,0,none⟩))
   replace q1:[vals 7] = [Value.tuple #[.pointer (some ⟨q,0,none⟩),.nilIface]]:=q1
   rw [e7] at q1
   simp only [List.cons.injEq,and_true,Value.tuple.injEq,Array.mk.injEq,Value.pointer.injEq,Option.some.injEq,Addr.mk.injEq] at q1
   rw [X8 (show [vals 8] = [vals 10] from h10),q2,q1]
  have e11:vals 11 = .nilIface:=by
   obtain ⟨q,q1,q2⟩:=(h9:∃ q:Nat,[vals 7] = [.tuple #[.pointer (some ⟨q,0,none⟩),.nilIface]]∧vals 9 = .nilIface)
   rw [X8 (show [vals 9] = [vals 11] from h11),q2]
  simp only [e10,e11]
  clear e10 e11 h6 h7 h8 h9 h10 h11 hv6
  go_wp2_with (first | refine sL ?_ | (refine sS ?_;clear H;intros;rename_i H) | (go_at_call 12;with_reducible refine same (HST.out _ (H.get (A:=tabA T) pk)) ?_) | (go_at_call 13;with_reducible refine same (HLE.out _ (H.get (A:=stoA T.s lv1 mm S) pk)) ?_) | ((with_reducible refine isSlice ?_);refine AtSlice.litK H rfl rfl rfl (cs:=#[.pointer none,.int .i64 (-1),.int .i64 5,.pointer (some ⟨T2.p,0,none⟩),.int .i64 (-1),.int .i64 7,.pointer (some ⟨T2.p,0,none⟩),.int .i64 (id:Nat),.int .i64 7,.pointer (some ⟨T.p,0,none⟩),.int .i64 (-1),.int .i64 1,.pointer (some ⟨T.p,0,none⟩),.int .i64 (len1:Nat),.int .i64 1]) rfl (by decide) (by decide) (by kernel_rfl) ?_;clear H;intro b9 _ H;simp only [Act.put,puA,puB,puC]))
  have HB1:Hid (∀ w,(tabA T2).ho w→Calls Tryz.prog 27 #[.pointer (some ⟨T2.p,0,none⟩),.int .i64 (-1)] w fun e w'=>e = .returned (.iface 42 (.int .i64 (7:Nat)))∧w' = w):=Lib.hid fun w h=>lcheck_back hT2.2 hT2.1 w h
  have HB2:Hid (∀ w,(tabA T2).ho w→Calls Tryz.prog 27 #[.pointer (some ⟨T2.p,0,none⟩),.int .i64 (id:Nat)] w fun e w'=>e = .returned (.iface 42 (.int .i64 (7:Nat)))∧w' = w):=Lib.hid fun w h=>lcheck_back hT2.2 hT2.1 w h
  refine wp_loop_rounds 6 ?_
  rw [rounds_succ]
  go_wp2_with (first | refine sL ?_ | (refine sS ?_;clear H;intros;rename_i H) | (go_at_call 14;first | (with_reducible refine same (Count_bad (HB0.out _)) ?_) | (with_reducible refine same (Count_bad (HB1.out _ (H.get (A:=tabA T2) pk))) ?_) | (with_reducible refine same (Count_bad (HB2.out _ (H.get (A:=tabA T2) pk))) ?_) | (with_reducible refine same (Count_bad (HB3.out _ (H.get (A:=tabA T) pk) (H.get (A:=stoA T.s lv1 mm S) pk))) ?_) | (with_reducible refine same (Count_bad (HB4.out _ (H.get (A:=tabA T) pk) (H.get (A:=stoA T.s lv1 mm S) pk))) ?_)) | (go_at_call 8;first | (with_reducible refine same (Nth_bad (HB0.out _)) ?_) | (with_reducible refine same (Nth_bad (HB1.out _ (H.get (A:=tabA T2) pk))) ?_) | (with_reducible refine same (Nth_bad (HB2.out _ (H.get (A:=tabA T2) pk))) ?_) | (with_reducible refine same (Nth_bad (HB3.out _ (H.get (A:=tabA T) pk) (H.get (A:=stoA T.s lv1 mm S) pk))) ?_) | (with_reducible refine same (Nth_bad (HB4.out _ (H.get (A:=tabA T) pk) (H.get (A:=stoA T.s lv1 mm S) pk))) ?_)) | (go_at_call 15;first | (with_reducible refine same (Next_bad (HB0.out _)) ?_) | (with_reducible refine same (Next_bad (HB1.out _ (H.get (A:=tabA T2) pk))) ?_) | (with_reducible refine same (Next_bad (HB2.out _ (H.get (A:=tabA T2) pk))) ?_) | (with_reducible refine same (Next_bad (HB3.out _ (H.get (A:=tabA T) pk) (H.get (A:=stoA T.s lv1 mm S) pk))) ?_) | (with_reducible refine same (Next_bad (HB4.out _ (H.get (A:=tabA T) pk) (H.get (A:=stoA T.s lv1 mm S) pk))) ?_)) | (go_at_call 16;first | (with_reducible refine same (Prev_bad (HB0.out _)) ?_) | (with_reducible refine same (Prev_bad (HB1.out _ (H.get (A:=tabA T2) pk))) ?_) | (with_reducible refine same (Prev_bad (HB2.out _ (H.get (A:=tabA T2) pk))) ?_) | (with_reducible refine same (Prev_bad (HB3.out _ (H.get (A:=tabA T) pk) (H.get (A:=stoA T.s lv1 mm S) pk))) ?_) | (with_reducible refine same (Prev_bad (HB4.out _ (H.get (A:=tabA T) pk) (H.get (A:=stoA T.s lv1 mm S) pk))) ?_)) | (go_at_call 9;first | (with_reducible refine same (HI5.out _) ?_) | (with_reducible refine same (HI7.out _) ?_) | (with_reducible refine same (HI1.out _) ?_)) | (go_at_call 17;with_reducible refine Calls.mono (AllV_c _ _ rfl _) ?_;rintro e wd ⟨b5,b6,rfl,hb⟩;replace H:=H.call0 hb;clear hb;simp only [List.cons_append,List.nil_append] at H))
  refine range_bad (pv:=(.pointer none)) (x:=(-1)) (b1:=b5) (b2:=b6) H rfl (H.get (A:=blk b5 (.cells #[.pointer none] 31)) pk) (H.get (A:=blk b6 (.cells #[.int .i64 (-1)] 32)) pk) (fun w' hb=>HB0.out _) ?_
  clear H
  intro D0 wz0 H
  replace H:=H.picks (.cons (A:=blk D0 (.deferred (some []))) pk (.cons (A:=blk b9 (.cells #[.pointer none,.int .i64 (-1),.int .i64 5,.pointer (some ⟨T2.p,0,none⟩),.int .i64 (-1),.int .i64 7,.pointer (some ⟨T2.p,0,none⟩),.int .i64 (id:Nat),.int .i64 7,.pointer (some ⟨T.p,0,none⟩),.int .i64 (-1),.int .i64 1,.pointer (some ⟨T.p,0,none⟩),.int .i64 (len1:Nat),.int .i64 1] 49)) pk (.cons (A:=tabA T2) pk (.cons (A:=tabA T) pk (.cons (A:=stoA T.s lv1 mm S) pk (.cons (A:=blk br (.cells #[.bool false] 4)) pk .nil))))))
  simp only [Exit.inBlock,Exit.then]
  go_wp2_with (first | refine sL ?_ | (refine sS ?_;clear H;intros;rename_i H))
  rw [rounds_succ]
  go_wp2_with (first | refine sL ?_ | (refine sS ?_;clear H;intros;rename_i H) | (go_at_call 14;first | (with_reducible refine same (Count_bad (HB0.out _)) ?_) | (with_reducible refine same (Count_bad (HB1.out _ (H.get (A:=tabA T2) pk))) ?_) | (with_reducible refine same (Count_bad (HB2.out _ (H.get (A:=tabA T2) pk))) ?_) | (with_reducible refine same (Count_bad (HB3.out _ (H.get (A:=tabA T) pk) (H.get (A:=stoA T.s lv1 mm S) pk))) ?_) | (with_reducible refine same (Count_bad (HB4.out _ (H.get (A:=tabA T) pk) (H.get (A:=stoA T.s lv1 mm S) pk))) ?_)) | (go_at_call 8;first | (with_reducible refine same (Nth_bad (HB0.out _)) ?_) | (with_reducible refine same (Nth_bad (HB1.out _ (H.get (A:=tabA T2) pk))) ?_) | (with_reducible refine same (Nth_bad (HB2.out _ (H.get (A:=tabA T2) pk))) ?_) | (with_reducible refine same (Nth_bad (HB3.out _ (H.get (A:=tabA T) pk) (H.get (A:=stoA T.s lv1 mm S) pk))) ?_) | (with_reducible refine same (Nth_bad (HB4.out _ (H.get (A:=tabA T) pk) (H.get (A:=stoA T.s lv1 mm S) pk))) ?_)) | (go_at_call 15;first | (with_reducible refine same (Next_bad (HB0.out _)) ?_) | (with_reducible refine same (Next_bad (HB1.out _ (H.get (A:=tabA T2) pk))) ?_) | (with_reducible refine same (Next_bad (HB2.out _ (H.get (A:=tabA T2) pk))) ?_) | (with_reducible refine same (Next_bad (HB3.out _ (H.get (A:=tabA T) pk) (H.get (A:=stoA T.s lv1 mm S) pk))) ?_) | (with_reducible refine same (Next_bad (HB4.out _ (H.get (A:=tabA T) pk) (H.get (A:=stoA T.s lv1 mm S) pk))) ?_)) | (go_at_call 16;first | (with_reducible refine same (Prev_bad (HB0.out _)) ?_) | (with_reducible refine same (Prev_bad (HB1.out _ (H.get (A:=tabA T2) pk))) ?_) | (with_reducible refine same (Prev_bad (HB2.out _ (H.get (A:=tabA T2) pk))) ?_) | (with_reducible refine same (Prev_bad (HB3.out _ (H.get (A:=tabA T) pk) (H.get (A:=stoA T.s lv1 mm S) pk))) ?_) | (with_reducible refine same (Prev_bad (HB4.out _ (H.get (A:=tabA T) pk) (H.get (A:=stoA T.s lv1 mm S) pk))) ?_)) | (go_at_call 9;first | (with_reducible refine same (HI5.out _) ?_) | (with_reducible refine same (HI7.out _) ?_) | (with_reducible refine same (HI1.out _) ?_)) | (go_at_call 17;with_reducible refine Calls.mono (AllV_c _ _ rfl _) ?_;rintro e wd ⟨b5,b6,rfl,hb⟩;replace H:=H.call0 hb;clear hb;simp only [List.cons_append,List.nil_append] at H))
  refine range_bad (pv:=(.pointer (some ⟨T2.p,0,none⟩))) (x:=(-1)) (b1:=b5) (b2:=b6) H rfl (H.get (A:=blk b5 (.cells #[.pointer (some ⟨T2.p,0,none⟩)] 31)) pk) (H.get (A:=blk b6 (.cells #[.int .i64 (-1)] 32)) pk) (fun w' hb=>HB1.out _ ((H.grew hb).get (A:=tabA T2) pk)) ?_
  clear H
  intro D1 wz1 H
  replace H:=H.picks (.cons (A:=blk D1 (.deferred (some []))) pk (.cons (A:=blk D0 (.deferred (some []))) pk (.cons (A:=blk b9 (.cells #[.pointer none,.int .i64 (-1),.int .i64 5,.pointer (some ⟨T2.p,0,none⟩),.int .i64 (-1),.int .i64 7,.pointer (some ⟨T2.p,0,none⟩),.int .i64 (id:Nat),.int .i64 7,.pointer (some ⟨T.p,0,none⟩),.int .i64 (-1),.int .i64 1,.pointer (some ⟨T.p,0,none⟩),.int .i64 (len1:Nat),.int .i64 1] 49)) pk (.cons (A:=tabA T2) pk (.cons (A:=tabA T) pk (.cons (A:=stoA T.s lv1 mm S) pk (.cons (A:=blk br (.cells #[.bool false] 4)) pk .nil)))))))
  simp only [Exit.inBlock,Exit.then]
  go_wp2_with (first | refine sL ?_ | (refine sS ?_;clear H;intros;rename_i H))
  rw [rounds_succ]
  go_wp2_with (first | refine sL ?_ | (refine sS ?_;clear H;intros;rename_i H) | (go_at_call 14;first | (with_reducible refine same (Count_bad (HB0.out _)) ?_) | (with_reducible refine same (Count_bad (HB1.out _ (H.get (A:=tabA T2) pk))) ?_) | (with_reducible refine same (Count_bad (HB2.out _ (H.get (A:=tabA T2) pk))) ?_) | (with_reducible refine same (Count_bad (HB3.out _ (H.get (A:=tabA T) pk) (H.get (A:=stoA T.s lv1 mm S) pk))) ?_) | (with_reducible refine same (Count_bad (HB4.out _ (H.get (A:=tabA T) pk) (H.get (A:=stoA T.s lv1 mm S) pk))) ?_)) | (go_at_call 8;first | (with_reducible refine same (Nth_bad (HB0.out _)) ?_) | (with_reducible refine same (Nth_bad (HB1.out _ (H.get (A:=tabA T2) pk))) ?_) | (with_reducible refine same (Nth_bad (HB2.out _ (H.get (A:=tabA T2) pk))) ?_) | (with_reducible refine same (Nth_bad (HB3.out _ (H.get (A:=tabA T) pk) (H.get (A:=stoA T.s lv1 mm S) pk))) ?_) | (with_reducible refine same (Nth_bad (HB4.out _ (H.get (A:=tabA T) pk) (H.get (A:=stoA T.s lv1 mm S) pk))) ?_)) | (go_at_call 15;first | (with_reducible refine same (Next_bad (HB0.out _)) ?_) | (with_reducible refine same (Next_bad (HB1.out _ (H.get (A:=tabA T2) pk))) ?_) | (with_reducible refine same (Next_bad (HB2.out _ (H.get (A:=tabA T2) pk))) ?_) | (with_reducible refine same (Next_bad (HB3.out _ (H.get (A:=tabA T) pk) (H.get (A:=stoA T.s lv1 mm S) pk))) ?_) | (with_reducible refine same (Next_bad (HB4.out _ (H.get (A:=tabA T) pk) (H.get (A:=stoA T.s lv1 mm S) pk))) ?_)) | (go_at_call 16;first | (with_reducible refine same (Prev_bad (HB0.out _)) ?_) | (with_reducible refine same (Prev_bad (HB1.out _ (H.get (A:=tabA T2) pk))) ?_) | (with_reducible refine same (Prev_bad (HB2.out _ (H.get (A:=tabA T2) pk))) ?_) | (with_reducible refine same (Prev_bad (HB3.out _ (H.get (A:=tabA T) pk) (H.get (A:=stoA T.s lv1 mm S) pk))) ?_) | (with_reducible refine same (Prev_bad (HB4.out _ (H.get (A:=tabA T) pk) (H.get (A:=stoA T.s lv1 mm S) pk))) ?_)) | (go_at_call 9;first | (with_reducible refine same (HI5.out _) ?_) | (with_reducible refine same (HI7.out _) ?_) | (with_reducible refine same (HI1.out _) ?_)) | (go_at_call 17;with_reducible refine Calls.mono (AllV_c _ _ rfl _) ?_;rintro e wd ⟨b5,b6,rfl,hb⟩;replace H:=H.call0 hb;clear hb;simp only [List.cons_append,List.nil_append] at H))
  refine range_bad (pv:=(.pointer (some ⟨T2.p,0,none⟩))) (x:=(id:Nat)) (b1:=b5) (b2:=b6) H rfl (H.get (A:=blk b5 (.cells #[.pointer (some ⟨T2.p,0,none⟩)] 31)) pk) (H.get (A:=blk b6 (.cells #[.int .i64 (id:Nat)] 32)) pk) (fun w' hb=>HB2.out _ ((H.grew hb).get (A:=tabA T2) pk)) ?_
  clear H
  intro D2 wz2 H
  replace H:=H.picks (.cons (A:=blk D2 (.deferred (some []))) pk (.cons (A:=blk D0 (.deferred (some []))) pk (.cons (A:=blk D1 (.deferred (some []))) pk (.cons (A:=blk b9 (.cells #[.pointer none,.int .i64 (-1),.int .i64 5,.pointer (some ⟨T2.p,0,none⟩),.int .i64 (-1),.int .i64 7,.pointer (some ⟨T2.p,0,none⟩),.int .i64 (id:Nat),.int .i64 7,.pointer (some ⟨T.p,0,none⟩),.int .i64 (-1),.int .i64 1,.pointer (some ⟨T.p,0,none⟩),.int .i64 (len1:Nat),.int .i64 1] 49)) pk (.cons (A:=tabA T2) pk (.cons (A:=tabA T) pk (.cons (A:=stoA T.s lv1 mm S) pk (.cons (A:=blk br (.cells #[.bool false] 4)) pk .nil))))))))
  simp only [Exit.inBlock,Exit.then]
  go_wp2_with (first | refine sL ?_ | (refine sS ?_;clear H;intros;rename_i H))
  rw [rounds_succ]
  go_wp2_with (first | refine sL ?_ | (refine sS ?_;clear H;intros;rename_i H) | (go_at_call 14;first | (with_reducible refine same (Count_bad (HB0.out _)) ?_) | (with_reducible refine same (Count_bad (HB1.out _ (H.get (A:=tabA T2) pk))) ?_) | (with_reducible refine same (Count_bad (HB2.out _ (H.get (A:=tabA T2) pk))) ?_) | (with_reducible refine same (Count_bad (HB3.out _ (H.get (A:=tabA T) pk) (H.get (A:=stoA T.s lv1 mm S) pk))) ?_) | (with_reducible refine same (Count_bad (HB4.out _ (H.get (A:=tabA T) pk) (H.get (A:=stoA T.s lv1 mm S) pk))) ?_)) | (go_at_call 8;first | (with_reducible refine same (Nth_bad (HB0.out _)) ?_) | (with_reducible refine same (Nth_bad (HB1.out _ (H.get (A:=tabA T2) pk))) ?_) | (with_reducible refine same (Nth_bad (HB2.out _ (H.get (A:=tabA T2) pk))) ?_) | (with_reducible refine same (Nth_bad (HB3.out _ (H.get (A:=tabA T) pk) (H.get (A:=stoA T.s lv1 mm S) pk))) ?_) | (with_reducible refine same (Nth_bad (HB4.out _ (H.get (A:=tabA T) pk) (H.get (A:=stoA T.s lv1 mm S) pk))) ?_)) | (go_at_call 15;first | (with_reducible refine same (Next_bad (HB0.out _)) ?_) | (with_reducible refine same (Next_bad (HB1.out _ (H.get (A:=tabA T2) pk))) ?_) | (with_reducible refine same (Next_bad (HB2.out _ (H.get (A:=tabA T2) pk))) ?_) | (with_reducible refine same (Next_bad (HB3.out _ (H.get (A:=tabA T) pk) (H.get (A:=stoA T.s lv1 mm S) pk))) ?_) | (with_reducible refine same (Next_bad (HB4.out _ (H.get (A:=tabA T) pk) (H.get (A:=stoA T.s lv1 mm S) pk))) ?_)) | (go_at_call 16;first | (with_reducible refine same (Prev_bad (HB0.out _)) ?_) | (with_reducible refine same (Prev_bad (HB1.out _ (H.get (A:=tabA T2) pk))) ?_) | (with_reducible refine same (Prev_bad (HB2.out _ (H.get (A:=tabA T2) pk))) ?_) | (with_reducible refine same (Prev_bad (HB3.out _ (H.get (A:=tabA T) pk) (H.get (A:=stoA T.s lv1 mm S) pk))) ?_) | (with_reducible refine same (Prev_bad (HB4.out _ (H.get (A:=tabA T) pk) (H.get (A:=stoA T.s lv1 mm S) pk))) ?_)) | (go_at_call 9;first | (with_reducible refine same (HI5.out _) ?_) | (with_reducible refine same (HI7.out _) ?_) | (with_reducible refine same (HI1.out _) ?_)) | (go_at_call 17;with_reducible refine Calls.mono (AllV_c _ _ rfl _) ?_;rintro e wd ⟨b5,b6,rfl,hb⟩;replace H:=H.call0 hb;clear hb;simp only [List.cons_append,List.nil_append] at H))
  refine range_bad (pv:=(.pointer (some ⟨T.p,0,none⟩))) (x:=(-1)) (b1:=b5) (b2:=b6) H rfl (H.get (A:=blk b5 (.cells #[.pointer (some ⟨T.p,0,none⟩)] 31)) pk) (H.get (A:=blk b6 (.cells #[.int .i64 (-1)] 32)) pk) (fun w' hb=>HB3.out _ ((H.grew hb).get (A:=tabA T) pk) ((H.grew hb).get (A:=stoA T.s lv1 mm S) pk)) ?_
  clear H
  intro D3 wz3 H
  replace H:=H.picks (.cons (A:=blk D3 (.deferred (some []))) pk (.cons (A:=blk D0 (.deferred (some []))) pk (.cons (A:=blk D1 (.deferred (some []))) pk (.cons (A:=blk D2 (.deferred (some []))) pk (.cons (A:=blk b9 (.cells #[.pointer none,.int .i64 (-1),.int .i64 5,.pointer (some ⟨T2.p,0,none⟩),.int .i64 (-1),.int .i64 7,.pointer (some ⟨T2.p,0,none⟩),.int .i64 (id:Nat),.int .i64 7,.pointer (some ⟨T.p,0,none⟩),.int .i64 (-1),.int .i64 1,.pointer (some ⟨T.p,0,none⟩),.int .i64 (len1:Nat),.int .i64 1] 49)) pk (.cons (A:=tabA T2) pk (.cons (A:=tabA T) pk (.cons (A:=stoA T.s lv1 mm S) pk (.cons (A:=blk br (.cells #[.bool false] 4)) pk .nil)))))))))
  simp only [Exit.inBlock,Exit.then]
  go_wp2_with (first | refine sL ?_ | (refine sS ?_;clear H;intros;rename_i H))
  rw [rounds_succ]
  go_wp2_with (first | refine sL ?_ | (refine sS ?_;clear H;intros;rename_i H) | (go_at_call 14;first | (with_reducible refine same (Count_bad (HB0.out _)) ?_) | (with_reducible refine same (Count_bad (HB1.out _ (H.get (A:=tabA T2) pk))) ?_) | (with_reducible refine same (Count_bad (HB2.out _ (H.get (A:=tabA T2) pk))) ?_) | (with_reducible refine same (Count_bad (HB3.out _ (H.get (A:=tabA T) pk) (H.get (A:=stoA T.s lv1 mm S) pk))) ?_) | (with_reducible refine same (Count_bad (HB4.out _ (H.get (A:=tabA T) pk) (H.get (A:=stoA T.s lv1 mm S) pk))) ?_)) | (go_at_call 8;first | (with_reducible refine same (Nth_bad (HB0.out _)) ?_) | (with_reducible refine same (Nth_bad (HB1.out _ (H.get (A:=tabA T2) pk))) ?_) | (with_reducible refine same (Nth_bad (HB2.out _ (H.get (A:=tabA T2) pk))) ?_) | (with_reducible refine same (Nth_bad (HB3.out _ (H.get (A:=tabA T) pk) (H.get (A:=stoA T.s lv1 mm S) pk))) ?_) | (with_reducible refine same (Nth_bad (HB4.out _ (H.get (A:=tabA T) pk) (H.get (A:=stoA T.s lv1 mm S) pk))) ?_)) | (go_at_call 15;first | (with_reducible refine same (Next_bad (HB0.out _)) ?_) | (with_reducible refine same (Next_bad (HB1.out _ (H.get (A:=tabA T2) pk))) ?_) | (with_reducible refine same (Next_bad (HB2.out _ (H.get (A:=tabA T2) pk))) ?_) | (with_reducible refine same (Next_bad (HB3.out _ (H.get (A:=tabA T) pk) (H.get (A:=stoA T.s lv1 mm S) pk))) ?_) | (with_reducible refine same (Next_bad (HB4.out _ (H.get (A:=tabA T) pk) (H.get (A:=stoA T.s lv1 mm S) pk))) ?_)) | (go_at_call 16;first | (with_reducible refine same (Prev_bad (HB0.out _)) ?_) | (with_reducible refine same (Prev_bad (HB1.out _ (H.get (A:=tabA T2) pk))) ?_) | (with_reducible refine same (Prev_bad (HB2.out _ (H.get (A:=tabA T2) pk))) ?_) | (with_reducible refine same (Prev_bad (HB3.out _ (H.get (A:=tabA T) pk) (H.get (A:=stoA T.s lv1 mm S) pk))) ?_) | (with_reducible refine same (Prev_bad (HB4.out _ (H.get (A:=tabA T) pk) (H.get (A:=stoA T.s lv1 mm S) pk))) ?_)) | (go_at_call 9;first | (with_reducible refine same (HI5.out _) ?_) | (with_reducible refine same (HI7.out _) ?_) | (with_reducible refine same (HI1.out _) ?_)) | (go_at_call 17;with_reducible refine Calls.mono (AllV_c _ _ rfl _) ?_;rintro e wd ⟨b5,b6,rfl,hb⟩;replace H:=H.call0 hb;clear hb;simp only [List.cons_append,List.nil_append] at H))
  refine range_bad (pv:=(.pointer (some ⟨T.p,0,none⟩))) (x:=(len1:Nat)) (b1:=b5) (b2:=b6) H rfl (H.get (A:=blk b5 (.cells #[.pointer (some ⟨T.p,0,none⟩)] 31)) pk) (H.get (A:=blk b6 (.cells #[.int .i64 (len1:Nat)] 32)) pk) (fun w' hb=>HB4.out _ ((H.grew hb).get (A:=tabA T) pk) ((H.grew hb).get (A:=stoA T.s lv1 mm S) pk)) ?_
  clear H
  intro D4 wz4 H
  replace H:=H.picks (.cons (A:=blk D4 (.deferred (some []))) pk (.cons (A:=blk D0 (.deferred (some []))) pk (.cons (A:=blk D1 (.deferred (some []))) pk (.cons (A:=blk D2 (.deferred (some []))) pk (.cons (A:=blk D3 (.deferred (some []))) pk (.cons (A:=blk b9 (.cells #[.pointer none,.int .i64 (-1),.int .i64 5,.pointer (some ⟨T2.p,0,none⟩),.int .i64 (-1),.int .i64 7,.pointer (some ⟨T2.p,0,none⟩),.int .i64 (id:Nat),.int .i64 7,.pointer (some ⟨T.p,0,none⟩),.int .i64 (-1),.int .i64 1,.pointer (some ⟨T.p,0,none⟩),.int .i64 (len1:Nat),.int .i64 1] 49)) pk (.cons (A:=tabA T2) pk (.cons (A:=tabA T) pk (.cons (A:=stoA T.s lv1 mm S) pk (.cons (A:=blk br (.cells #[.bool false] 4)) pk .nil))))))))))
  simp only [Exit.inBlock,Exit.then]
  go_wp2_with (first | refine sL ?_ | (refine sS ?_;clear H;intros;rename_i H))
  rw [rounds_succ]
  go_wp2_with (first | refine sL ?_ | (refine sS ?_;clear H;intros;rename_i H))
  refine bool_stepD H pk ?_
  intro _ H
  refine bool_stepD H pk ?_
  intro _ H
  refine bool_stepD H pk ?_
  intro _ H
  refine bool_stepD H pk ?_
  intro _ H
  refine bool_stepD H pk ?_
  intro _ H
  exact bool_end0 rfl H pk rfl fun h=>⟨rfl,h⟩
end
section
open Go.ChangeShapes Go.WideShapes Go.ChangeAt Go.RowKit Go.Deep
theorem ownK:ownKnob Tryz.prog.godebug = none:=by kernel_rfl
theorem i64_wf {x:Int} (h:(Lit.int .i64 x).wf = true):fits64 x:=by
 simp [Lit.wf,IntKind.min,IntKind.max,IntKind.signed,IntKind.bits] at h
 unfold fits64
 omega
theorem u8_wf {x:Int} (h:(Lit.int .u8 x).wf = true):∃ n:Nat,x = (n:Int)∧n < 256:=by
 simp [Lit.wf,IntKind.min,IntKind.max,IntKind.signed,IntKind.bits] at h
 exact ⟨x.toNat,by omega,by omega⟩
section
variable {H:Type} {enc:TypeId × Value→H} {w:World} {base:Nat} {spare:Nat→Bool} {held:Bool}
theorem open_row {α:Type} [Inhabited α] {ec:α→List Value} {k:Nat} (hk:∀ x,(ec x).length = k) (hk0:0 < k) {t e:TypeId} (ht:Tryz.prog.underlying t = some (.slice e)) (hc:Tryz.prog.cellsOf e = k) (Ok:α→Prop)
  (el:∀ n cs y,cs.length = k→DataW.trod enc Tryz.prog w base spare held n e cs = some y→∃ x,cs = ec x∧Ok x) {fuel:Nat} {cs:List Value} {x:DataW H × List MemPlace} (h:DataW.trod enc Tryz.prog w base spare held fuel t cs = some x) :
  ∃ (v:Value) (xs:List α) (P:PoolT),cs = [v]∧RowIn P ec k v xs∧(poolA P).ho w∧∀ x∈xs,Ok x:=by
 rcases open_slice ht h with ⟨hcs,_⟩ | ⟨a,len,cap,m,n,D,Pl,hcs,_,hl,hm,hmm,_,hx⟩
 ·exact ⟨_,[],[],hcs,RowIn.nil 0,poolA_nil w,by simp⟩
 ·have hml:len≤m:=by rw [hmm];split <;> omega
  rw [hc] at hx
  by_cases h0:len = 0
  ·subst h0
   exact ⟨_,[],[],hcs,⟨some a,cap,rfl,by simp,fun h=>by simp at h⟩,poolA_nil w,by simp⟩
  obtain ⟨b,o,spot⟩:=a
  have key:∀ i,i < len→∃ x:α,w.cells? base ((⟨b,o,spot⟩:Addr).add (i * k)) k = some (ec x)∧Ok x:=fun i hi=>by
   obtain ⟨cs',h1,h2⟩:=hx i (by omega)
   obtain ⟨x,rfl,hok⟩:=el _ _ _ (World.cells?_some h1).2.1 h2
   exact ⟨x,h1,hok⟩
  obtain ⟨f,hf2⟩:=choose_lt (α:=α) key
  have hcell:∀ i,i < len→∀ j u,(ec (f i))[j]? = some u→w.cell? (((⟨b,o,spot⟩:Addr).add (i * k)).add j) = some u:=fun i hi j u hj=>by
   have hj4:j < k:=by have:=(List.getElem?_eq_some_iff.1 hj).1;rwa [hk] at this
   have:=(World.cells?_some (hf2 i hi).1).2.2 j hj4
   rw [this,hj]
  have hl4:0 < (ec (f 0)).length:=by rw [hk];omega
  have hspot:spot = none:=by
   have:=World.cell?_spot (hcell 0 (by omega) 0 _ (List.getElem?_eq_getElem hl4))
   simpa [Addr.add] using this
  subst hspot
  have hadd:∀ i j,((⟨b,o,none⟩:Addr).add (i * k)).add j = ⟨b,o + (i * k + j),none⟩:=fun i j=>by rw [Addr.add_mid,Addr.add_mid];congr 1;omega
  have hblk:b < w.heap.size:=by
   have:=block_lt_of_cell (hcell 0 (by omega) 0 _ (List.getElem?_eq_getElem hl4))
   rw [hadd] at this
   exact this
  unfold maxLen at hm
  have hlen:((List.range len).map f).length = len:=by simp
  refine ⟨_,(List.range len).map f,[(b,o,flatG ec ((List.range len).map f))],hcs,⟨some ⟨b,o,none⟩,cap,by rw [hlen],by rw [hlen];unfold maxLen;omega,fun _=>⟨b,o,rfl,by simp⟩⟩,?_,?_⟩
  ·rw [poolA_ho]
   intro y hy
   simp only [List.mem_singleton] at hy
   subst hy
   refine ⟨hblk,fun jj u hj=>?_⟩
   have hjl:=getElem_len hj
   rw [flatG_len ec k hk,hlen] at hjl
   have hi:jj / k < len:=by rw [Nat.div_lt_iff_lt_mul hk0];exact hjl
   have hjk:jj % k < k:=Nat.mod_lt _ hk0
   have hget:((List.range len).map f)[jj / k]? = some (f (jj / k)):=by rw [List.getElem?_map,List.getElem?_range hi];rfl
   have hfl:=flatG_get ec k hk _ (jj / k) _ hget (jj % k) hjk
   have hdm:jj / k * k + jj % k = jj:=by have:=Nat.div_add_mod jj k;rw [Nat.mul_comm] at this;exact this
   rw [hdm,hj] at hfl
   have:=hcell (jj / k) hi (jj % k) u hfl.symm
   rw [hadd,hdm] at this
   exact this
  ·intro y hy
   obtain ⟨i,hi,rfl⟩:=List.mem_map.1 hy
   exact (hf2 i (List.mem_range.1 hi)).2
theorem open_ints_row {t e:TypeId} (ht:Tryz.prog.underlying t = some (.slice e)) (he:Tryz.prog.underlying e = some (.int .i64)) (hc:Tryz.prog.cellsOf e = 1) {fuel:Nat} {cs:List Value} {x:DataW H × List MemPlace} (h:DataW.trod enc Tryz.prog w base spare held fuel t cs = some x) :
  ∃ (v:Value) (xs:List Int) (P:PoolT),cs = [v]∧RowIn P encZ 1 v xs∧(poolA P).ho w∧∀ x∈xs,fits64 x :=
 open_row encZ_len (by omega) ht hc fits64 (fun n cs y hl hy=>by
  obtain ⟨z,rfl,_,hz⟩:=DataW.trod_int he hy
  exact ⟨z,rfl,i64_wf hz⟩) h
theorem rows_all {rvs:List Value} (h:∀ v∈rvs,∃ (xs:List Int) (P:PoolT),RowIn P encZ 1 v xs∧(poolA P).ho w) :
  ∃ (nx:List (List Int)) (P:PoolT),rvs.length = nx.length∧(∀ (i:Nat) (rv:Value) (r:List Int),rvs[i]? = some rv→nx[i]? = some r→RowIn P encZ 1 rv r)∧(poolA P).ho w:=by
 induction rvs with
 |nil=>exact ⟨[],[],rfl,fun i rv r h=>by simp at h,poolA_nil w⟩
 |cons v rvs ih =>
  obtain ⟨nx,P,h1,h2,h3⟩:=ih fun u hu=>h u (by simp [hu])
  obtain ⟨xs,Q,h4,h5⟩:=h v (by simp)
  refine ⟨xs :: nx,Q ++ P,by simp [h1],fun i rv r hr hn=>?_,poolA_append h5 h3⟩
  cases i with
  |zero =>
   simp at hr hn
   subst hr hn
   exact h4.mono fun x hx=>List.mem_append.2 (.inl hx)
  |succ i =>
   simp at hr hn
   exact (h2 i rv r hr hn).mono fun x hx=>List.mem_append.2 (.inr hx)
instance:Inhabited Mk:=⟨⟨0,0,0,0,0⟩⟩
instance:Inhabited Value:=⟨.nilIface⟩
theorem take5 {α:Type} {cs:List α} (h:cs.length = 5):∃ a b c d e,cs = [a,b,c,d,e]:=by
 match cs,h with
 |[a,b,c,d,e],_=>exact ⟨a,b,c,d,e,rfl⟩
theorem open_make {n:Nat} {cs:List Value} {y:DataW H × List MemPlace} (hl:cs.length = 5) (h:DataW.trod enc Tryz.prog w base spare held n 118 cs = some y):∃ m:Mk,cs = mkL m∧m.Fits:=by
 obtain ⟨a,b,c,d,e,rfl⟩:=take5 hl
 obtain ⟨xs,k,_,_,_,hxl,hf⟩:=DataW.trod_struct Tryz.underlying118 h
 have c3:Tryz.prog.cellsOf 3 = 1:=by kernel_rfl
 have c5:Tryz.prog.cellsOf 5 = 1:=by kernel_rfl
 have get:∀ i,i < 5→∃ y,xs[i]? = some y:=fun i hi=>⟨xs[i]'(by rw [hxl];exact hi),List.getElem?_eq_getElem _⟩
 obtain ⟨y0,g0⟩:=get 0 (by omega)
 obtain ⟨y1,g1⟩:=get 1 (by omega)
 obtain ⟨y2,g2⟩:=get 2 (by omega)
 obtain ⟨y3,g3⟩:=get 3 (by omega)
 obtain ⟨y4,g4⟩:=get 4 (by omega)
 have f0:DataW.trod enc Tryz.prog w base spare held k 3 ((([a,b,c,d,e]:List Value).drop 0).take (Tryz.prog.cellsOf 3)) = some y0:=(hf 0 _ rfl).trans g0
 rw [c3] at f0
 have f1:DataW.trod enc Tryz.prog w base spare held k 5 ((([a,b,c,d,e]:List Value).drop 1).take (Tryz.prog.cellsOf 5)) = some y1:=(hf 1 _ rfl).trans g1
 rw [c5] at f1
 have f2:DataW.trod enc Tryz.prog w base spare held k 3 ((([a,b,c,d,e]:List Value).drop 2).take (Tryz.prog.cellsOf 3)) = some y2:=(hf 2 _ rfl).trans g2
 rw [c3] at f2
 have f3:DataW.trod enc Tryz.prog w base spare held k 3 ((([a,b,c,d,e]:List Value).drop 3).take (Tryz.prog.cellsOf 3)) = some y3:=(hf 3 _ rfl).trans g3
 rw [c3] at f3
 have f4:DataW.trod enc Tryz.prog w base spare held k 3 ((([a,b,c,d,e]:List Value).drop 4).take (Tryz.prog.cellsOf 3)) = some y4:=(hf 4 _ rfl).trans g4
 rw [c3] at f4
 obtain ⟨z0,e0,_,w0⟩:=DataW.trod_int Tryz.underlying3 f0
 obtain ⟨z1,e1,_,w1⟩:=DataW.trod_int Tryz.underlying5 f1
 obtain ⟨z2,e2,_,w2⟩:=DataW.trod_int Tryz.underlying3 f2
 obtain ⟨z3,e3,_,w3⟩:=DataW.trod_int Tryz.underlying3 f3
 obtain ⟨z4,e4,_,w4⟩:=DataW.trod_int Tryz.underlying3 f4
 simp only [List.drop_zero,List.take_succ_cons,List.take_zero,List.drop_succ_cons,List.cons.injEq,and_true] at e0 e1 e2 e3 e4
 obtain ⟨l,rfl,hl8⟩:=u8_wf w1
 subst e0 e1 e2 e3 e4
 exact ⟨⟨z0,l,z2,z3,z4⟩,rfl,⟨i64_wf w0,hl8,i64_wf w2,i64_wf w3,i64_wf w4⟩⟩
theorem open_input {fuel:Nat} {cs:List Value} {x:DataW H × List MemPlace} (h:DataW.trod enc Tryz.prog w base spare held fuel 29 cs = some x) :
  ∃ (P:PoolT) (cv nv av hv lv:Value) (rvs:List Value) (R:Raw) (ms:List Mk) (N:Int),cs = [.int .i64 R.start,cv,nv,av,hv,lv,.int .i64 N]∧RawAt P cv nv av hv rvs R∧RowIn P mkL 5 lv ms∧(∀ m∈ms,m.Fits)∧fits64 R.start∧fits64 N∧(poolA P).ho w:=by
 have c29:Tryz.prog.cellsOf 29 = 7:=by kernel_rfl
 have c26:Tryz.prog.cellsOf 26 = 4:=by kernel_rfl
 have c22:Tryz.prog.cellsOf 22 = 1:=by kernel_rfl
 have c23:Tryz.prog.cellsOf 23 = 1:=by kernel_rfl
 have c24:Tryz.prog.cellsOf 24 = 1:=by kernel_rfl
 have c27:Tryz.prog.cellsOf 27 = 1:=by kernel_rfl
 have c3:Tryz.prog.cellsOf 3 = 1:=by kernel_rfl
 have c4:Tryz.prog.cellsOf 4 = 1:=by kernel_rfl
 have c115:Tryz.prog.cellsOf 118 = 5:=by kernel_rfl
 obtain ⟨y0,y1,y2,y3,n,_,hl,f0,f1,f2,f3⟩:=Joins.trod_struct4 Tryz.underlying29 h
 rw [c29] at hl
 obtain ⟨a0,a1,a2,a3,a4,a5,a6,rfl⟩:∃ a0 a1 a2 a3 a4 a5 a6,cs = [a0,a1,a2,a3,a4,a5,a6]:=by
  match cs,hl with
  |[a0,a1,a2,a3,a4,a5,a6],_=>exact ⟨a0,a1,a2,a3,a4,a5,a6,rfl⟩
 simp only [c26,c22,c27,c3,List.drop_zero,List.take_succ_cons,List.take_zero,List.drop_succ_cons] at f0 f1 f2 f3
 obtain ⟨z0,z1,z2,z3,n2,_,_,g0,g1,g2,g3⟩:=Joins.trod_struct4 Tryz.underlying26 f0
 simp only [c22,c23,c24,c3,List.drop_zero,List.take_succ_cons,List.take_zero,List.drop_succ_cons] at g0 g1 g2 g3
 obtain ⟨st,e0,_,w0⟩:=DataW.trod_int Tryz.underlying3 g0
 obtain ⟨N,e6,_,w6⟩:=DataW.trod_int Tryz.underlying3 f3
 obtain ⟨cv,cls,P1,e1,r1,p1,_⟩:=open_ints_row Tryz.underlying22 Tryz.underlying3 c3 g1
 obtain ⟨nv,rvs,P2,e2,r2,p2,hrv⟩:=open_row (ec:=encV) encV_len (by omega) Tryz.underlying23 c22 (fun v=>∃ (xs:List Int) (P:PoolT),RowIn P encZ 1 v xs∧(poolA P).ho w) (fun n cs y hl hy=>by
  obtain ⟨v,xs,P,rfl,hr,hp,_⟩:=open_ints_row Tryz.underlying22 Tryz.underlying3 c3 hy
  exact ⟨v,rfl,xs,P,hr,hp⟩) g2
 obtain ⟨av,acc,P3,e3,r3,p3,_⟩:=open_row (ec:=encB) encB_len (by omega) Tryz.underlying24 c4 (fun _=>True) (fun n cs y hl hy=>by
  obtain ⟨b,rfl,_⟩:=DataW.trod_bool Tryz.underlying4 hy
  exact ⟨b,rfl,trivial⟩) g3
 obtain ⟨hv,wts,P4,e4,r4,p4,_⟩:=open_ints_row Tryz.underlying22 Tryz.underlying3 c3 f1
 obtain ⟨lv,ms,P5,e5,r5,p5,hms⟩:=open_row (ec:=mkL) mkL_len (by omega) Tryz.underlying27 c115 Mk.Fits (fun n cs y hl hy=>open_make hl hy) f2
 obtain ⟨nx,P6,hlen,hrows,p6⟩:=rows_all hrv
 simp only [List.cons.injEq,and_true] at e0 e1 e2 e3 e4 e5 e6
 subst e0 e1 e2 e3 e4 e5 e6
 have i1:∀ x∈P1,x∈P1 ++ (P2 ++ (P3 ++ (P4 ++ (P5 ++ P6)))):=fun x hx=>by simp [hx]
 have i2:∀ x∈P2,x∈P1 ++ (P2 ++ (P3 ++ (P4 ++ (P5 ++ P6)))):=fun x hx=>by simp [hx]
 have i3:∀ x∈P3,x∈P1 ++ (P2 ++ (P3 ++ (P4 ++ (P5 ++ P6)))):=fun x hx=>by simp [hx]
 have i4:∀ x∈P4,x∈P1 ++ (P2 ++ (P3 ++ (P4 ++ (P5 ++ P6)))):=fun x hx=>by simp [hx]
 have i5:∀ x∈P5,x∈P1 ++ (P2 ++ (P3 ++ (P4 ++ (P5 ++ P6)))):=fun x hx=>by simp [hx]
 have i6:∀ x∈P6,x∈P1 ++ (P2 ++ (P3 ++ (P4 ++ (P5 ++ P6)))):=fun x hx=>by simp [hx]
 exact ⟨P1 ++ (P2 ++ (P3 ++ (P4 ++ (P5 ++ P6)))),_,_,_,_,_,rvs,⟨st,cls,nx,acc,wts⟩,ms,N,rfl,⟨r1.mono i1,r2.mono i2,hlen,fun i rv r h1 h2=>(hrows i rv r h1 h2).mono i6,r3.mono i3,r4.mono i4⟩,r5.mono i5,hms,i64_wf w0,i64_wf w6,poolA_append p1 (poolA_append p2 (poolA_append p3 (poolA_append p4 (poolA_append p5 p6))))⟩
theorem arg_input {r:Reach} {b0:Nat} {v:Value} {d:DataW H} {p:List MemPlace} (hv:Value.okWide Tryz.prog w r b0 29 v) (h:DataW.Trod enc Tryz.prog w base spare held 29 v d p) :
  ∃ (P:PoolT) (cv nv av hv lv:Value) (rvs:List Value) (R:Raw) (ms:List Mk) (N:Int),v = .agg #[.int .i64 R.start,cv,nv,av,hv,lv,.int .i64 N]∧RawAt P cv nv av hv rvs R∧RowIn P mkL 5 lv ms∧(∀ m∈ms,m.Fits)∧fits64 R.start∧fits64 N∧(poolA P).ho w:=by
 obtain ⟨cs,rfl,_⟩:=okWide_struct Tryz.underlying29 hv
 obtain ⟨fuel,hf⟩:=h
 obtain ⟨P,cv,nv,av,hv',lv,rvs,R,ms,N,e,h1⟩:=open_input hf
 refine ⟨P,cv,nv,av,hv',lv,rvs,R,ms,N,?_,h1⟩
 have e2:cs.toList = [.int .i64 R.start,cv,nv,av,hv',lv,.int .i64 N]:=e
 rw [← e2]
theorem arg_int {r:Reach} {b0:Nat} {v:Value} {d:DataW H} {p:List MemPlace} (hv:Value.okWide Tryz.prog w r b0 3 v) (h:DataW.Trod enc Tryz.prog w base spare held 3 v d p):∃ z,v = .int .i64 z∧fits64 z:=by
 obtain ⟨z,rfl,h1,h2,h3⟩:=open_int Tryz.underlying3 hv h
 exact ⟨z,rfl,i64_wf h3⟩
end
end
end Go.Proofs.YtijnhpaafhcndaaGreat
section
namespace Go.Proofs.YtijnhpaafhcndaaGreat.lawErrors
open Go.ChangeShapes Go.WideShapes Go.ChangeAt Go.RowKit
open Go.Proofs.YtijnhpaafhcndaaGreat
set_option linter.unusedVariables false
set_option maxRecDepth 100000 in
theorem lifted (os:Os) (started:os.Started) (H:Type) (enc:TypeId × Value→H) :
  ReturnsInHanded {} Tryz.checked os 4 .any (Rows.locateErrorsSpec.pre6 enc Tryz.prog Tryz.f4 Rows.locateErrorsRow.domain false) (Rows.locateErrorsSpec.post enc Tryz.prog Tryz.f4 false true false false):=by
 refine returnsInHanded_of_change (C:=Tryz.checked) ownK started (by kernel_rfl) Tryz.func4
  (ChangeSpec.witness6 (enc:=enc) (C:=Tryz.checked) false ⟨#[],#[.agg #[.int .i64 0,.slice none 0 0,.slice none 0 0,.slice none 0 0,.slice none 0 0,.slice none 0 0,.int .i64 0],.int .i64 0],[]⟩ 8 (by kernel_rfl) (by kernel_rfl) (by kernel_rfl) (by kernel_rfl)) ?_
 intro W base args ds gs before hval0 hW hcnd _
 have hval:∀ (j:Nat) t v,Tryz.f4.params[j]? = some t→args[j]? = some v→Value.okWide Tryz.prog W .any base t v:=hval0
 have hW':=hW
 obtain ⟨p,q,hA0,hV,rfl,hfz,hnd⟩:=hW
 have hA:DataW.TrodAll enc Tryz.prog W 0 (fun _=>true) true Tryz.f4.params.toList args.toList ds p:=hA0
 rw [Tryz.params4] at hA hval
 obtain ⟨v0,vs0,d0,ds0,p0,q0,hargs,rfl,rfl,h0,r0⟩:=trodAll_cons hA
 obtain ⟨v1,vs1,d1,ds1,p1,q1,rfl,rfl,rfl,h1,r1⟩:=trodAll_cons r0
 obtain ⟨rfl,rfl,rfl⟩:=trodAll_nil r1
 obtain rfl:args = #[v0,v1]:=by cases args;simp_all
 obtain ⟨rfl,rfl⟩:=trodVars_none hV
 have k0:=h0
 have lt0:∀ x∈p0,x.block < W.heap.size:=by obtain ⟨m,hm⟩:=k0;exact DataW.trod_lt m _ _ _ hm
 have k1:=h1
 have lt1:∀ x∈p1,x.block < W.heap.size:=by obtain ⟨m,hm⟩:=k1;exact DataW.trod_lt m _ _ _ hm
 obtain ⟨P,cv,nv,av,hv,lv,rvs,R,ms,N,rfl,hraw,hms,hf,hs,hN,hp⟩:=arg_input (hval 0 29 v0 rfl rfl) h0
 obtain ⟨z1,rfl,b1⟩:=arg_int (hval 1 3 v1 rfl rfl) h1
 clear hA0 hval0
 refine (errors_walk hraw hms hf hs hN b1 W hp).mono fun e W' ⟨he,bel⟩=>?_
 subst he
 exact ⟨_,rfl,_,_,_,[],_,[],hW',trodAll_mk1 (shut_bool Tryz.underlying4 _),(trodAll_cons_mk (Below.trod laidOut_ok (by kernel_rfl) (of_decide_eq_true (by kernel_rfl)) k0 bel.below lt0) (trodAll_cons_mk (Below.trod laidOut_ok (by kernel_rfl) (of_decide_eq_true (by kernel_rfl)) k1 bel.below lt1) trodAll_mk0)),rfl,bel.below.frame _,fun h=>by cases h⟩
theorem over:Rows.locateErrorsRow.holds Tryz.pinned (OpenSpec.ofChange Rows.locateErrorsSpec) :=
 OpenClaim.holds_of_wide 4 Tryz.f4 rfl rfl rfl rfl rfl rfl rfl ⟨rfl,rfl,rfl,rfl,rfl⟩ rfl rfl rfl rfl rfl (by kernel_rfl) Tryz.func4 (by kernel_rfl)
  (of_decide_eq_true (by kernel_rfl)) (by unfold Func.isWrapper;first | (rw [if_pos (by decide +kernel)];kernel_rfl) | (rw [if_neg (by decide +kernel)];exact ⟨rfl,rfl⟩))
  (fun os started H enc _=>lifted os started H enc)
theorem proved:Rows.LocateErrorsSaid:=over
#print axioms proved
end Go.Proofs.YtijnhpaafhcndaaGreat.lawErrors
end
namespace Go.Proofs.YtijnhpaafhcndaaGreat
end Go.Proofs.YtijnhpaafhcndaaGreat
