/-
  Part 2 of the texts behind the statements of this seat: walks and laws Wm, Wd, Wl, Wv, Wx, Wp, Is, Ik, If, Ig, Il, Im, Aa, Ab, Ac, Ad, Bd, Tz, Ba, Bb, Bc, Be, Bf. Conditions: as each states.
-/
import Derived.Test.YtgnppnokkdghcaaGreatDoorAz1
import Derived.Ground.Names7Prog
import Derived.Laws.Bits64b
import Derived.Laws.BitsAllLaws
import Derived.Laws.Small
import Derived.OwnWalk
import Derived.Shelf.Spec.TrailingZeros
import Derived.WalkSpells
set_option linter.unusedSimpArgs false
set_option linter.unusedVariables false
set_option maxRecDepth 100000
set_option maxHeartbeats 80000000
open Array renaming getElem?_eq_some_iff→yV
open Bool renaming and_eq_true→zu,false_eq_true→xA,not_eq_true'→Zv
open Go.Proofs.Tryz renaming func108→YV,func185→j4,func188→X9,func43→vJ,func70→kx,ntmps108→QN,ntmps185→wF,ntmps188→QS,ntmps43→ve,ntmps70→jM,prog→zb,underlying76→xv
open Int renaming natCast_mul→Yl,tmod_eq_emod_of_nonneg→jz
open List renaming Perm→wg,append_assoc→zQ,append_nil→qO,cons→Zq,cons_append→zo,drop_eq_getElem_cons→yj,drop_of_length_le→yo,drop_succ_cons→wQ,drop_zero→yw,eq_nil_of_length_eq_zero→qe,eq_of_mem_replicate→xy,flatMap_append→zI,flatMap_cons→zt,flatMap_nil→wW,flatMap_replicate→jc,foldl_cons→zB,foldl_nil→zx,getD_eq_getElem?_getD→Zn,getElem?_append→yS,getElem?_append_left→qv,getElem?_eq_some_iff→xB,getElem?_replicate→x4,getLast?_append→xu,length→ym,length_append→zi,length_cons→zw,length_map→qd,length_set→wo,length_singleton→qP,length_take→qg,map_append→xH,map_cons→zX,map_nil→ye,map_replicate→Qa,mem_cons→zL,mem_cons_self→zN,mem_map→qY,mem_of_getElem?→zy,mem_of_getLast?→vq,mem_range→zJ,mem_replicate→wq,nil_append→zv,pairwise_cons→qu,range→zk,replicate→zd,replicate_succ→zS,replicate_succ'→xG,setIfInBounds_toArray→zf,set_cons_succ→zp,set_cons_zero→zq,sum_replicate_nat→Xz,take_add_one→x5,take_zero→jA
open Nat renaming add_assoc→wA,add_mul→xl,add_sub_cancel→xC,eq_zero_or_pos→qk,exists_eq_succ_of_ne_zero→zA,le_mul_of_pos_left→wY,le_mul_of_pos_right→jg,le_of_ble_eq_true→QJ,le_of_not_lt→kQ,le_refl→zr,le_trans→qs,lt_of_lt_of_le→jN,lt_of_not_le→vD,lt_trans→ZA,min_eq_left→kF,mod_eq_of_lt→xI,mod_lt→qM,mul_assoc→Zo,mul_comm→xO,mul_le_mul→ZB,mul_le_mul_right→y9,mul_mod→Yo,ne_of_gt→jO,one_mul→QK,one_pos→Qn,strongRecOn→yJ,succ_eq_add_one→J9,succ_mul→XX,testBit_eq_decide_div_mod_eq→jP,testBit_mul_two_pow→Zr,zero_add→qQ,zero_le→qy,zero_mul→QM
open Option renaming some→yk
namespace Go.Proofs.YtgnppnokkdghcaaGreatDoor
section
open Go.RowKit
theorem same {P:Program} {f:FuncId} {args:Array Value} {w:World} {v:Ending} {Q:Ending->World->Prop} (h:Calls P f args w fun e w'=>e=v∧w'=w) (hq:Q v w):Calls P f args w Q :=
 h.mono (by rintro e w' ⟨rfl,rfl⟩;exact hq)
theorem and61 (a:Nat) (ha:a<18446744073709551616):bits .and .u64 (a:Int) 2305843009213693951=((a%2305843009213693952:Nat):Int):=by
 have h:=bits_and_u64_nat a 2305843009213693951 ha (by omega);have e:a &&& 2305843009213693951=a%2305843009213693952:=Nat.and_two_pow_sub_one_eq_mod a 61;rw [e] at h;exact h
theorem kX (x:Nat) (z:Int) (hz:z=x) (hx:x<18446744073709551616) (w:World) :
  Calls zb 154 #[.int .u64 z] w fun e w'=>e=.returned (.int .u64 (x%PP:Nat))∧w'=w:=by
 subst hz;go_enter Tryz.func154,Tryz.ntmps154;have HA:=and61 x hx;rw [← mod_PP x hx];by_cases h:2305843009213693951<=x%2305843009213693952+x/2305843009213693952
 ·rw [if_pos h];have h':(2305843009213693951:Int)<=↑x%2305843009213693952 + ↑x/2305843009213693952:=(by omega);have hd:decide ((2305843009213693951:Int)<=↑x%2305843009213693952 + ↑x/2305843009213693952)=true:=decide_eq_true h';have H:=zh h;clear h
  go_wp2
  go_ret;exact ⟨congrArg Ending.returned (congrArg (Value.int .u64) (by have:=H.out;omega)),rfl⟩
 ·rw [if_neg h];have h':¬ (2305843009213693951:Int)<=↑x%2305843009213693952 + ↑x/2305843009213693952:=(by omega);have hd:decide ((2305843009213693951:Int)<=↑x%2305843009213693952 + ↑x/2305843009213693952)=false:=decide_eq_false h';clear h
  go_wp2
  go_ret;exact ⟨congrArg Ending.returned (congrArg (Value.int .u64) (by omega)),rfl⟩
theorem YT (x:Nat):x%PP<2305843009213693951:=by
 have:=qM x (show 0<PP by rw [YS];omega);rw [YS] at this ⊢;exact this
theorem add_c (a b:Nat) (ha:a<18446744073709551616) (hb:b<18446744073709551616) (w:World) :
  Calls zb 134 #[.int .u64 a,.int .u64 b] w fun e w'=>e=.returned (.int .u64 ((a+b)%PP:Nat))∧w'=w:=by
 have HA:=zh (YT a);have HB:=zh (YT b);have H1:=zh ha;have H2:=zh hb;clear ha hb;obtain ⟨r,hr⟩:∃ r,r=(a+b)%PP:=⟨_,rfl⟩
 rw [← hr];rw [Nat.add_mod a b PP] at hr;have HR:=zh hr;clear hr;go_enter Tryz.func134,Tryz.ntmps134;go_wp2_with fail;refine same (kX a _ rfl H1.out _) ?_;generalize a%PP=x at HA HR ⊢;go_wp2_with fail;refine same (kX b _ rfl H2.out _) ?_;generalize b%PP=y at HB HR ⊢;have hA:=HA.out;have hB:=HB.out;go_wp2_with fail;refine same (kX (x+y) _ (by omega) (by omega) _) ?_;rw [← HR.out];go_wp2_with fail;go_ret;exact ⟨rfl,rfl⟩
theorem JH (a b:Nat) (ha:a<18446744073709551616) (hb:b<18446744073709551616) (w:World) :
  Calls zb 135 #[.int .u64 a,.int .u64 b] w fun e w'=>e=.returned (.int .u64 (a*b%PP:Nat))∧w'=w:=by
 have HA:=zh (YT a);have HB:=zh (YT b);have H1:=zh ha;have H2:=zh hb;clear ha hb;obtain ⟨r,hr⟩:∃ r,r=a*b%PP:=⟨_,rfl⟩
 rw [← hr];rw [Yo a b PP,← mul_PP] at hr;have HR:=zh hr;clear hr;go_enter Tryz.func135,Tryz.ntmps135;go_wp2_with fail;refine same (kX a _ rfl H1.out _) ?_;generalize a%PP=x at HA HR ⊢;go_wp2_with fail;refine same (kX b _ rfl H2.out _) ?_;generalize b%PP=y at HB HR ⊢;go_wp2_with fail;have hA:=HA.out;have hB:=HB.out;clear HA HB;refine same (Tryz.bits_Mul64 x y (by omega) (by omega) _) ?_;have hlt:x*y<5316911983139663491615228241121378304:=by
  have:x*y<=2305843009213693950*2305843009213693950:=ZB (by omega) (by omega);omega
 generalize x*y=m at hlt HR ⊢;have hi:m/18446744073709551616<288230376151711744:=(by omega);have lo:m%18446744073709551616<18446744073709551616:=(by omega);generalize m/18446744073709551616=h at hi HR ⊢;generalize m%18446744073709551616=l at lo HR ⊢;clear hlt hA hB;have HA:=and61 l lo;go_wp2_with fail;refine same (kX (h*8+l/2305843009213693952+l%2305843009213693952) _ (by omega) (by omega) _) ?_;rw [← HR.out];go_wp2_with fail;go_ret;exact ⟨rfl,rfl⟩
theorem ZN:1<PP:=by rw [YS];omega
theorem vZ {x:Nat} (h:x<PP):x<18446744073709551616:=by rw [YS] at h;omega
theorem pow_c (a n:Nat) (z:Int) (hz:z=n) (ha:a<18446744073709551616) (hn:n<18446744073709551616) (w:World) :
  Calls zb 133 #[.int .u64 a,.int .u64 z] w fun e w'=>e=.returned (.int .u64 (a ^ n%PP:Nat))∧w'=w:=by
 subst hz;have H1:=zh ha;have H2:=zh hn;clear ha hn;obtain ⟨r,hr⟩:∃ r,r=a ^ n%PP:=⟨_,rfl⟩
 rw [← hr];have HR:=zh hr;clear hr;go_enter Tryz.func133,Tryz.ntmps133;go_wp2_with fail;refine same (kX a _ rfl H1.out _) ?_;have HP:Hid (jf 1 (a%PP) n=r∧a%PP<PP):=zh ⟨by rw [VK _ _ _ ZN,HR.out,QK,← Nat.pow_mod],qM _ (ZA Qn ZN)⟩;generalize a%PP=x at HP ⊢;clear HR H1;go_wp2_with fail
 go_loopw [0,1,5] (fun va vn vr wr=>∃ a n q:Nat,va=.int .u64 a∧vn=.int .u64 n∧vr=.int .u64 q∧jf q a n=r∧a<PP∧q<PP∧n<18446744073709551616∧wr=w) (fun _ vn _ _=>(intOf vn).toNat)
 case atStart=>exact ⟨x,n,1,rfl,rfl,rfl,HP.out.1,HP.out.2,ZN,H2.out,rfl⟩
 case round =>
  obtain ⟨a,n,q,rfl,rfl,rfl,hp,ha,hq,hn,rfl⟩:=hrel;clear HP H2
  match n with
  |0 =>
   have h1:q=r:=(by simpa [jf] using hp);subst h1;clear hp ha hq hn;go_wp2_with fail;go_ret;exact ⟨rfl,rfl⟩
  |n+1 =>
   have h0:0<n+1:=(by omega);rw [jf] at hp;have hr1:=qM (q*a) (ZA Qn ZN);have hr2:=qM (a*a) (ZA Qn ZN);have hpos:n+1<18446744073709551616:=hn;generalize n+1=m at *;by_cases hodd:m%2=1
   ·rw [if_pos hodd] at hp;have H:=zh (za hp (za ha (za hq (za hr1 hr2))));clear hp ha hq hr1 hr2;go_wp2_with fail;refine same (JH q a (vZ H.out.2.2.1) (vZ H.out.2.1) _) ?_;generalize q*a%PP=qa at H ⊢;go_wp2_with fail;refine same (JH a a (vZ H.out.2.1) (vZ H.out.2.1) _) ?_;generalize a*a%PP=aa at H ⊢;go_wp2_with fail
    go_roundw
    case rel=>exact ⟨aa,m/2,qa,rfl,rfl,rfl,H.out.1,H.out.2.2.2.2,H.out.2.2.2.1,by omega,trivial⟩
    case measure=>simp [intOf];omega
   ·rw [if_neg hodd] at hp;have H:=zh (za hp (za ha (za hq (za hr1 hr2))));clear hp ha hq hr1 hr2;go_wp2_with fail;refine same (JH a a (vZ H.out.2.1) (vZ H.out.2.1) _) ?_;generalize a*a%PP=aa at H ⊢;go_wp2_with fail
    go_roundw
    case rel=>exact ⟨aa,m/2,q,rfl,rfl,rfl,H.out.1,H.out.2.2.2.2,H.out.2.2.1,by omega,trivial⟩
    case measure=>simp [intOf];omega
end
section
open Go.RowKit
def DV (v s:Nat):Array Value:=#[.int .u64 v,.int .u64 s]
def jv (va vb sb:Nat):Nat:=(va*sb%PP+vb)%PP
def js (sa sb:Nat):Nat:=sa*sb%PP
theorem dunit_c (w:World):Calls zb 132 #[] w fun e w'=>e=.returned (.agg (DV 0 1))∧Below w.heap.size w w':=by
 go_enter Tryz.func132,Tryz.ntmps132;go_wp2_with fail;exact bodyPost_ret (v:=.agg (DV 0 1)) (by simp [results,Tryz.results132,go_sem,DV]) rfl ⟨rfl,(Below.refl _ _).alloc (zr _) _⟩
theorem mul_r (a b r:Nat) (hr:r=a*b%PP) (ha:a<18446744073709551616) (hb:b<18446744073709551616) (w:World) :
  Calls zb 135 #[.int .u64 a,.int .u64 b] w fun e w'=>e=.returned (.int .u64 r)∧w'=w:=by subst hr;exact JH a b ha hb w
theorem add_r (a b r:Nat) (hr:r=(a+b)%PP) (ha:a<18446744073709551616) (hb:b<18446744073709551616) (w:World) :
  Calls zb 134 #[.int .u64 a,.int .u64 b] w fun e w'=>e=.returned (.int .u64 r)∧w'=w:=by subst hr;exact add_c a b ha hb w
theorem vS (x:Nat):x%PP<18446744073709551616:=vZ (qM _ (ZA Qn ZN))
theorem XD (va sa vb sb:Nat) (h1:va<18446744073709551616) (h2:sa<18446744073709551616) (h3:vb<18446744073709551616) (h4:sb<18446744073709551616) (w:World) :
  Calls zb 109 #[.agg (DV va sa),.agg (DV vb sb)] w fun e w'=>e=.returned (.agg (DV (jv va vb sb) (js sa sb)))∧Below w.heap.size w w':=by
 obtain ⟨x,hx⟩:∃ x,x=va*sb%PP:=⟨_,rfl⟩
 obtain ⟨y,hy⟩:∃ y,y=jv va vb sb:=⟨_,rfl⟩
 obtain ⟨z,hz⟩:∃ z,z=js sa sb:=⟨_,rfl⟩
 rw [← hy,← hz];have H:=zh (za h1 (za h2 (za h3 h4)));have HX:=zh hx;have HY:Hid (y=(x+vb)%PP):=zh (by rw [hy,hx];rfl);have HZ:Hid (z=sa*sb%PP):=zh hz;have HX2:Hid (x<18446744073709551616):=zh (by rw [hx];exact vS _);clear h1 h2 h3 h4 hx hy hz;go_enter Tryz.func109,Tryz.ntmps109;unfold DV;go_wp2_with fail;generalize hW:World.alloc _ _=W;refine KY 14 (by kernel_rfl) (by kernel_rfl) (fun w'=>∃ n,w'=W.drewN n) ⟨1,rfl⟩ ?_;simp only [List.take_succ_cons,jA,wQ,yw];subst hW;repeat (go_big_quiet_step (first|(go_at_call_of 135 (Value.int .u64 (va:Int));exact Calls.quiet_of_same (mul_r va sb x HX.out H.out.1 H.out.2.2.2 _))|(go_at_call_of 135 (Value.int .u64 (sa:Int));exact Calls.quiet_of_same (mul_r sa sb z HZ.out H.out.2.1 H.out.2.2.2 _))|(go_at_call_of 134 (Value.int .u64 (x:Int));exact Calls.quiet_of_same (add_r x vb y HY.out HX2.out H.out.2.2.1 _))))
 refine wpQuiet_nil ?_;rintro _ ⟨nq,rfl⟩;go_wp2_with fail;exact bodyPost_ret (v:=.agg #[.int .u64 y,.int .u64 z]) (by simp [results,Tryz.results109,go_sem]) rfl ⟨rfl,(by (repeat (first|exact Below.refl _ _|assumption|refine Below.drew ?_|refine wH ?_ _|refine Below.alloc ?_ ?_ _|refine Below.setCell ?_ ?_ _)) <;> (simp <;> omega))⟩
theorem dletter_c (b:Nat) (hb:b<256) (w:World) :
  Calls zb 107 #[.int .u8 b] w fun e w'=>e=.returned (.agg (DV (b+1) 1103515245))∧Below w.heap.size w w':=by
 go_enter Tryz.func107,Tryz.ntmps107;go_wp2_with fail;exact bodyPost_ret (v:=.agg (DV (b+1) 1103515245)) (by simp [results,Tryz.results107,go_sem,DV]) rfl ⟨rfl,(by (repeat (first|exact Below.refl _ _|assumption|refine Below.drew ?_|refine wH ?_ _|refine Below.alloc ?_ ?_ _|refine Below.setCell ?_ ?_ _)) <;> (simp <;> omega))⟩
def j7 (rv rs dv ds:Nat):Nat->Nat×Nat
 |0=>(rv,rs)
 |k+1=>if (k+1)%2=1 then j7 (jv rv dv ds) (js rs ds) (jv dv dv ds) (js ds ds) ((k+1)/2) else j7 rv rs (jv dv dv ds) (js ds ds) ((k+1)/2)
decreasing_by all_goals omega
theorem z69 (w:World):(zeroValue 76).run zb w=.ok (.agg (DV 0 0)) w:=by unfold DV;kernel_rfl
theorem i69 (v s:Nat):(zb.info? 76).map (·.size)=some (DV v s).size:=by kernel_rfl
theorem jv_lt (a b c:Nat):jv a b c<18446744073709551616:=vS _
theorem js_lt (a b:Nat):js a b<18446744073709551616:=vS _
theorem XS (v s:Nat):(DV v s).all (·.oneCell')=true:=by simp [DV,Value.oneCell']
structure Dst (w0:World) (B c rv rs dv ds:Nat) (w:World):Prop where
 d:w.heap[B]?=some (.cells (DV dv ds) 76)
 z:w.heap[B+1]?=some (.cells (DV 0 0) 76)
 r:w.heap[c]?=some (.cells (DV rv rs) 76)
 below:Below B w0 w
 lt:B+1<c
theorem Dst.grew {w0:World} {B c rv rs dv ds:Nat} {w w':World} (h:Dst w0 B c rv rs dv ds w) (hb:Below w.heap.size w w'):Dst w0 B c rv rs dv ds w' :=
 ⟨xq hb h.d,xq hb h.z,xq hb h.r,h.below.trans (hb.mono (by have:=lt_of_block h.d;omega)),h.lt⟩
theorem Dst.putR {w0:World} {B c rv rs dv ds:Nat} {w:World} (h:Dst w0 B c rv rs dv ds w) (v s:Nat):Dst w0 B c v s dv ds (w.setRow c (DV v s)) :=
 ⟨(setRow_other w c B _ (by have:=h.lt;omega)).trans h.d,(setRow_other w c (B+1) _ (by have:=h.lt;omega)).trans h.z,setRow_heap w c _ _ _ _ h.r,Z0 h.below (by have:=h.lt;omega) _,h.lt⟩
theorem Dst.putD {w0:World} {B c rv rs dv ds:Nat} {w:World} (h:Dst w0 B c rv rs dv ds w) (v s:Nat):Dst w0 B c rv rs v s (w.setRow B (DV v s)) :=
 ⟨setRow_heap w B _ _ _ _ h.d,(setRow_other w B (B+1) _ (by omega)).trans h.z,(setRow_other w B c _ (by have:=h.lt;omega)).trans h.r,Z0 h.below (by omega) _,h.lt⟩
theorem drepeat_c (v s k:Nat) (z:Int) (hz:z=k) (h1:v<18446744073709551616) (h2:s<18446744073709551616) (hk:k<=9223372036854775807) (w:World) :
  Calls zb 129 #[.agg (DV v s),.int .i64 z] w fun e w'=>e=.returned (.agg (DV (j7 0 1 v s k).1 (j7 0 1 v s k).2))∧Below w.heap.size w w':=by
 subst hz;obtain ⟨B,hBB⟩:∃ B,B=w.heap.size:=⟨_,rfl⟩
 have H:=zh (za h1 (za h2 (za hk hBB)));clear h1 h2 hk hBB;obtain ⟨r,hr⟩:∃ r,r=j7 0 1 v s k:=⟨_,rfl⟩
 rw [← hr];have HR:=zh hr;clear hr;go_enter Tryz.func129,Tryz.ntmps129;go_wp2_with (refine vY rfl 76 rfl _ z69 ?_;simp only [Act.put,zf,zq,zp,World.size_alloc]);refine (dunit_c _).mono ?_;rintro e w1 ⟨rfl,hb⟩;have F2:=zh (xq hb ((kI _ _ w.heap.size (by simp)).trans (Vp w (.cells (DV v s) 76))));have F4:=zh (xq hb (Kw (w.alloc (.cells (DV v s) 76)) (.cells (DV 0 0) 76) (w.heap.size+1) (by simp)));have HB:=zh (Grew.trans (show Below w.heap.size w ((w.alloc (.cells (DV v s) 76)).alloc (.cells (DV 0 0) 76)) from (by (repeat (first|exact Below.refl _ _|assumption|refine Below.drew ?_|refine wH ?_ _|refine Below.alloc ?_ ?_ _|refine Below.setCell ?_ ?_ _)) <;> (simp <;> omega))) hb);have HL:=zh (show w.heap.size+1<w1.heap.size from by have:=hb.size;simp at this;omega);clear hb;rw [← H.out.2.2.2] at F2 F4 HL ⊢;go_wp2_with (first
  |(refine vY rfl 76 rfl _ z69 ?_;simp only [Act.put,zf,zq,zp,World.size_alloc])
  |(refine we rfl 76 _ _ rfl _ rfl _ rfl _ _ (Vp _ _) (i69 _ _) rfl (XS _ _) ?_;simp only [Act.put,KN _ _ _ _ _ rfl]))
 obtain ⟨c,hc⟩:∃ c,c=w1.heap.size:=⟨_,rfl⟩
 rw [← hc] at HL ⊢;have HC:=zh hc;clear hc
 go_loopw [1] (fun vk wr=>∃ k rv rs dv ds:Nat,vk=.int .i64 k∧j7 rv rs dv ds k=r∧(rv<18446744073709551616∧rs<18446744073709551616∧dv<18446744073709551616∧ds<18446744073709551616)∧k<=9223372036854775807 ∧
  Dst w B c rv rs dv ds wr) (fun vk _=>(intOf vk).toNat)
 case atStart =>
  refine ⟨k,0,1,v,s,rfl,HR.out.symm,⟨by omega,by omega,H.out.1,H.out.2.1⟩,H.out.2.2.1,?_,?_,?_,?_,?_⟩
  ·rw [kI _ _ _ (by have:=HL.out;have:=HC.out;omega)];exact F2.out
  ·rw [kI _ _ _ (by have:=HL.out;have:=HC.out;omega)];exact F4.out
  ·exact Kw _ _ _ HC.out
  ·have hB:Below w.heap.size w w1:=HB.out;rw [← H.out.2.2.2] at hB;exact hB.alloc (by have:=HL.out;have:=HC.out;omega) _
  ·exact HL.out
 case round =>
  obtain ⟨k,rv,rs,dv,ds,rfl,hp,hbd,hk,hg⟩:=hrel;have HG:=zh hg;have HBD:=zh hbd;clear F2 F4 HB HR hg hbd
  match k with
  |0 =>
   have hp':=hp;rw [j7] at hp';subst hp';clear hp hk;go_wp2_with (first
    |(refine wpList_load_row rfl 76 _ rfl _ rfl _ _ _ _ HG.out.r xv rfl (i69 _ _) ?_;simp only [Act.put,zf,zq,zp])
    |(refine we rfl 76 _ _ rfl _ rfl _ rfl _ _ HG.out.z (i69 _ _) rfl (XS _ _) ?_;simp only [Act.put]))
   refine bodyPost_ret (results_cell_row rfl _ _ _ _ _ _ _ rfl (setRow_heap wr (B+1) _ _ _ _ HG.out.z) xv rfl (i69 _ _)) rfl ⟨rfl,?_⟩;rw [← H.out.2.2.2];exact Z0 HG.out.below (by omega) _
  |k+1 =>
   rw [j7] at hp;have h0:0<k+1:=(by omega);have h1:k+1<=9223372036854775807:=hk;generalize k+1=m at *;by_cases hodd:m%2=1
   ·rw [if_pos hodd] at hp;have HP:=zh hp;clear hp;go_wp2_with (first|(refine wpList_load_row rfl 76 _ rfl _ rfl _ _ _ _ HG.out.d xv rfl (i69 _ _) ?_;simp only [Act.put,zf,zq,zp])|(refine wpList_load_row rfl 76 _ rfl _ rfl _ _ _ _ HG.out.r xv rfl (i69 _ _) ?_;simp only [Act.put,zf,zq,zp]));refine (XD rv rs dv ds HBD.out.1 HBD.out.2.1 HBD.out.2.2.1 HBD.out.2.2.2 _).mono ?_;rintro e w2 ⟨rfl,hb⟩;have HA:=zh ((HG.out.grew hb).putR (jv rv dv ds) (js rs ds));have HA':=zh (HG.out.grew hb);clear hb HG;go_wp2_with (first|(refine we rfl 76 _ _ rfl _ rfl _ rfl _ _ HA'.out.r (i69 _ _) rfl (XS _ _) ?_;simp only [Act.put])|(refine wpList_load_row rfl 76 _ rfl _ rfl _ _ _ _ HA.out.d xv rfl (i69 _ _) ?_;simp only [Act.put,zf,zq,zp])|(refine wpList_load_row rfl 76 _ rfl _ rfl _ _ _ _ HA.out.r xv rfl (i69 _ _) ?_;simp only [Act.put,zf,zq,zp]));clear HA';refine (XD dv ds dv ds HBD.out.2.2.1 HBD.out.2.2.2 HBD.out.2.2.1 HBD.out.2.2.2 _).mono ?_;rintro e w2 ⟨rfl,hb⟩;have HC1:=zh ((HA.out.grew hb).putD (jv dv dv ds) (js ds ds));have HC1':=zh (HA.out.grew hb);clear hb HA;go_wp2_with (refine we rfl 76 _ _ rfl _ rfl _ rfl _ _ HC1'.out.d (i69 _ _) rfl (XS _ _) ?_;simp only [Act.put])
    go_roundw
    case rel=>exact ⟨m/2,_,_,_,_,rfl,HP.out,⟨jv_lt _ _ _,js_lt _ _,jv_lt _ _ _,js_lt _ _⟩,by omega,HC1.out⟩
    case measure=>simp [intOf];omega
   ·rw [if_neg hodd] at hp;have HP:=zh hp;clear hp;go_wp2_with (first|(refine wpList_load_row rfl 76 _ rfl _ rfl _ _ _ _ HG.out.d xv rfl (i69 _ _) ?_;simp only [Act.put,zf,zq,zp])|(refine wpList_load_row rfl 76 _ rfl _ rfl _ _ _ _ HG.out.r xv rfl (i69 _ _) ?_;simp only [Act.put,zf,zq,zp]));refine (XD dv ds dv ds HBD.out.2.2.1 HBD.out.2.2.2 HBD.out.2.2.1 HBD.out.2.2.2 _).mono ?_;rintro e w2 ⟨rfl,hb⟩;have HC1:=zh ((HG.out.grew hb).putD (jv dv dv ds) (js ds ds));have HC1':=zh (HG.out.grew hb);clear hb HG;go_wp2_with (refine we rfl 76 _ _ rfl _ rfl _ rfl _ _ HC1'.out.d (i69 _ _) rfl (XS _ _) ?_;simp only [Act.put])
    go_roundw
    case rel=>exact ⟨m/2,rv,rs,_,_,rfl,HP.out,⟨HBD.out.1,HBD.out.2.1,jv_lt _ _ _,js_lt _ _⟩,by omega,HC1.out⟩
    case measure=>simp [intOf];omega
end
section
open Go.RowKit
def EV (c:Int):Value:=.iface 73 (.int .i64 c)
theorem wm (n:Int) (b:Bool) (hb:b=decide (0<=n∧n<=1152921504606846976)) (w:World) :
  Calls zb 95 #[.int .i64 n] w fun e w'=>e=.returned (.bool b)∧w'=w:=by
 have HB:=zh hb;clear hb;go_enter Tryz.func95,Tryz.ntmps95;by_cases h0:0<=n
 ·go_wp2_with fail;go_ret;exact ⟨by rw [HB.out];simp [h0],rfl⟩
 ·go_wp2_with fail;go_ret;exact ⟨by rw [HB.out];simp [Int.not_le.2 h0],rfl⟩
theorem clip_c (n:Int) (w:World) (h0:0<=n) (h1:n<=1048576) :
  Calls zb 87 #[.int .i64 n,.int .i64 0,.int .i64 1048576] w fun e w'=>e=.returned (.int .i64 n)∧w'=w:=by
 go_enter Tryz.func87,Tryz.ntmps87;go_wp2_with fail;go_ret;exact ⟨rfl,rfl⟩
theorem add_ok (a b:Nat) (w:World) (h:a+b<=1152921504606846976) :
  Calls zb 61 #[.int .i64 a,.int .i64 b] w fun e w'=>e=.returned (.tuple #[.int .i64 (a+b:Nat),.nilIface])∧w'=w:=by
 go_enter Tryz.func61,Tryz.ntmps61;go_wp2_with fail;refine same (wm a true (by symm;rw [decide_eq_true_eq];omega) _) ?_;go_wp2_with fail;refine same (wm b true (by symm;rw [decide_eq_true_eq];omega) _) ?_;go_wp2_with fail;go_ret2;exact ⟨rfl,rfl⟩
theorem add_long (a b:Nat) (w:World) (ha:a<=1152921504606846976) (hb:b<=1152921504606846976) (h:1152921504606846976<a+b) :
  Calls zb 61 #[.int .i64 a,.int .i64 b] w fun e w'=>e=.returned (.tuple #[.int .i64 0,EV 2])∧w'=w:=by
 go_enter Tryz.func61,Tryz.ntmps61;go_wp2_with fail;refine same (wm a true (by symm;rw [decide_eq_true_eq];omega) _) ?_;go_wp2_with fail;refine same (wm b true (by symm;rw [decide_eq_true_eq];omega) _) ?_;go_wp2_with fail;go_ret2;exact ⟨rfl,rfl⟩
theorem mul_ok (a k:Nat) (z:Int) (hz:z=k) (w:World) (ha:0<a) (ha':a<=1152921504606846976) (h:a*k<=1152921504606846976) :
  Calls zb 101 #[.int .i64 a,.int .i64 z] w fun e w'=>e=.returned (.tuple #[.int .i64 (a*k:Nat),.nilIface])∧w'=w:=by
 subst hz;have hd:(k:Int)<=1152921504606846976/(a:Int):=by
  have:k<=1152921504606846976/a:=(Nat.le_div_iff_mul_le ha).2 (by rw [xO];exact h);have:=Int.ofNat_le.2 this;simpa [Int.natCast_ediv] using this
 obtain ⟨m,hm⟩:∃ m,m=a*k:=⟨_,rfl⟩
 have hm':(a:Int)*(k:Int)=(m:Int):=(by rw [hm,Yl]);rw [← hm] at h ⊢;have HM:=zh hm;clear hm;go_enter Tryz.func101,Tryz.ntmps101;go_wp2_with fail;refine same (wm a true (by symm;rw [decide_eq_true_eq];omega) _) ?_;go_wp2_with fail;go_ret2;exact ⟨by simp [hm'],rfl⟩
theorem mul_long (a k:Nat) (z:Int) (hz:z=k) (w:World) (ha:0<a) (ha':a<=1152921504606846976) (h:1152921504606846976<a*k) :
  Calls zb 101 #[.int .i64 a,.int .i64 z] w fun e w'=>e=.returned (.tuple #[.int .i64 0,EV 2])∧w'=w:=by
 subst hz;have hd:1152921504606846976/(a:Int)<(k:Int):=by
  have:1152921504606846976/a<k:=(Nat.div_lt_iff_lt_mul ha).2 (by rw [xO];exact h);have:=Int.ofNat_lt.2 this;simpa [Int.natCast_ediv] using this
 have HM:=zh h;clear h;go_enter Tryz.func101,Tryz.ntmps101;go_wp2_with fail;refine same (wm a true (by symm;rw [decide_eq_true_eq];omega) _) ?_;go_wp2_with fail;go_ret2;exact ⟨rfl,rfl⟩
theorem range_c (f n:Int) (l:Nat) (w:World) (hl:l<=1152921504606846976) (ok:Bool) (hok:ok=decide (0<=f∧0<=n∧f<=l∧n<=l-f)) :
  Calls zb 89 #[.int .i64 f,.int .i64 n,.int .i64 l] w fun e w'=>e=.returned (if ok then .nilIface else EV 1)∧w'=w:=by
 have HOK:=zh hok;clear hok;go_enter Tryz.func89,Tryz.ntmps89;by_cases h1:0<=f
 ·by_cases h2:0<=n
  ·by_cases h3:f<=l
   ·by_cases h4:n<=l-f
    ·obtain rfl:ok=true:=by rw [HOK.out];simp [h1,h2,h3,h4]
     go_wp2_with fail;refine same (wm l true (by symm;rw [decide_eq_true_eq];omega) _) ?_;go_wp2_with fail;go_ret;exact ⟨rfl,rfl⟩
    ·obtain rfl:ok=false:=by rw [HOK.out];simp [h1,h2,h3,h4]
     go_wp2_with fail;refine same (wm l true (by symm;rw [decide_eq_true_eq];omega) _) ?_;go_wp2_with fail;go_ret;exact ⟨rfl,rfl⟩
   ·obtain rfl:ok=false:=by rw [HOK.out];simp [h1,h2,h3]
    go_wp2_with fail;refine same (wm l true (by symm;rw [decide_eq_true_eq];omega) _) ?_;go_wp2_with fail;go_ret;exact ⟨rfl,rfl⟩
  ·obtain rfl:ok=false:=by rw [HOK.out];simp [h1,h2]
   go_wp2_with fail;refine same (wm l true (by symm;rw [decide_eq_true_eq];omega) _) ?_;go_wp2_with fail;go_ret;exact ⟨rfl,rfl⟩
 ·obtain rfl:ok=false:=by rw [HOK.out];simp [h1]
  go_wp2_with fail;refine same (wm l true (by symm;rw [decide_eq_true_eq];omega) _) ?_;go_wp2_with fail;go_ret;exact ⟨rfl,rfl⟩
end
section
open Go.RowKit
attribute [local go_sem] Zb vQ
structure Wt where
 len:Nat
 lines:Nat
 head:Nat
 tail:Nat
 val:Nat
 scale:Nat
def WtV (x:Wt):Array Value:=#[.int .i64 x.len,.int .i64 x.lines,.int .i64 x.head,.int .i64 x.tail,.int .u64 x.val,.int .u64 x.scale]
structure Wt.Ok (x:Wt):Prop where
 len:x.len<=1152921504606846976
 none:x.lines=0->x.head=x.len∧x.tail=x.len
 some:0<x.lines->x.head+x.tail+x.lines<=x.len∧(x.lines=1->x.head+x.tail+1=x.len)
 val:x.val<2305843009213693951
 zero:x.len=0->x.val=0
 scale:x.scale=1103515245 ^ x.len%PP
theorem pow_r (a n r:Nat) (hr:r=a ^ n%PP) (z:Int) (hz:z=n) (ha:a<18446744073709551616) (hn:n<18446744073709551616) (w:World) :
  Calls zb 133 #[.int .u64 a,.int .u64 z] w fun e w'=>e=.returned (.int .u64 r)∧w'=w:=by subst hr;exact pow_c a n z hz ha hn w
theorem J5 (x:Wt) (hx:x.Ok) (w:World) :
  Calls zb 108 #[.agg (WtV x)] w fun e w'=>e=.returned (.bool true)∧Below w.heap.size w w':=by
 obtain ⟨h1,h2,h3,h5,h4',h6⟩:=hx;obtain ⟨len,lines,head,tail,val,scale⟩:=x;simp only at h1 h2 h3 h5 h4' h6;have HS:=zh h6;have hv:decide ((2305843009213693951:Int)<=(val:Int))=false:=decide_eq_false (by omega);clear h6 h5;unfold WtV;by_cases hl:lines=0
 ·obtain ⟨e1,e2⟩:=h2 hl;subst hl;clear h2 h3;by_cases hz:len=0
  ·have hv0:=h4' hz;subst hz hv0;clear h4';go_enter YV,QN;go_wp2_with fail;refine same (wm 0 true (by symm;rw [decide_eq_true_eq];omega) _) ?_;go_wp2_with fail
   go_quiet ((go_at_call 133;exact Calls.quiet_of_same (pow_r 1103515245 0 scale HS.out _ (by simp) (by omega) (by omega) _)))
   go_wp2_with fail;go_ret;exact ⟨rfl,(by (repeat (first|exact Below.refl _ _|assumption|refine Below.drew ?_|refine wH ?_ _|refine Below.alloc ?_ ?_ _|refine Below.setCell ?_ ?_ _)) <;> (simp <;> omega))⟩
  ·clear h4';go_enter YV,QN;go_wp2_with fail;refine same (wm len true (by symm;rw [decide_eq_true_eq];omega) _) ?_;go_wp2_with fail
   go_quiet ((go_at_call 133;exact Calls.quiet_of_same (pow_r 1103515245 len scale HS.out _ (by simp) (by omega) (by omega) _)))
   go_wp2_with fail;go_ret;exact ⟨rfl,(by (repeat (first|exact Below.refl _ _|assumption|refine Below.drew ?_|refine wH ?_ _|refine Below.alloc ?_ ?_ _|refine Below.setCell ?_ ?_ _)) <;> (simp <;> omega))⟩
 ·obtain ⟨e1,e2⟩:=h3 (by omega);clear h2 h3;have hz:¬ len=0:=(by omega);clear h4';have hh0:decide ((head:Int)<0)=false:=decide_eq_false (by omega);have ht0:decide ((tail:Int)<0)=false:=decide_eq_false (by omega);by_cases ho:lines=1
  ·have e3:=e2 ho;subst ho;clear e2;have hb1:((len:Int)-(head:Int)-(tail:Int) != 1)=false:=(by rw [bne_eq_false_iff_eq];omega);have hb2:decide ((len:Int)-(head:Int)-(tail:Int)<1)=false:=decide_eq_false (by omega);have hb3:(len:Int)-(head:Int)-(tail:Int)=1:=(by omega);go_enter YV,QN;go_wp2_with fail;refine same (wm len true (by symm;rw [decide_eq_true_eq];omega) _) ?_;go_wp2_with fail
   go_quiet ((go_at_call 133;exact Calls.quiet_of_same (pow_r 1103515245 len scale HS.out _ (by simp) (by omega) (by omega) _)))
   go_wp2_with fail;go_ret;exact ⟨rfl,(by (repeat (first|exact Below.refl _ _|assumption|refine Below.drew ?_|refine wH ?_ _|refine Below.alloc ?_ ?_ _|refine Below.setCell ?_ ?_ _)) <;> (simp <;> omega))⟩
  ·clear e2;go_enter YV,QN;go_wp2_with fail;refine same (wm len true (by symm;rw [decide_eq_true_eq];omega) _) ?_;go_wp2_with fail
   go_quiet ((go_at_call 133;exact Calls.quiet_of_same (pow_r 1103515245 len scale HS.out _ (by simp) (by omega) (by omega) _)))
   go_wp2_with fail;go_ret;exact ⟨rfl,(by (repeat (first|exact Below.refl _ _|assumption|refine Below.drew ?_|refine wH ?_ _|refine Below.alloc ?_ ?_ _|refine Below.setCell ?_ ?_ _)) <;> (simp <;> omega))⟩
end
section
open Go.RowKit
attribute [local go_sem] qt
def WZ:Array Value:=#[.int .i64 0,.int .i64 0,.int .i64 0,.int .i64 0,.int .u64 0,.int .u64 0]
theorem djoin_l (va sa vb sb:Nat) (h1:va<18446744073709551616) (h2:sa<18446744073709551616) (h3:vb<18446744073709551616) (h4:sb<18446744073709551616) (w:World) :
  Calls zb 109 #[.agg #[.int .u64 va,.int .u64 sa],.agg #[.int .u64 vb,.int .u64 sb]] w fun e w'=>e=.returned (.agg #[.int .u64 (jv va vb sb),.int .u64 (js sa sb)])∧Below w.heap.size w w':=XD va sa vb sb h1 h2 h3 h4 w
theorem wunit_c (w:World):Calls zb 106 #[] w fun e w'=>e=.returned (.agg (WtV ⟨0,0,0,0,0,1⟩))∧St w [] [] w':=by
 have H:=St.nil w [];go_enter Tryz.func106,Tryz.ntmps106;go_wp2_with (first|refine sL ?_|(refine sS ?_;clear H;intros;rename_i H));refine (dunit_c _).mono ?_;rintro e w1 ⟨rfl,hb⟩;replace H:=H.grew hb;clear hb;unfold DV;go_wp2_with (first|refine sL ?_|(refine sS ?_;clear H;intros;rename_i H));exact bodyPost_ret (xR rfl H rfl pk rfl) rfl ⟨rfl,H.nix⟩
def Wt.join (a b:Wt):Wt:=⟨a.len+b.len,a.lines+b.lines,if a.lines=0 then a.len+b.head else a.head,if b.lines=0 then b.len+a.tail else b.tail,jv a.val b.val b.scale,js a.scale b.scale⟩
theorem wjoin_c (a b:Wt) (ha:a.Ok) (hb:b.Ok) (hl:a.len+b.len<=1152921504606846976) (w:World) :
  Calls zb 77 #[.agg (WtV a),.agg (WtV b)] w fun e w'=>e=.returned (.tuple #[.agg (WtV (a.join b)),.nilIface])∧St w [] [] w':=by
 have HO:=zh (za ha hb);have HU:Hid (a.val<18446744073709551616∧a.scale<18446744073709551616∧b.val<18446744073709551616∧b.scale<18446744073709551616) :=
  zh ⟨by have:=ha.val;omega,by rw [ha.scale];exact vS _,by have:=hb.val;omega,by rw [hb.scale];exact vS _⟩
 have hal:=ha.len;have hbl:=hb.len;have hla:a.lines<=a.len:=(by rcases qk a.lines with h|h;omega;have:=ha.some h;omega);have hlb:b.lines<=b.len:=(by rcases qk b.lines with h|h;omega;have:=hb.some h;omega);have hha:a.head<=a.len:=(by rcases qk a.lines with h|h;have:=ha.none h;omega;have:=ha.some h;omega);have hhb:b.head<=b.len:=(by rcases qk b.lines with h|h;have:=hb.none h;omega;have:=hb.some h;omega);have hta:a.tail<=a.len:=(by rcases qk a.lines with h|h;have:=ha.none h;omega;have:=ha.some h;omega);have htb:b.tail<=b.len:=(by rcases qk b.lines with h|h;have:=hb.none h;omega;have:=hb.some h;omega);clear ha hb;have H:=St.nil w [];go_enter Tryz.func77,Tryz.ntmps77;go_wp2_with (first|refine sL ?_|(refine sS ?_;clear H;intros;rename_i H));refine (J5 a HO.out.1 _).mono ?_;rintro e w1 ⟨rfl,hb⟩;replace H:=H.grew hb;clear hb;go_wp2_with (first|refine sL ?_|(refine sS ?_;clear H;intros;rename_i H));refine (J5 b HO.out.2 _).mono ?_;rintro e w1 ⟨rfl,hb⟩;replace H:=H.grew hb;clear hb;go_wp2_with (first|refine sL ?_|(refine sS ?_;clear H;intros;rename_i H));refine same (add_ok a.len b.len _ hl) ?_;go_wp2_with (first|refine sL ?_|(refine sS ?_;clear H;intros;rename_i H));refine zG H 17 [(16,78,WZ,none)] [(16,8)] (by kernel_rfl) (by kernel_rfl) ?_;apply Exists.intro;refine ⟨fun w1 hw1 HX=>?_,fun bs w1 H'=>?_⟩
 ·refine sG ?_;repeat (first|refine sQ ?_|go_big_quiet_step ((go_at_call 109;exact WI (djoin_l _ _ _ _ HU.out.1 HU.out.2.1 HU.out.2.2.1 HU.out.2.2.2 _))))
  apply wpQuiet_nil;refine ⟨jC rfl rfl hw1 rfl rfl,?_⟩;simp only [Act.put,puA,puB,puC];exact wpQuiet_nil rfl
 ·clear H;have H:=H';clear H';replace H:=sH H;refine sT ?_;by_cases ha:a.lines=0 <;> by_cases hb:b.lines=0
  all_goals
   go_wp2_with (first|refine sL ?_|(refine sS ?_;clear H;intros;rename_i H));refine bodyPost_ret (xd rfl H rfl pk rfl rfl) rfl ⟨?_,H.nix⟩;simp [Wt.join,ha,hb,WtV]
def Wt.letter (b:Nat):Wt:=if b=10 then ⟨1,1,0,0,b+1,1103515245⟩ else ⟨1,0,1,1,b+1,1103515245⟩
theorem Jm (b:Nat) (hb:b<256) (w:World) :
  Calls zb 107 #[.int .u8 b] w fun e w'=>e=.returned (.agg #[.int .u64 (b+1:Nat),.int .u64 (1103515245:Nat)])∧Below w.heap.size w w':=dletter_c b hb w
theorem wletter_c (b:Nat) (hb:b<256) (w:World) :
  Calls zb 76 #[.int .u8 b] w fun e w'=>e=.returned (.agg (WtV (Wt.letter b)))∧St w [] [] w':=by
 have HB:=zh hb;have H:=St.nil w [];go_enter Tryz.func76,Tryz.ntmps76;by_cases h:b=10
 ·subst h;go_wp2_with (first|refine sL ?_|(refine sS ?_;clear H;intros;rename_i H)|(go_at_call 107;refine (Jm 10 (by omega) _).mono ?_;rintro e wc ⟨rfl,hb⟩;replace H:=H.grew hb;clear hb));exact bodyPost_ret (xR rfl H rfl pk rfl) rfl ⟨rfl,H.nix⟩
 ·have h10:((b:Int)==10)=false:=(by rw [beq_eq_false_iff_ne];omega);go_wp2_with (first|refine sL ?_|(refine sS ?_;clear H;intros;rename_i H)|(go_at_call 107;refine (Jm b HB.out _).mono ?_;rintro e wc ⟨rfl,hb⟩;replace H:=H.grew hb;clear hb));exact bodyPost_ret (xR rfl H rfl pk rfl) rfl ⟨by simp [Wt.letter,h,WtV],H.nix⟩
def Wt.rep (x:Wt) (k:Nat):Wt:=⟨x.len*k,x.lines*k,if x.lines=0 then x.len*k else x.head,if x.lines=0 then x.len*k else x.tail,(j7 0 1 x.val x.scale k).1,(j7 0 1 x.val x.scale k).2⟩
theorem drepeat_l (v s k:Nat) (z:Int) (hz:z=k) (h1:v<18446744073709551616) (h2:s<18446744073709551616) (hk:k<=9223372036854775807) (w:World) :
  Calls zb 129 #[.agg #[.int .u64 v,.int .u64 s],.int .i64 z] w fun e w'=>e=.returned (.agg #[.int .u64 (j7 0 1 v s k).1,.int .u64 (j7 0 1 v s k).2])∧Below w.heap.size w w':=drepeat_c v s k z hz h1 h2 hk w
theorem wrepeat_c (x:Wt) (hx:x.Ok) (hp:0<x.len) (k:Nat) (hk:0<k) (hl:x.len*k<=1152921504606846976) (z:Int) (hz:z=k) (w:World) :
  Calls zb 102 #[.agg (WtV x),.int .i64 z] w fun e w'=>e=.returned (.tuple #[.agg (WtV (x.rep k)),.nilIface])∧St w [] [] w':=by
 subst hz;have HO:=zh hx;have HU:Hid (x.val<18446744073709551616∧x.scale<18446744073709551616):=zh ⟨by have:=hx.val;omega,by rw [hx.scale];exact vS _⟩;have hxl:=hx.len;have hlx:x.lines<=x.len:=(by rcases qk x.lines with h|h;omega;have:=hx.some h;omega);have hkl:k<=1152921504606846976:=qs (wY k hp) hl;have hpos:0<x.len*k:=Nat.mul_pos hp hk;have hml:x.lines*k<=1152921504606846976:=qs (y9 k hlx) hl;have HP:=zh (za hp hl);obtain ⟨n,hn⟩:∃ n,n=x.len*k:=⟨_,rfl⟩
 obtain ⟨m,hm⟩:∃ m,m=x.lines*k:=⟨_,rfl⟩
 rw [← hn] at hpos;rw [← hm] at hml;have hnl:n<=1152921504606846976:=(by rw [hn];exact hl);have hmi:(x.lines:Int)*(k:Int)=(m:Int):=(by rw [hm,Yl]);have HN:=zh (za hn hm);clear hx hl hn hm hp;have H:=St.nil w [];go_enter Tryz.func102,Tryz.ntmps102;go_wp2_with (first|refine sL ?_|(refine sS ?_;clear H;intros;rename_i H)|(go_at_call 108;refine (J5 x HO.out _).mono ?_;rintro e wc ⟨rfl,hb⟩;replace H:=H.grew hb;clear hb));refine same (mul_ok x.len k _ rfl _ HP.out.1 hxl HP.out.2) ?_;rw [← HN.out.1];go_wp2_with (first|refine sL ?_|(refine sS ?_;clear H;intros;rename_i H));refine zG H 15 [(14,78,WZ,none)] [(14,8)] (by kernel_rfl) (by kernel_rfl) ?_;apply Exists.intro;refine ⟨fun w1 hw1 HX=>?_,fun bs w1 H'=>?_⟩
 ·refine sG ?_;repeat (first|refine sQ ?_|go_big_quiet_step ((go_at_call 129;exact WI (drepeat_l _ _ k _ rfl HU.out.1 HU.out.2 (by omega) _))))
  apply wpQuiet_nil;refine ⟨jC rfl rfl hw1 rfl rfl,?_⟩;simp only [Act.put,puA,puB,puC];exact wpQuiet_nil rfl
 ·clear H;have H:=H';clear H';replace H:=sH H;refine sT ?_;by_cases ha:x.lines=0
  all_goals
   go_wp2_with (first|refine sL ?_|(refine sS ?_;clear H;intros;rename_i H));refine bodyPost_ret (xd rfl H rfl pk rfl rfl) rfl ⟨?_,H.nix⟩;simp [Wt.rep,ha,WtV,← HN.out.1,← HN.out.2,hmi];try (have:=HN.out.2;rw [ha,QM] at this;exact this)
end
section
theorem Yp:0<PP:=ZA Qn ZN
theorem dloop_snd (k:Nat):∀ rv rs dv ds,rs<PP->(j7 rv rs dv ds k).2=rs*ds ^ k%PP:=by
 induction k using yJ with
 |_ k ih =>
  intro rv rs dv ds hr
  match k with
  |0=>simp [j7,xI hr]
  |k+1 =>
   rw [j7];have hlt:(k+1)/2<k+1:=(by omega);have key:∀ q,q*(js ds ds) ^ ((k+1)/2)%PP=q*ds ^ (2*((k+1)/2))%PP:=fun q=>by
    unfold js;rw [Yo,← Nat.pow_mod,← Nat.pow_two,← Nat.pow_mul,← Yo]
   by_cases hodd:(k+1)%2=1
   ·rw [if_pos hodd,ih _ hlt _ _ _ _ (show js rs ds<PP from qM _ Yp),key,js,Nat.mod_mul_mod,Zo,← Nat.pow_succ',J9,show 2*((k+1)/2)+1=k+1 by omega]
   ·rw [if_neg hodd,ih _ hlt _ _ _ _ hr,key,show 2*((k+1)/2)=k+1 by omega]
theorem dloop_fst (k:Nat):∀ rv rs dv ds,rv<PP->(j7 rv rs dv ds k).1<PP:=by
 induction k using yJ with
 |_ k ih =>
  intro rv rs dv ds hr
  match k with
  |0=>simpa [j7] using hr
  |k+1 =>
   rw [j7];split
   ·exact ih _ (by omega) _ _ _ _ (qM _ Yp)
   ·exact ih _ (by omega) _ _ _ _ hr
theorem lt_PP {x:Nat} (h:x<PP):x<2305843009213693951:=by rw [YS] at h;exact h
theorem Wt.letter_ok (b:Nat) (hb:b<256):(Wt.letter b).Ok:=by
 unfold Wt.letter;split
 ·exact ⟨by simp,by simp,by simp,by simp;omega,by simp,by simp [xI (show 1103515245<PP by rw [YS];omega)]⟩
 ·exact ⟨by simp,by simp,by simp,by simp;omega,by simp,by simp [xI (show 1103515245<PP by rw [YS];omega)]⟩
theorem Wt.join_ok {a b:Wt} (ha:a.Ok) (hb:b.Ok) (h:a.len+b.len<=1152921504606846976):(a.join b).Ok:=by
 obtain ⟨a1,a2,a3,a4,a5,a6⟩:=ha;obtain ⟨b1,b2,b3,b4,b5,b6⟩:=hb;refine ⟨h,fun h0=>?_,fun h0=>?_,lt_PP (qM _ Yp),fun h0=>?_,?_⟩
 ·simp only [Wt.join] at h0 ⊢;have h1:a.lines=0:=(by omega);have h2:b.lines=0:=(by omega);simp only [h1,h2,if_true];have:=a2 h1;have:=b2 h2;omega
 ·simp only [Wt.join] at h0 ⊢;rcases qk a.lines with h1|h1 <;> rcases qk b.lines with h2|h2
  ·omega
  ·have:=a2 h1;have:=b3 h2;simp only [h1,if_true,jO h2,if_false];omega
  ·have:=a3 h1;have:=b2 h2;simp only [h2,if_true,jO h1,if_false];omega
  ·have:=a3 h1;have:=b3 h2;simp only [jO h1,jO h2,if_false];omega
 ·simp only [Wt.join] at h0 ⊢;have e1:=a5 (by omega);have e2:=b5 (by omega);rw [e1,e2];simp [jv]
 ·simp only [Wt.join,js,a6,b6];rw [← Yo,← Nat.pow_add]
theorem Wt.rep_ok {x:Wt} (hx:x.Ok) (hp:0<x.len) {k:Nat} (hk:2<=k) (h:x.len*k<=1152921504606846976):(x.rep k).Ok:=by
 obtain ⟨a1,a2,a3,a4,a5,a6⟩:=hx;refine ⟨h,fun h0=>?_,fun h0=>?_,lt_PP (dloop_fst _ _ _ _ _ Yp),fun h0=>?_,?_⟩
 ·simp only [Wt.rep] at h0 ⊢;have:x.lines=0:=by
   rcases Nat.mul_eq_zero.1 h0 with h1|h1
   ·exact h1
   ·omega
  simp [this]
 ·simp only [Wt.rep] at h0 ⊢;have hl:0<x.lines:=Nat.pos_of_mul_pos_right h0 |> fun _=>by
   rcases qk x.lines with h1|h1
   ·rw [h1,QM] at h0;omega
   ·exact h1
  obtain ⟨h1,_⟩:=a3 hl;simp only [jO hl,if_false];have h2:(x.head+x.tail+x.lines)*k<=x.len*k:=y9 k h1;have h3:x.head+x.tail<=(x.head+x.tail)*k:=jg _ (by omega);have h4:(x.head+x.tail+x.lines)*k=(x.head+x.tail)*k+x.lines*k:=(by rw [xl]);have h5:2<=x.lines*k:=qs hk (wY k hl);exact ⟨by omega,fun h6=>by omega⟩
 ·simp only [Wt.rep] at h0;rcases Nat.mul_eq_zero.1 h0 with h1|h1 <;> omega
 ·simp only [Wt.rep];rw [dloop_snd _ _ _ _ _ ZN,QK,a6,← Nat.pow_mod,← Nat.pow_mul]
end
section
open Go.RowKit Go.Maps
attribute [local go_sem] qt
structure Rl where
 kind:Nat
 letter:Nat
 left:Nat
 right:Nat
 times:Nat
 deriving DecidableEq,Inhabited
def WN (r:Rl):List Value:=[.int .i64 r.kind,.int .u8 r.letter,.int .i64 r.left,.int .i64 r.right,.int .i64 r.times]
structure En where
 r:Rl
 w:Wt
 depth:Nat
 even:Bool
def enL (e:En):List Value:=[.int .i64 e.r.kind,.int .u8 e.r.letter,.int .i64 e.r.left,.int .i64 e.r.right,.int .i64 e.r.times,
 .int .i64 e.w.len,.int .i64 e.w.lines,.int .i64 e.w.head,.int .i64 e.w.tail,.int .u64 e.w.val,.int .u64 e.w.scale,.int .i64 e.depth,.bool e.even]
theorem XE (e:En):(enL e).length=13:=rfl
structure Sto where
 most:Nat
 list:List En
def Zc (l:List En):List (Value×Value):=l.zipIdx.map fun p=>(.agg (WN p.1.r).toArray,.int .i64 ((p.2:Int)+1))
def qF (p:Nat) (lv:Value) (m:Nat) (S:Sto):As :=
 (blk p (.cells #[.int .i64 S.most,lv,.map (some m)] 143)).sep ((zc enL 146 13 lv S.list).sep (zP zb 131 m (Zc S.list)))
theorem Zk {p m:Nat} {lv:Value} {S:Sto} {w:World} (h:(qF p lv m S).ho w):Ks w [] [zc enL 146 13 lv S.list,zP zb 131 m (Zc S.list),blk p (.cells #[.int .i64 S.most,lv,.map (some m)] 143)]:=by
 have k:=(Ks.one h).sep;obtain ⟨k1,k2⟩:=k;have k':Ks w [] [(zc enL 146 13 lv S.list).sep (zP zb 131 m (Zc S.list)),blk p (.cells #[.int .i64 S.most,lv,.map (some m)] 143)] :=
  ⟨fun A hA=>k1 A (by simp at hA ⊢;rcases hA with h|h <;> simp [h]),fun A hA=>k2 A (by simp at hA ⊢;rcases hA with h|h <;> simp [h])⟩
 exact k'.sep
theorem YO {p m:Nat} {lv:Value} {S:Sto} {w:World} (h:(qF p lv m S).ho w):(zc enL 146 13 lv S.list).ho w:=(Zk h).ho _ (by simp)
theorem kZ {p m:Nat} {lv:Value} {S:Sto} {w:World} (h:(qF p lv m S).ho w):∃ a c,lv=.slice a S.list.length c∧S.list.length<=maxLen:=zE (YO h)
theorem known_c {p m:Nat} {lv:Value} {S:Sto} (z:Int) (w:World) (hs:(qF p lv m S).ho w) (b:Bool) (hb:b=decide (0<=z∧z<=S.list.length)) :
  Calls zb 72 #[.pointer (some ⟨p,0,none⟩),.int .i64 z] w fun e w'=>e=.returned (.bool b)∧w'=w:=by
 have HB:=zh hb;clear hb;have HK:=Zk hs;obtain ⟨a,c,rfl,hm⟩:=kZ hs;have H:=St.nil w [];clear hs;go_enter Tryz.func72,Tryz.ntmps72;by_cases h0:0<=z
 ·go_wp2_with (first|refine sL ?_);go_ret;exact ⟨by rw [HB.out];simp [h0],rfl⟩
 ·go_wp2_with (first|refine sL ?_);go_ret;exact ⟨by rw [HB.out];simp;omega,rfl⟩
theorem yX {p m:Nat} {lv:Value} {S:Sto} (z:Int) (w:World) (hs:(qF p lv m S).ho w) (h0:0<=z) (h1:z<=S.list.length) :
  Calls zb 72 #[.pointer (some ⟨p,0,none⟩),.int .i64 z] w fun e w'=>e=.returned (.bool true)∧w'=w:=known_c z w hs true (by simp [h0,h1])
theorem Wp {p m:Nat} {lv:Value} {S:Sto} (w:World) (hs:(qF p lv m S).ho w) :
  Calls zb 38 #[.pointer (some ⟨p,0,none⟩)] w fun e w'=>e=.returned (.int .i64 S.list.length)∧w'=w:=by
 have HK:=Zk hs;obtain ⟨a,c,rfl,hm⟩:=kZ hs;have H:=St.nil w [];clear hs;go_enter Tryz.func38,Tryz.ntmps38;go_wp2_with (first|refine sL ?_);go_ret;exact ⟨rfl,rfl⟩
def En.unit:En:=⟨⟨0,0,0,0,0⟩,⟨0,0,0,0,0,1⟩,0,true⟩
theorem wunit_l (w:World):Calls zb 106 #[] w fun e w'=>e=.returned (.agg #[.int .i64 (0:Nat),.int .i64 (0:Nat),.int .i64 (0:Nat),.int .i64 (0:Nat),.int .u64 (0:Nat),.int .u64 (1:Nat)])∧St w [] [] w':=wunit_c w
theorem at_zero {p m:Nat} {lv:Value} {S:Sto} (w:World) (hs:(qF p lv m S).ho w) :
  Calls zb 73 #[.pointer (some ⟨p,0,none⟩),.int .i64 0] w fun e w'=>e=.returned (.agg (enL En.unit).toArray)∧St w [] [] w':=by
 have H:=St.nil w [];clear hs;go_enter Tryz.func73,Tryz.ntmps73;go_wp2_with (first|refine sL ?_|(refine sS ?_;clear H;intros;rename_i H)|(go_at_call 106;refine (wunit_l _).mono ?_;rintro e wc ⟨rfl,hb⟩;replace H:=H.grew hb.below;clear hb));exact bodyPost_ret (xR rfl H rfl pk rfl) rfl ⟨rfl,H.nix⟩
theorem at_c {p m:Nat} {lv:Value} {S:Sto} {i:Nat} {x:En} (hx:S.list[i]?=some x) (z:Int) (hz:z=i+1) (w:World) (hs:(qF p lv m S).ho w) :
  Calls zb 73 #[.pointer (some ⟨p,0,none⟩),.int .i64 z] w fun e w'=>e=.returned (.agg (enL x).toArray)∧St w [] [] w':=by
 subst hz;have HK:=Zk hs;have hi:=qI hx;obtain ⟨g,c,rfl,hc,hm⟩:=q8 (YO hs) (by omega);unfold maxLen at hm;have HE:=zh hx;have H:=St.nil w [];clear hs hx;go_enter Tryz.func73,Tryz.ntmps73;go_wp2_with (first|refine sL ?_|(refine sS ?_;clear H;intros;rename_i H)|((with_reducible refine qh ?_);refine AtLoad.rngT rfl rfl rfl (H.rng HK pk XE HE.out) rfl ?_;simp only [Act.put,puA,puB,puC]));exact bodyPost_ret (xR rfl H rfl pk rfl) rfl ⟨rfl,H.nix⟩
def Zs (S:Sto):Nat->Option En
 |0=>some En.unit
 |i+1=>S.list[i]?
theorem Ki {S:Sto} {i:Nat} {x:En} (h:Zs S i=some x):i<=S.list.length:=by
 cases i with
 |zero=>omega
 |succ i=>have:=qI h;omega
theorem at_any {p m:Nat} {lv:Value} {S:Sto} {i:Nat} {x:En} (hx:Zs S i=some x) (w:World) (hs:(qF p lv m S).ho w) :
  Calls zb 73 #[.pointer (some ⟨p,0,none⟩),.int .i64 (i:Int)] w fun e w'=>e=.returned (.agg #[.int .i64 x.r.kind,.int .u8 x.r.letter,.int .i64 x.r.left,.int .i64 x.r.right,.int .i64 x.r.times,
 .int .i64 x.w.len,.int .i64 x.w.lines,.int .i64 x.w.head,.int .i64 x.w.tail,.int .u64 x.w.val,.int .u64 x.w.scale,.int .i64 x.depth,.bool x.even])∧St w [] [] w':=by
 cases i with
 |zero =>
  simp only [Zs,yk.injEq] at hx;subst hx;exact at_zero w hs
 |succ i=>exact at_c hx _ (by simp) w hs
theorem km {p m:Nat} {lv:Value} {S:Sto} {i:Nat} {x:En} (hx:Zs S i=some x) (w:World) (hs:(qF p lv m S).ho w) :
  Calls zb 40 #[.pointer (some ⟨p,0,none⟩),.int .i64 (i:Int)] w fun e w'=>e=.returned (.tuple #[.agg (WtV x.w),.nilIface])∧St w [] [] w':=by
 have HE:=zh hx;have HS:=zh hs;have hle:=Ki hx;clear hx hs;have H:=St.nil w [];go_enter Tryz.func40,Tryz.ntmps40;go_wp2_with (first|refine sL ?_|(refine sS ?_;clear H;intros;rename_i H)|(go_at_call 72;refine same (yX i _ (H.old HS.out (by simp)) (by omega) (by omega)) ?_)|(go_at_call 73;refine (at_any HE.out _ (H.old HS.out (by simp))).mono ?_;rintro e wc ⟨rfl,hb⟩;replace H:=H.grew hb.below;clear hb));exact bodyPost_ret (xd rfl H rfl pk rfl rfl) rfl ⟨rfl,H.nix⟩
theorem YK {p m:Nat} {lv:Value} {S:Sto} {i:Nat} {x:En} (hx:S.list[i]?=some x) (z:Int) (hz:z=i+1) (w:World) (hs:(qF p lv m S).ho w) :
  Calls zb 68 #[.pointer (some ⟨p,0,none⟩),.int .i64 z] w fun e w'=>e=.returned (.tuple #[.agg (WN x.r).toArray,.nilIface])∧St w [] [] w':=by
 subst hz;have HS:=zh hs;have HK:=Zk hs;have hi:=qI hx;obtain ⟨g,c,rfl,hc,hm⟩:=q8 (YO hs) (by omega);unfold maxLen at hm;have HE:=zh hx;have H:=St.nil w [];clear hs hx;go_enter Tryz.func68,Tryz.ntmps68;go_wp2_with (first|refine sL ?_|(refine sS ?_;clear H;intros;rename_i H)|(go_at_call 72;refine same (yX (i+1) _ (H.old HS.out (by simp)) (by omega) (by omega)) ?_)|((with_reducible refine qh ?_);refine AtLoad.segT rfl rfl rfl rfl (o:=0) (H.rng HK pk XE HE.out) rfl ?_;simp only [Act.put,puA,puB,puC]));exact bodyPost_ret (xd rfl H rfl pk rfl rfl) rfl ⟨rfl,H.nix⟩
end
section
open Go.RowKit Go.Maps
structure Rl.Fits (r:Rl):Prop where
 kind:r.kind<9223372036854775808
 letter:r.letter<256
 left:r.left<9223372036854775808
 right:r.right<9223372036854775808
 times:r.times<9223372036854775808
def yY (r:Rl):Value:=.agg #[.int .i64 r.kind,.int .u8 r.letter,.int .i64 r.left,.int .i64 r.right,.int .i64 r.times]
theorem JR {a b:Rl} (h:yY a=yY b):a=b:=by
 obtain ⟨a1,a2,a3,a4,a5⟩:=a;obtain ⟨b1,b2,b3,b4,b5⟩:=b;simp only [yY,Value.agg.injEq] at h;have h:=congrArg Array.toList h;simp at h;obtain ⟨h1,h2,h3,h4,h5⟩:=h;rw [Rl.mk.injEq];omega
theorem J2 (n:Nat) (h:n<9223372036854775808):(Lit.int .i64 n).wf=true:=by
 simp only [Lit.wf,zu,decide_eq_true_eq,IntKind.min,IntKind.max,IntKind.signed,IntKind.bits];simp;omega
theorem wf_u8 (n:Nat) (h:n<256):(Lit.int .u8 n).wf=true:=by
 simp only [Lit.wf,zu,decide_eq_true_eq,IntKind.min,IntKind.max,IntKind.signed,IntKind.bits];simp;omega
theorem KM {P:Program} {k t5 t3 t32 d:Nat} {f0 f1 f2 f3 f4:Field} (hu:P.underlying k=some (.struct #[f0,f1,f2,f3,f4])) (h1:P.keyType k=true) (h2:P.cellsOf k=5) (h3:P.cellsOf t3=1) (h4:P.cellsOf t5=1) (h5:P.cellsOf t32=1)
  (u1:P.underlying t3=some (.int .i64)) (u2:P.underlying t5=some (.int .u8)) (u3:P.underlying t32=some (.int .i64)) (hd:P.types.size=d+1)
  (n:((f0.name != "_")&&(f1.name != "_")&&(f2.name != "_")&&(f3.name != "_")&&(f4.name != "_"))=true) (e:f0.type=t3∧f1.type=t5∧f2.type=t32∧f3.type=t32∧f4.type=t3) (o:f0.offset=0∧f1.offset=1∧f2.offset=2∧f3.offset=3∧f4.offset=4)
  (r:Rl) (h:r.Fits):∃ l,keyOf P k (yY r)=some l:=by
 obtain ⟨k1,k2,k3,k4,k5⟩:=h;obtain ⟨e0,e1,e2,e3,e4⟩:=e;obtain ⟨o0,o1,o2,o3,o4⟩:=o;simp only [zu] at n;obtain ⟨⟨⟨⟨n0,n1⟩,n2⟩,n3⟩,n4⟩:=n;unfold keyOf yY;simp [hu,h1,Value.formed,h2,Value.cells,hd,Program.keyLits,h3,h4,h5,u1,u2,u3,e0,e1,e2,e3,e4,o0,o1,o2,o3,o4,n0,n1,n2,n3,n4,J2 _ k1,wf_u8 _ k2,J2 _ k3,J2 _ k4,J2 _ k5]
theorem types_pos:∃ d,zb.types.size=d+1:=by
 have hs:Nat.ble 1 zb.types.size=true:=(by kernel_rfl);have hs:=QJ hs;generalize zb.types.size=n at hs;exact ⟨n-1,by omega⟩
theorem WO (r:Rl) (h:r.Fits):∃ l,keyOf zb 131 (yY r)=some l:=by
 obtain ⟨d,hd⟩:=types_pos;exact KM Tryz.underlying131 (by kernel_rfl) (by kernel_rfl) (t3:=3) (t5:=5) (t32:=26) (by kernel_rfl) (by kernel_rfl) (by kernel_rfl) (by kernel_rfl) (by kernel_rfl) (by kernel_rfl) hd (by kernel_rfl) ⟨rfl,rfl,rfl,rfl,rfl⟩ ⟨rfl,rfl,rfl,rfl,rfl⟩ r h
theorem yC {P:Program} {d:Nat} {xs ys:Array Value} {f:Field} {fs:List Field} {k:IntKind} {a b:Int} {w:World} (hn:(f.name != "_")=true) (ht:xj P f.type=true) (hu:P.underlying f.type=some (.int k)) (hx:nth xs.toList f.offset=some (.int k a)) (hy:nth ys.toList f.offset=some (.int k b)) :
  (Op.eqFields (d+1) xs ys (f::fs)).run P w=if a=b then (Op.eqFields (d+1) xs ys fs).run P w else .ok false w:=by
 have hn':f.name≠"_":=(by simpa using hn);unfold Op.eqFields;rw [if_pos hn'];simp only [Sem.run_bind,vH ht hx,Result.andThen_ok,vH ht hy,run_equalIn_int w d f.type k k a b hu];by_cases h:a=b
 ·subst h;simp;cases fs <;> simp [Op.eqFields]
 ·simp [h]
theorem VR {P:Program} {t:TypeId} {f0 f1 f2 f3 f4:Field} (hu:P.underlying t=some (.struct #[f0,f1,f2,f3,f4])) (hp:P.stoodInHeld t=false) (hg:P.eqGuardType P.depth t=false)
  (n:((f0.name != "_")&&(f1.name != "_")&&(f2.name != "_")&&(f3.name != "_")&&(f4.name != "_"))=true) (o:f0.offset=0∧f1.offset=1∧f2.offset=2∧f3.offset=3∧f4.offset=4)
  (c:(xj P f0.type&&xj P f1.type&&xj P f2.type&&xj P f3.type&&xj P f4.type)=true)
  (u0:P.underlying f0.type=some (.int .i64)) (u1:P.underlying f1.type=some (.int .u8)) (u2:P.underlying f2.type=some (.int .i64)) (u3:P.underlying f3.type=some (.int .i64)) (u4:P.underlying f4.type=some (.int .i64)) (a b:Rl) (x y:Operand) (w:World) :
  (do eqGuard .eql t x y (yY a) (yY b);binOp .eql t (yY a) (yY b):Sem Value).run P w=.ok (.bool (decide (a=b))) w:=by
 simp only [zu] at n c;obtain ⟨⟨⟨⟨n0,n1⟩,n2⟩,n3⟩,n4⟩:=n;obtain ⟨⟨⟨⟨c0,c1⟩,c2⟩,c3⟩,c4⟩:=c;obtain ⟨o0,o1,o2,o3,o4⟩:=o;have hf:P.fieldsOf t=#[f0,f1,f2,f3,f4]:=(by simp [Program.fieldsOf,hu]);unfold yY;rw [Sem.run_bind,run_eqGuard_agg w .eql t x y _ _ hg,Result.andThen_ok,run_eql_struct,run_equalIn_struct w 9999 t _ _ (by rw [hf];exact hu) hp,hf];show (Result.andThen ((Op.eqFields (9998+1) _ _ [f0,f1,f2,f3,f4]).run P w) _)=_
 rw [yC n0 c0 u0 (a:=a.kind) (b:=b.kind) (by rw [o0];rfl) (by rw [o0];rfl),yC n1 c1 u1 (a:=a.letter) (b:=b.letter) (by rw [o1];rfl) (by rw [o1];rfl),
  yC n2 c2 u2 (a:=a.left) (b:=b.left) (by rw [o2];rfl) (by rw [o2];rfl),yC n3 c3 u3 (a:=a.right) (b:=b.right) (by rw [o3];rfl) (by rw [o3];rfl),
  yC n4 c4 u4 (a:=a.times) (b:=b.times) (by rw [o4];rfl) (by rw [o4];rfl)]
 obtain ⟨a0,a1,a2,a3,a4⟩:=a;obtain ⟨b0,b1,b2,b3,b4⟩:=b;simp only [Rl.mk.injEq];by_cases e0:a0=b0 <;> by_cases e1:a1=b1 <;> by_cases e2:a2=b2 <;> by_cases e3:a3=b3 <;> by_cases e4:a4=b4 <;> simp [e0,e1,e2,e3,e4,Op.eqFields,Int.natCast_inj,Result.andThen]
theorem rule_eq (a b:Rl) (x y:Operand) (w:World):(do eqGuard .eql 131 x y (yY a) (yY b);binOp .eql 131 (yY a) (yY b):Sem Value).run zb w=.ok (.bool (decide (a=b))) w :=
 VR Tryz.underlying131 (by kernel_rfl) (by kernel_rfl) (by kernel_rfl) ⟨rfl,rfl,rfl,rfl,rfl⟩ (by kernel_rfl) (by kernel_rfl) (by kernel_rfl) (by kernel_rfl) (by kernel_rfl) (by kernel_rfl) a b x y w
def QtEql (P:Program) (ops:Array Oper) (C:World->Prop) (K:Act->Prop) (o:Oper) (_:TypeId) (_ _:Operand) (rest:List Oper) (a:Act):Prop:=wpQuiet P ops C K (o::rest) a
theorem QtEql.rule {ops:Array Oper} {C:World->Prop} {K:Act->Prop} {rest:List Oper} {a:Act} {o1:Oper} {t2:TypeId} {x y:Operand} (hw:Region.wanted o1 (yielded ops a.tmps)=true) (ho:o1.op=.binOp .eql 131 x y t2) (r s:Rl) (hx:a.eval x=yY r) (hy:a.eval y=yY s) (b:Bool) (hb:decide (r=s)=b)
  (h:wpQuiet zb ops C K rest (a.put o1.dst (.bool b))):QtEql zb ops C K o1 131 x y rest a :=
 wpQuiet_step fun _ hK=>by
  rw [if_pos hw];refine ⟨.bool b,fun w2 hw2=>?_,hK _ h⟩;subst hb;unfold Oper.quietAt execOp;simp only [ho,hx,hy];have:=rule_eq r s x y w2;rw [Sem.run_bind,this,Result.andThen_ok];exact ⟨rfl,rfl⟩
def Apart (l:List En):Prop:=∀ (i j:Nat) (x y:En),l[i]?=some x->l[j]?=some y->x.r=y.r->i=j
theorem ids_mem {l:List En} {r:Rl} {v:Value} (h:(yY r,v)∈Zc l):∃ (i:Nat) (x:En),l[i]?=some x∧x.r=r∧v=.int .i64 ((i:Int)+1):=by
 unfold Zc at h;obtain ⟨⟨x,i⟩,hm,he⟩:=qY.1 h;simp only [Prod.mk.injEq] at he;have:=List.mem_zipIdx hm;refine ⟨i,x,?_,JR he.1,he.2.symm⟩;obtain ⟨_,h2,h3⟩:=this;simp at h2 h3;rw [zg h2,h3]
theorem ids_all {l:List En} {e:Value×Value} (h:e∈Zc l):∃ (i:Nat) (x:En),l[i]?=some x∧e=(yY x.r,.int .i64 ((i:Int)+1)):=by
 unfold Zc at h;obtain ⟨⟨x,i⟩,hm,he⟩:=qY.1 h;have:=List.mem_zipIdx hm;obtain ⟨_,h2,h3⟩:=this;simp at h2 h3;exact ⟨i,x,by rw [zg h2,h3],he.symm⟩
theorem ids_key {l:List En} {i:Nat} {x:En} (h:l[i]?=some x):(yY x.r,Value.int .i64 ((i:Int)+1))∈Zc l:=by
 unfold Zc;refine qY.2 ⟨(x,i),?_,rfl⟩;rw [List.mk_mem_zipIdx_iff_getElem?];exact h
theorem ids_snoc (l:List En) (x:En):Zc (l++[x])=Zc l++[(yY x.r,.int .i64 ((l.length:Int)+1))]:=by
 simp [Zc,List.zipIdx_append,yY,WN]
theorem look_hit {m:Nat} {l:List En} {w:World} (hm:(zP zb 131 m (Zc l)).ho w) (ha:Apart l) {i:Nat} {x:En} (hx:l[i]?=some x) (hf:x.r.Fits) :
  (Instr.lookup 141 (.map (some m)) (yY x.r) true).run zb w=.ok (.tuple #[.int .i64 ((i:Int)+1),.bool true]) w:=by
 obtain ⟨k,hk⟩:=WO x.r hf;obtain ⟨v,b,hv,hr⟩:=vG YC hm mt_141 hk (K8 (t:=26) rfl) true;rw [hr];rcases hv with ⟨rfl,h⟩|⟨rfl,rfl,h⟩
 ·obtain ⟨j,y,hy,he,rfl⟩:=ids_mem h;obtain rfl:=ha j i y x hy hx he;rfl
 ·exact absurd rfl (h _ (ids_key hx))
theorem look_miss {m:Nat} {l:List En} {w:World} (hm:(zP zb 131 m (Zc l)).ho w) {r:Rl} (hn:∀ x∈l,x.r≠r) (hf:r.Fits) :
  (Instr.lookup 141 (.map (some m)) (yY r) true).run zb w=.ok (.tuple #[.int .i64 0,.bool false]) w:=by
 obtain ⟨k,hk⟩:=WO r hf;obtain ⟨v,b,hv,hr⟩:=vG YC hm mt_141 hk (K8 (t:=26) rfl) true;rw [hr];rcases hv with ⟨rfl,h⟩|⟨rfl,rfl,h⟩
 ·obtain ⟨j,y,hy,he,rfl⟩:=ids_mem h;exact absurd he (hn y (zy hy))
 ·rfl
end
section
open Go.RowKit Go.Maps
attribute [local go_sem] qt
theorem find_hit {p m:Nat} {lv:Value} {S:Sto} {i:Nat} {x:En} (hx:S.list[i]?=some x) (ha:Apart S.list) (hf:x.r.Fits) (w:World) (hs:(qF p lv m S).ho w) :
  Calls zb 74 #[.pointer (some ⟨p,0,none⟩),yY x.r] w fun e w'=>e=.returned (.tuple #[.int .i64 ((i:Int)+1),.nilIface])∧St w [] [] w':=by
 have HK:=Zk hs;have HE:=zh (za hx (za ha hf));have hi:=qI hx;obtain ⟨a,c,rfl,hm⟩:=kZ hs;unfold maxLen at hm;have H:=St.nil w [];clear hs hx ha hf;unfold yY;go_enter Tryz.func74,Tryz.ntmps74;go_wp2_with (first|refine sL ?_|(refine sS ?_;clear H;intros;rename_i H));refine zG H 11 [] [] (by kernel_rfl) (by kernel_rfl) ?_;apply Exists.intro;refine ⟨fun w1 hw1 HX=>?_,fun bs wr Hr=>?_⟩
 ·refine sG ?_;repeat (first|refine sQ ?_|((with_reducible refine isQLook ?_);refine QtLook.go (kt:=0) (et:=0) rfl rfl rfl _ (fun y=>look_hit ((HX y).known HK pk) HE.out.2.1 HE.out.1 HE.out.2.2) rfl ?_;simp only [Act.put,puA,puB,puC])|go_big_quiet_step (fail))
  exact wpQuiet_nil rfl
 clear H;have H:=Hr;clear Hr;replace H:=sH H;refine sT ?_;go_wp2_with (first|refine sL ?_|(refine sS ?_;clear H;intros;rename_i H));go_ret2;exact ⟨rfl,H.nix⟩
theorem Jq {p m:Nat} {lv:Value} {S:Sto} (r:Rl) (hn:∀ x∈S.list,x.r≠r) (hf:r.Fits) (w:World) (hs:(qF p lv m S).ho w) (hmost:S.most<9223372036854775808) :
  Calls zb 74 #[.pointer (some ⟨p,0,none⟩),yY r] w fun e w'=>e=.returned (.tuple #[.int .i64 0,if S.most<=S.list.length then EV 3 else .nilIface])∧St w [] [] w':=by
 have HK:=Zk hs;have HE:=zh (za hn hf);obtain ⟨a,c,rfl,hm⟩:=kZ hs;unfold maxLen at hm;have H:=St.nil w [];clear hs hn hf;unfold yY;go_enter Tryz.func74,Tryz.ntmps74;go_wp2_with (first|refine sL ?_|(refine sS ?_;clear H;intros;rename_i H));refine zG H 11 [] [] (by kernel_rfl) (by kernel_rfl) ?_;apply Exists.intro;refine ⟨fun w1 hw1 HX=>?_,fun bs wr Hr=>?_⟩
 ·refine sG ?_;repeat (first|refine sQ ?_|((with_reducible refine isQLook ?_);refine QtLook.go (kt:=0) (et:=0) rfl rfl rfl _ (fun y=>look_miss ((HX y).known HK pk) HE.out.1 HE.out.2) rfl ?_;simp only [Act.put,puA,puB,puC])|go_big_quiet_step (fail))
  exact wpQuiet_nil rfl
 clear H;have H:=Hr;clear Hr;replace H:=sH H;refine sT ?_;by_cases h:S.most<=S.list.length
 ·go_wp2_with (first|refine sL ?_|(refine sS ?_;clear H;intros;rename_i H));refine zG H 10 [] [] (by kernel_rfl) (by kernel_rfl) ?_;apply Exists.intro;refine ⟨fun w1 hw1 HX=>?_,fun bs wr Hr=>?_⟩
  ·refine sG ?_;repeat (first|refine sQ ?_|fail|go_big_quiet_step (fail))
   exact wpQuiet_nil rfl
  clear H;have H:=Hr;clear Hr;replace H:=sH H;refine sT ?_;go_wp2_with (first|refine sL ?_|(refine sS ?_;clear H;intros;rename_i H));go_ret2;exact ⟨rfl,H.nix⟩
 ·go_wp2_with (first|refine sL ?_|(refine sS ?_;clear H;intros;rename_i H));refine zG H 10 [] [] (by kernel_rfl) (by kernel_rfl) ?_;apply Exists.intro;refine ⟨fun w1 hw1 HX=>?_,fun bs wr Hr=>?_⟩
  ·refine sG ?_;repeat (first|refine sQ ?_|fail|go_big_quiet_step (fail))
   exact wpQuiet_nil rfl
  clear H;have H:=Hr;clear Hr;replace H:=sH H;refine sT ?_;go_wp2_with (first|refine sL ?_|(refine sS ?_;clear H;intros;rename_i H));go_ret2;exact ⟨rfl,H.nix⟩
theorem stoA_open {p m:Nat} {lv:Value} {S:Sto} {w0 w:World} {M:List Nat} {R:List As} (h:St w0 M (qF p lv m S::R) w) :
  St w0 M (blk p (.cells #[.int .i64 S.most,lv,.map (some m)] 143)::zc enL 146 13 lv S.list::zP zb 131 m (Zc S.list)::R) w:=by
 have h1:=St.sep (A:=blk p (.cells #[.int .i64 S.most,lv,.map (some m)] 143)) h;exact (St.sep (h1.perm (wg.swap _ _ _))).perm ((wg.cons _ (wg.swap _ _ _)).trans (wg.swap _ _ _))
theorem JX {p m n:Nat} {lv:Value} {l:List En} {es:List (Value×Value)} {w0 w:World} {M:List Nat} {R:List As} (h:St w0 M (blk p (.cells #[.int .i64 (n:Nat),lv,.map (some m)] 143)::zc enL 146 13 lv l::zP zb 131 m es::R) w) (he:es=Zc l) :
  St w0 M (qF p lv m ⟨n,l⟩::R) w:=by
 subst he;have h1:=h.perm ((wg.swap _ _ _).trans (wg.cons _ (wg.swap _ _ _)));have h2:=(St.join h1).perm (wg.swap _ _ _);exact St.join h2
theorem enL_one (x:En):∀ u∈enL x,u.oneCell'=true:=by
 intro u hu;simp only [enL,zL,List.not_mem_nil,or_false] at hu;rcases hu with rfl|rfl|rfl|rfl|rfl|rfl|rfl|rfl|rfl|rfl|rfl|rfl|rfl <;> rfl
def Added (p m:Nat) (M:List Nat) (S:Sto) (x:En) (w:World) (e:Ending) (w':World):Prop:=∃ lv,e=.returned (.int .i64 ((S.list.length:Int)+1))∧St w M [qF p lv m ⟨S.most,S.list++[x]⟩] w'
attribute [local go_sem] StStep jw yM in
theorem add_st {p m:Nat} {lv:Value} {S:Sto} (x:En) (hn:∀ y∈S.list,y.r≠x.r) (hf:x.r.Fits) (hl:S.list.length<1048576) (w:World) (hs:(qF p lv m S).ho w) :
  Calls zb 75 #[.pointer (some ⟨p,0,none⟩),.agg (enL x).toArray] w (Added p m (qF p lv m S).fp S x w):=by
 have H:=stoA_open (St.one hs);generalize (qF p lv m S).fp=M at H ⊢;obtain ⟨l,hk⟩:=WO x.r hf;have HN:=zh (za (show ∀ e∈Zc S.list,e.1≠yY x.r from fun e he=>by obtain ⟨i,y,hy,rfl⟩:=ids_all he;exact fun h=>hn y (zy hy) (JR h)) hk);obtain ⟨a,c,rfl,hm⟩:=kZ hs;clear hs hn hf hk hm;go_enter Tryz.func75,Tryz.ntmps75;go_wp2_with (first|refine sL ?_|(refine sS ?_;clear H;intros;rename_i H));rename_i b3 _ _ _;replace H:=H.pick (A:=zc enL 146 13 (.slice a S.list.length c) S.list) pk;refine ka H [blk b3 (.cells (enL x).toArray 146),blk p (.cells #[.int .i64 S.most,.slice a S.list.length c,.map (some m)] 143),zP zb 131 m (Zc S.list)] 8 [⟨[],[],[],fun v _=>v=.pointer (some ⟨p,0,none⟩),fun _ _=>[]⟩,⟨[],[],[],fun v _=>v=.pointer (some ⟨p,0,none⟩),fun _ _=>[]⟩,⟨[],[],[1],fun v _=>v=.pointer (some ⟨p,0,none⟩),fun _ _=>[]⟩,⟨[],[],[2],fun v _=>v=.pointer (some ⟨p,1,none⟩),fun _ _=>[]⟩,⟨[],[],[3],fun v _=>v=.slice a S.list.length c,fun _ _=>[]⟩,⟨[],[],[],fun v _=>v=.agg (enL x).toArray,fun _ _=>[]⟩,⟨[],[],[5],fun v _=>True,fun v _=>[zc enL 146 13 v [x]]⟩,⟨[8],[6],[4],fun _ _=>True,fun v _=>[zc enL 146 13 v (S.list++[x])]⟩,⟨[],[],[],fun _ _=>True,fun _ _=>[zc enL 146 13 (.slice a S.list.length c) S.list]⟩] (by kernel_rfl)
  [[],[],[(1,7)],[(2,8)],[(3,9)],[],[(5,11)],[(4,10),(6,12)]] [(0,6),(1,7),(2,8),(3,9),(4,10),(5,11),(6,12),(7,13)] [0,1,2,3,4,5,6,7] (by kernel_rfl) (by kernel_rfl) (by kernel_rfl) ⟨?_,?_,?_,?_,?_,?_,?_,?_,trivial⟩ ?_
 ·intro vals wx X hd H;clear hd;replace H:=sP H;simp only [yu,zx];go_simp;first|exact H|exact ⟨rfl,H⟩
 ·intro vals wx X hd H;clear hd;replace H:=sP H;simp only [yu,zx];go_simp;first|exact H|exact ⟨rfl,H⟩
 ·intro vals wx X hd H;have h1:vals 1=.pointer (some ⟨p,0,none⟩):=hd.1;clear hd;replace H:=sP H;simp only [yu,zx,zB,Act.put,zf,zq,zp,h1];clear h1;go_simp;first|exact H|exact ⟨rfl,H⟩
 ·intro vals wx X hd H;have h2:vals 2=.pointer (some ⟨p,0,none⟩):=hd.1;clear hd;replace H:=sP H;simp only [yu,zx,zB,Act.put,zf,zq,zp,h2];clear h2;go_simp;first|exact H|exact ⟨rfl,H⟩
 ·intro vals wx X hd H;have h3:vals 3=.pointer (some ⟨p,1,none⟩):=hd.1;clear hd;replace H:=sP H;simp only [yu,zx,zB,Act.put,zf,zq,zp,h3];first|refine StStep.cellT rfl rfl rfl gt rfl rfl ⟨rfl,H⟩|refine StStep.wholeT rfl rfl rfl gt rfl ⟨rfl,H⟩
 ·intro vals wx X hd H;clear hd;replace H:=sP H;simp only [yu,zx];first|refine StStep.cellT rfl rfl rfl gt rfl rfl ⟨rfl,H⟩|refine StStep.wholeT rfl rfl rfl gt rfl ⟨rfl,H⟩
 ·intro vals wx X hd H;have h5:vals 5=.agg (enL x).toArray:=hd.1;clear hd;replace H:=sP H;simp only [yu,zx,zB,Act.put,zf,zq,zp,h5];exact StStep.slice1 (enc:=enL) H rfl rfl rfl rfl rfl rfl rfl rfl rfl x rfl XE fun b w' H=>⟨trivial,H⟩
 ·intro vals wx X hd H;have h4:vals 4=.slice a S.list.length c:=hd.1;clear hd;replace H:=sP H;simp only [yu,zx,zB,Act.put,zf,zq,zp,h4];exact StStep.append (enc:=enL) rfl rfl rfl rfl rfl (by decide) (by decide) rfl rfl H (H.get (A:=zc enL 146 13 (vals 6) [x]) pk) XE enL_one (by simp;omega) fun v' w' H=>⟨trivial,H⟩
 intro vals wx hd H;have h0:vals 0=.pointer (some ⟨p,0,none⟩):=hd.1;have h1:vals 1=.pointer (some ⟨p,0,none⟩):=hd.2.1;have h2:vals 2=.pointer (some ⟨p,0,none⟩):=hd.2.2.1;have h3:vals 3=.pointer (some ⟨p,1,none⟩):=hd.2.2.2.1;have h4:vals 4=.slice a S.list.length c:=hd.2.2.2.2.1;have h5:vals 5=.agg (enL x).toArray:=hd.2.2.2.2.2.1;have h6:=hd.2.2.2.2.2.2.1;clear hd;replace H:=sP H;simp only [yu,zx,zB,Act.put,zf,zq,zp,wQ,yw,h0,h1,h2,h3,h4,h5];clear h0 h1 h2 h3 h4 h5;obtain ⟨ad,cp,e7,_⟩:=zE (H.get (A:=zc enL 146 13 (vals 7) (S.list++[x])) pk);rw [zi,qP] at e7;rw [e7] at H;simp only [e7];clear e7;generalize vals 6=v6 at H ⊢;go_wp2_with (first|refine sL ?_|(refine sS ?_;clear H;intros;rename_i H));refine zG H 7 [] [] (by kernel_rfl) (by kernel_rfl) ?_;apply Exists.intro;refine ⟨fun w1 hw1 HX=>?_,fun bs wr Hr=>?_⟩
 ·refine sG ?_;repeat (first|refine sQ ?_|fail|go_big_quiet_step (fail))
  exact wpQuiet_nil rfl
 clear H;have H:=Hr;clear Hr;replace H:=sH H;refine sT ?_;go_wp2_with (first|refine sL ?_|(refine sS ?_;clear H;intros;rename_i H)|((with_reducible refine Vq ?_);refine AtUpdate.new YC mt_141 H rfl rfl rfl pk (k:=yY x.r) rfl rfl HN.out.2 HN.out.1 ?_;clear H;intro _ H;simp only [Act.put,puA,puB,puC]));go_ret;exact ⟨.slice ad (S.list.length+1) cp,rfl,(JX (H.pick3 (A:=blk p (.cells #[.int .i64 S.most,.slice ad (S.list.length+1) cp,.map (some m)] 143)) pk (B:=zc enL 146 13 (.slice ad (S.list.length+1) cp) (S.list++[x])) pk
  (C:=zP zb 131 m (Zc S.list++[(yY x.r,.int .i64 ((S.list.length:Int)+1))])) pk) (ids_snoc _ _).symm).onlyHead⟩
end
section
def yG:Nat:=1152921504606846976
theorem KA:yG=1152921504606846976:=rfl
def xQ (b:Nat):En:=⟨⟨1,b,0,0,0⟩,Wt.letter b,0,true⟩
def wk (x y:En) (l r:Nat):En:=⟨⟨2,0,l,r,0⟩,x.w.join y.w,1+max x.depth y.depth,x.even&&y.even&&(decide (x.depth<=y.depth+1)&&decide (y.depth<=x.depth+1))⟩
def x8 (x:En) (l k:Nat):En:=⟨⟨3,0,l,0,k⟩,x.w.rep k,1+x.depth,false⟩
inductive EnOk (L:List En) (i:Nat):En->Prop
 |letter (b:Nat) (h:b<256):EnOk L i (xQ b)
 |pair (l r:Nat) (x y:En) (hl:l<i) (hr:r<i) (hx:L[l]?=some x) (hy:L[r]?=some y) (h:x.w.len+y.w.len<=yG):EnOk L i (wk x y (l+1) (r+1))
 |power (l k:Nat) (x:En) (hl:l<i) (hx:L[l]?=some x) (hk:2<=k) (h:x.w.len*k<=yG):EnOk L i (x8 x (l+1) k)
structure Sto.Ok (S:Sto):Prop where
 most:S.most<=1048576
 len:S.list.length<=S.most
 apart:Apart S.list
 ents:∀ (i:Nat) (x:En),S.list[i]?=some x->EnOk S.list i x
structure En.Good (x:En) (i:Nat):Prop where
 fits:x.r.Fits
 wok:x.w.Ok
 pos:0<x.w.len
 depth:x.depth<=i
theorem Wq (b:Nat):(Wt.letter b).len=1:=by unfold Wt.letter;split <;> rfl
theorem EnOk.good {L:List En} {i:Nat} {x:En} (hi:i<1048576) (ih:∀ j y,j<i->L[j]?=some y->y.Good j) (h:EnOk L i x):x.Good i:=by
 cases h with
 |letter b hb=>exact ⟨⟨by simp [xQ],hb,by simp [xQ],by simp [xQ],by simp [xQ]⟩,Wt.letter_ok b hb,by simp [xQ,Wq],by simp [xQ]⟩
 |pair l r x y hl hr hx hy h =>
  have g1:=ih l x hl hx;have g2:=ih r y hr hy;have h1:=g1.depth;have h2:=g2.depth;have p1:=g1.pos;rw [KA] at h;refine ⟨⟨by simp [wk],by simp [wk],by simp [wk];omega,by simp [wk];omega,by simp [wk]⟩,Wt.join_ok g1.wok g2.wok h,by simp [wk,Wt.join];omega,by simp [wk];omega⟩
 |power l k x hl hx hk h =>
  have g1:=ih l x hl hx;have h1:=g1.depth;have p1:=g1.pos;rw [KA] at h;have hkm:k<=x.w.len*k:=wY k p1;refine ⟨⟨by simp [x8],by simp [x8],by simp [x8];omega,by simp [x8],by simp [x8];omega⟩,Wt.rep_ok g1.wok p1 hk h,by simp [x8,Wt.rep];omega,by simp [x8];omega⟩
theorem Sto.Ok.good {S:Sto} (h:S.Ok):∀ (i:Nat) (x:En),S.list[i]?=some x->x.Good i:=by
 intro i;induction i using yJ with
 |_ i ih =>
  intro x hx;have hi:=qI hx;have:=h.len;have:=h.most;exact (h.ents i x hx).good (by omega) fun j y hj hy=>ih j hj y hy
theorem EnOk.snoc {L:List En} {i:Nat} {x y:En} (hi:i<=L.length) (h:EnOk L i x):EnOk (L++[y]) i x:=by
 cases h with
 |letter b hb=>exact .letter b hb
 |pair l r x y' hl hr hx hy h=>exact .pair l r x y' hl hr (by rw [qv (by omega)];exact hx) (by rw [qv (by omega)];exact hy) h
 |power l k x hl hx hk h=>exact .power l k x hl (by rw [qv (by omega)];exact hx) hk h
def Sto.look (S:Sto) (r:Rl):Option Nat:=S.list.findIdx? fun x=>decide (x.r=r)
theorem JC {S:Sto} {r:Rl} {i:Nat} (h:S.look r=some i):∃ x,S.list[i]?=some x∧x.r=r:=by
 unfold Sto.look at h;rw [List.findIdx?_eq_some_iff_getElem] at h;obtain ⟨h1,h2,_⟩:=h;exact ⟨S.list[i],by simp,by simpa using h2⟩
theorem kK {S:Sto} {r:Rl} (h:S.look r=none):∀ x∈S.list,x.r≠r:=by
 unfold Sto.look at h;rw [List.findIdx?_eq_none_iff] at h;intro x hx;simpa using h x hx
def Sto.put (S:Sto) (x:En):(Nat×Option Nat)×Sto :=
 match S.look x.r with
 |some i=>((i+1,none),S)
 |none=>if S.most<=S.list.length then ((0,some 3),S) else ((S.list.length+1,none),⟨S.most,S.list++[x]⟩)
theorem Sto.put_ok {S:Sto} (h:S.Ok) {x:En} (hx:EnOk S.list S.list.length x):(S.put x).2.Ok:=by
 unfold Sto.put;split
 ·exact h
 ·rename_i hn;have hn:=kK hn;split
  ·exact h
  ·rename_i hf;refine ⟨h.most,by simp;omega,fun i j y z hy hz he=>?_,fun i y hy=>?_⟩
   ·simp only at hy hz;rw [yS] at hy hz;split at hy <;> split at hz
    ·exact h.apart i j y z hy hz he
    ·have:z=x:=by
      rename_i h1 h2;have:j-S.list.length=0:=by
       have:=qI hz;simp at this;omega
      rw [this] at hz;simpa using hz.symm
     subst this;exact absurd he (hn y (zy hy))
    ·have:y=x:=by
      rename_i h1 h2;have:i-S.list.length=0:=by
       have:=qI hy;simp at this;omega
      rw [this] at hy;simpa using hy.symm
     subst this;exact absurd he.symm (hn z (zy hz))
    ·have:=qI hy;have:=qI hz;simp at *;omega
   ·simp only at hy ⊢;rw [yS] at hy;split at hy
    ·rename_i h1;exact (h.ents i y hy).snoc (by omega)
    ·have:=qI hy;have e:i=S.list.length:=(by simp at this;omega);subst e;simp at hy;subst hy;exact hx.snoc (zr _)
theorem Sto.put_pre (S:Sto) (x:En):∃ l,(S.put x).2.list=S.list++l:=by
 unfold Sto.put;split
 ·exact ⟨[],by simp⟩
 ·split
  ·exact ⟨[],by simp⟩
  ·exact ⟨[x],rfl⟩
def Sto.letter (S:Sto) (b:Nat):(Nat×Option Nat)×Sto:=S.put (xQ b)
def Sto.pair (S:Sto) (l r:Nat):(Nat×Option Nat)×Sto :=
 match Zs S l,Zs S r with
 |some x,some y=>if l=0 then ((r,none),S) else if r=0 then ((l,none),S) else if yG<x.w.len+y.w.len then ((0,some 2),S) else S.put (wk x y l r)
 |_,_=>((0,some 1),S)
def Sto.power (S:Sto) (x k:Nat):(Nat×Option Nat)×Sto :=
 match Zs S x with
 |some e=>if k=0∨x=0 then ((0,none),S) else if k=1 then ((x,none),S) else if yG<e.w.len*k then ((0,some 2),S) else S.put (x8 e x k)
 |none=>((0,some 1),S)
theorem Yv {S:Sto} {i:Nat} (h:i<=S.list.length):∃ x,Zs S i=some x:=by
 cases i with
 |zero=>exact ⟨_,rfl⟩
 |succ i=>exact ⟨S.list[i],by simp [Zs]⟩
theorem Sto.letter_ok {S:Sto} (h:S.Ok) {b:Nat} (hb:b<256):(S.letter b).2.Ok:=Sto.put_ok h (.letter b hb)
end
section
open Go.RowKit Go.Maps
attribute [local go_sem] qt
def wI:Option Nat->Value
 |none=>.nilIface
 |some c=>EV c
def StoPost (p m:Nat) (M:List Nat) (r:(Nat×Option Nat)×Sto) (w:World) (e:Ending) (w':World):Prop :=
 ∃ lv,e=.returned (.tuple #[.int .i64 r.1.1,wI r.1.2])∧St w M [qF p lv m r.2] w'
theorem StoPost.mk {p m:Nat} {M:List Nat} {r:(Nat×Option Nat)×Sto} {w:World} {e:Ending} {w':World} (lv:Value) (he:e=.returned (.tuple #[.int .i64 r.1.1,wI r.1.2])) (h:St w M [qF p lv m r.2] w'):StoPost p m M r w e w':=⟨lv,he,h⟩
theorem Qr {p m:Nat} {lv:Value} {S:Sto} {i:Nat} (r:Rl) (h:S.Ok) (hl:S.look r=some i) (w:World) (hs:(qF p lv m S).ho w) :
  Calls zb 74 #[.pointer (some ⟨p,0,none⟩),yY r] w fun e w'=>e=.returned (.tuple #[.int .i64 ((i:Int)+1),.nilIface])∧St w [] [] w':=by
 obtain ⟨x,hx,rfl⟩:=JC hl;exact find_hit hx h.apart (h.good i x hx).fits w hs
theorem ZH {p m:Nat} {lv:Value} {S:Sto} (r:Rl) (hf:r.Fits) (h:S.Ok) (hl:S.look r=none) (hm:S.most<=S.list.length) (w:World) (hs:(qF p lv m S).ho w) :
  Calls zb 74 #[.pointer (some ⟨p,0,none⟩),yY r] w fun e w'=>e=.returned (.tuple #[.int .i64 0,.iface 73 (.int .i64 3)])∧St w [] [] w':=by
 have:=Jq r (kK hl) hf w hs (by have:=h.most;omega);rwa [if_pos hm] at this
theorem Qs {p m:Nat} {lv:Value} {S:Sto} (r:Rl) (hf:r.Fits) (h:S.Ok) (hl:S.look r=none) (hm:¬ S.most<=S.list.length) (w:World) (hs:(qF p lv m S).ho w) :
  Calls zb 74 #[.pointer (some ⟨p,0,none⟩),yY r] w fun e w'=>e=.returned (.tuple #[.int .i64 0,.nilIface])∧St w [] [] w':=by
 have:=Jq r (kK hl) hf w hs (by have:=h.most;omega);rwa [if_neg hm] at this
theorem wletter_l (b:Nat) (hb:b<256) (w:World) :
  Calls zb 76 #[.int .u8 b] w fun e w'=>e=.returned (.agg #[.int .i64 (Wt.letter b).len,.int .i64 (Wt.letter b).lines,.int .i64 (Wt.letter b).head,.int .i64 (Wt.letter b).tail,.int .u64 (Wt.letter b).val,.int .u64 (Wt.letter b).scale])∧St w [] [] w':=wletter_c b hb w
theorem letter_c {p m:Nat} {lv:Value} {S:Sto} (h:S.Ok) (b:Nat) (hb:b<256) (w:World) (hs:(qF p lv m S).ho w) :
  Calls zb 42 #[.pointer (some ⟨p,0,none⟩),.int .u8 b] w (StoPost p m (qF p lv m S).fp (S.letter b) w):=by
 have H:=St.one hs;generalize (qF p lv m S).fp=M at H ⊢;have HF:Hid (Rl.Fits ⟨1,b,0,0,0⟩):=zh ⟨by simp,hb,by simp,by simp,by simp⟩;have HB:=zh hb;clear hs hb;have hlen:=h.len;have hmost:=h.most;have HO:=zh h;cases hl:S.look ⟨1,b,0,0,0⟩ with
 |some i =>
  have HR:Hid (S.letter b=((i+1,none),S)):=zh (by simp [Sto.letter,Sto.put,xQ,hl]);have HL:=zh hl;clear hl h;go_enter Tryz.func42,Tryz.ntmps42;go_wp2_with (first|refine sL ?_|(refine sS ?_;clear H;intros;rename_i H)|(go_at_call 74;refine (Qr ⟨1,b,0,0,0⟩ HO.out HL.out _ (H.get pk)).mono ?_;rintro e wc ⟨rfl,hb⟩;replace H:=H.grew hb.below;clear hb));go_ret2;exact StoPost.mk lv (by rw [HR.out];rfl) (by rw [HR.out];exact H.only pk)
 |none =>
  have HL:=zh hl;by_cases hm:S.most<=S.list.length
  ·have HR:Hid (S.letter b=((0,some 3),S)):=zh (by simp [Sto.letter,Sto.put,xQ,hl,hm]);have HM:=zh hm;clear hl h hm;go_enter Tryz.func42,Tryz.ntmps42;go_wp2_with (first|refine sL ?_|(refine sS ?_;clear H;intros;rename_i H)|(go_at_call 74;refine (ZH ⟨1,b,0,0,0⟩ HF.out HO.out HL.out HM.out _ (H.get pk)).mono ?_;rintro e wc ⟨rfl,hb⟩;replace H:=H.grew hb.below;clear hb));go_ret2;exact StoPost.mk lv (by rw [HR.out];rfl) (by rw [HR.out];exact H.only pk)
  ·have HR:Hid (S.letter b=((S.list.length+1,none),⟨S.most,S.list++[xQ b]⟩)):=zh (by simp [Sto.letter,Sto.put,xQ,hl,hm]);have HM:=zh hm;have hlt:S.list.length<1048576:=(by omega);clear hl h hm;go_enter Tryz.func42,Tryz.ntmps42;go_wp2_with (first|refine sL ?_|(refine sS ?_;clear H;intros;rename_i H)|(go_at_call 74;refine (Qs ⟨1,b,0,0,0⟩ HF.out HO.out HL.out HM.out _ (H.get pk)).mono ?_;rintro e wc ⟨rfl,hb⟩;replace H:=H.grew hb.below;clear hb));refine zG H 5 [] [] (by kernel_rfl) (by kernel_rfl) ?_;apply Exists.intro;refine ⟨fun w1 hw1 HX=>?_,fun bs wr Hr=>?_⟩
   ·refine sG ?_;repeat (first|refine sQ ?_|go_big_quiet_step ((go_at_call 76;exact VN (wletter_l b HB.out _)))|go_big_quiet_step (fail))
    exact wpQuiet_nil rfl
   clear H;have H:=Hr;clear Hr;replace H:=sH H;refine sT ?_;go_wp2_with (first|refine sL ?_|(refine sS ?_;clear H;intros;rename_i H));refine (add_st (xQ b) (kK HL.out) HF.out hlt _ (H.get pk)).mono ?_;rintro e wc ⟨lv2,rfl,hb⟩;replace H:=(H.pick pk).call hb;clear hb;go_wp2_with (first|refine sL ?_|(refine sS ?_;clear H;intros;rename_i H));go_ret2;exact StoPost.mk lv2 (by rw [HR.out];rfl) (by rw [HR.out];exact H.onlyHead)
theorem QT (a b:Nat) (w:World) (h:a+b<=yG) :
  Calls zb 61 #[.int .i64 a,.int .i64 b] w fun e w'=>e=.returned (.tuple #[.int .i64 (a+b:Nat),.nilIface])∧w'=w:=add_ok a b w h
theorem add_long_e (a b:Nat) (w:World) (ha:a<=yG) (hb:b<=yG) (h:yG<a+b) :
  Calls zb 61 #[.int .i64 a,.int .i64 b] w fun e w'=>e=.returned (.tuple #[.int .i64 0,.iface 73 (.int .i64 2)])∧w'=w:=add_long a b w ha hb h
theorem Y1 (a k:Nat) (w:World) (ha:0<a) (ha':a<=yG) (h:a*k<=yG) :
  Calls zb 101 #[.int .i64 a,.int .i64 k] w fun e w'=>e=.returned (.tuple #[.int .i64 (a*k:Nat),.nilIface])∧w'=w:=mul_ok a k _ rfl w ha ha' h
theorem mul_long_e (a k:Nat) (w:World) (ha:0<a) (ha':a<=yG) (h:yG<a*k) :
  Calls zb 101 #[.int .i64 a,.int .i64 k] w fun e w'=>e=.returned (.tuple #[.int .i64 0,.iface 73 (.int .i64 2)])∧w'=w:=mul_long a k _ rfl w ha ha' h
theorem wjoin_l (a b:Wt) (ha:a.Ok) (hb:b.Ok) (hl:a.len+b.len<=yG) (w:World) :
  Calls zb 77 #[.agg #[.int .i64 a.len,.int .i64 a.lines,.int .i64 a.head,.int .i64 a.tail,.int .u64 a.val,.int .u64 a.scale],.agg #[.int .i64 b.len,.int .i64 b.lines,.int .i64 b.head,.int .i64 b.tail,.int .u64 b.val,.int .u64 b.scale]] w
   fun e w'=>e=.returned (.tuple #[.agg #[.int .i64 (a.join b).len,.int .i64 (a.join b).lines,.int .i64 (a.join b).head,.int .i64 (a.join b).tail,.int .u64 (a.join b).val,.int .u64 (a.join b).scale],.nilIface])∧St w [] [] w':=wjoin_c a b ha hb hl w
theorem wrepeat_l (x:Wt) (hx:x.Ok) (hp:0<x.len) (k:Nat) (hk:0<k) (hl:x.len*k<=yG) (w:World) :
  Calls zb 102 #[.agg #[.int .i64 x.len,.int .i64 x.lines,.int .i64 x.head,.int .i64 x.tail,.int .u64 x.val,.int .u64 x.scale],.int .i64 k] w
   fun e w'=>e=.returned (.tuple #[.agg #[.int .i64 (x.rep k).len,.int .i64 (x.rep k).lines,.int .i64 (x.rep k).head,.int .i64 (x.rep k).tail,.int .u64 (x.rep k).val,.int .u64 (x.rep k).scale],.nilIface])∧St w [] [] w':=wrepeat_c x hx hp k hk hl _ rfl w
theorem Zp {p m:Nat} {lv:Value} {S:Sto} {i:Nat} {x:En} (hx:S.list[i]?=some x) (w:World) (hs:(qF p lv m S).ho w) :
  Calls zb 73 #[.pointer (some ⟨p,0,none⟩),.int .i64 ((i:Int)+1)] w fun e w'=>e=.returned (.agg #[.int .i64 x.r.kind,.int .u8 x.r.letter,.int .i64 x.r.left,.int .i64 x.r.right,.int .i64 x.r.times,.int .i64 x.w.len,.int .i64 x.w.lines,.int .i64 x.w.head,.int .i64 x.w.tail,.int .u64 x.w.val,.int .u64 x.w.scale,.int .i64 x.depth,.bool x.even])∧St w [] [] w':=at_c hx _ rfl w hs
theorem Jk {P:Program} {f:FuncId} {xs ys:Array Value} {w:World} {Q:Ending->World->Prop} (e:xs=ys) (h:Calls P f ys w Q):Calls P f xs w Q:=e ▸ h
theorem pair_in {p m:Nat} {lv:Value} {S:Sto} (h:S.Ok) (l r:Nat) (x y:En) (hx:S.list[l]?=some x) (hy:S.list[r]?=some y) (hs2:x.w.len+y.w.len<=yG) (w:World) (hs:(qF p lv m S).ho w) :
  Calls zb 43 #[.pointer (some ⟨p,0,none⟩),.int .i64 ((l:Int)+1),.int .i64 ((r:Int)+1)] w (StoPost p m (qF p lv m S).fp (S.put (wk x y (l+1) (r+1))) w):=by
 have H:=St.one hs;generalize (qF p lv m S).fp=M at H ⊢;have hlen:=h.len;have hmost:=h.most;have hli:=qI hx;have hri:=qI hy;have gx:=h.good l x hx;have gy:=h.good r y hy;have hdx:=gx.depth;have hdy:=gy.depth;have HG:=zh (za gx (za gy hs2));have HX0:=zh (za hx hy);have HO:=zh h;obtain ⟨rl,hrl⟩:∃ rl,rl=(⟨2,0,l+1,r+1,0⟩:Rl):=⟨_,rfl⟩
 have HF:Hid (Rl.Fits ⟨2,0,l+1,r+1,0⟩):=zh ⟨by simp,by simp,by simp;omega,by simp;omega,by simp⟩;clear hs hx hy gx gy hs2 hrl rl;cases hl:S.look ⟨2,0,l+1,r+1,0⟩ with
 |some i =>
  have HR:Hid (S.put (wk x y (l+1) (r+1))=((i+1,none),S)):=zh (by simp [Sto.put,wk,hl]);have HL:=zh hl;clear hl h;go_enter vJ,ve;go_wp2_with (first|refine sL ?_|(refine sS ?_;clear H;intros;rename_i H)|(go_at_call 72;refine same (yX _ _ (H.get pk) (by omega) (by omega)) ?_));refine (Zp HX0.out.1 _ (H.get pk)).mono ?_;rintro e wc ⟨rfl,hb⟩;replace H:=H.grew hb.below;clear hb;go_wp2_with (first|refine sL ?_|(refine sS ?_;clear H;intros;rename_i H));refine (Zp HX0.out.2 _ (H.get pk)).mono ?_;rintro e wc ⟨rfl,hb⟩;replace H:=H.grew hb.below;clear hb;go_wp2_with (first|refine sL ?_|(refine sS ?_;clear H;intros;rename_i H)|(go_at_call 61;refine same (QT x.w.len y.w.len _ HG.out.2.2) ?_)|(go_at_call 74;refine (Qr ⟨2,0,l+1,r+1,0⟩ HO.out HL.out _ (H.get pk)).mono ?_;rintro e wc ⟨rfl,hb⟩;replace H:=H.grew hb.below;clear hb));go_ret2;exact StoPost.mk lv (by rw [HR.out];rfl) (by rw [HR.out];exact H.only pk)
 |none =>
  have HL:=zh hl;by_cases hm:S.most<=S.list.length
  ·have HR:Hid (S.put (wk x y (l+1) (r+1))=((0,some 3),S)):=zh (by simp [Sto.put,wk,hl,hm]);have HM:=zh hm;clear hl h hm;go_enter vJ,ve;go_wp2_with (first|refine sL ?_|(refine sS ?_;clear H;intros;rename_i H)|(go_at_call 72;refine same (yX _ _ (H.get pk) (by omega) (by omega)) ?_));refine (Zp HX0.out.1 _ (H.get pk)).mono ?_;rintro e wc ⟨rfl,hb⟩;replace H:=H.grew hb.below;clear hb;go_wp2_with (first|refine sL ?_|(refine sS ?_;clear H;intros;rename_i H));refine (Zp HX0.out.2 _ (H.get pk)).mono ?_;rintro e wc ⟨rfl,hb⟩;replace H:=H.grew hb.below;clear hb;go_wp2_with (first|refine sL ?_|(refine sS ?_;clear H;intros;rename_i H)|(go_at_call 61;refine same (QT x.w.len y.w.len _ HG.out.2.2) ?_)|(go_at_call 74;refine (ZH ⟨2,0,l+1,r+1,0⟩ HF.out HO.out HL.out HM.out _ (H.get pk)).mono ?_;rintro e wc ⟨rfl,hb⟩;replace H:=H.grew hb.below;clear hb));go_ret2;exact StoPost.mk lv (by rw [HR.out];rfl) (by rw [HR.out];exact H.only pk)
  ·have HR:Hid (S.put (wk x y (l+1) (r+1))=((S.list.length+1,none),⟨S.most,S.list++[wk x y (l+1) (r+1)]⟩)):=zh (by simp [Sto.put,wk,hl,hm]);have HM:=zh hm;have hlt:S.list.length<1048576:=(by omega);clear hl h hm;go_enter vJ,ve;go_wp2_with (first|refine sL ?_|(refine sS ?_;clear H;intros;rename_i H)|(go_at_call 72;refine same (yX _ _ (H.get pk) (by omega) (by omega)) ?_));refine (Zp HX0.out.1 _ (H.get pk)).mono ?_;rintro e wc ⟨rfl,hb⟩;replace H:=H.grew hb.below;clear hb;go_wp2_with (first|refine sL ?_|(refine sS ?_;clear H;intros;rename_i H));refine (Zp HX0.out.2 _ (H.get pk)).mono ?_;rintro e wc ⟨rfl,hb⟩;replace H:=H.grew hb.below;clear hb;go_wp2_with (first|refine sL ?_|(refine sS ?_;clear H;intros;rename_i H)|(go_at_call 61;refine same (QT x.w.len y.w.len _ HG.out.2.2) ?_)|(go_at_call 74;refine (Qs ⟨2,0,l+1,r+1,0⟩ HF.out HO.out HL.out HM.out _ (H.get pk)).mono ?_;rintro e wc ⟨rfl,hb⟩;replace H:=H.grew hb.below;clear hb));refine (wjoin_l x.w y.w HG.out.1.wok HG.out.2.1.wok HG.out.2.2 _).mono ?_;rintro e wc ⟨rfl,hb⟩;replace H:=H.grew hb.below;clear hb;obtain ⟨ex,hex⟩:∃ ex,ex=x.even:=⟨_,rfl⟩
   obtain ⟨ey,hey⟩:∃ ey,ey=y.even:=⟨_,rfl⟩
   rw [← hex,← hey] at H;have HEX:=zh hex;have HEY:=zh hey;clear hex hey;cases ex <;> cases ey <;> by_cases h1:x.depth<=y.depth+1 <;> by_cases h2:y.depth<=x.depth+1
   all_goals first
    |(exfalso;omega)
    |skip
   all_goals
    go_wp2_with (first|refine sL ?_|(refine sS ?_;clear H;intros;rename_i H));all_goals
     refine Jk (ys:=#[.pointer (some ⟨p,0,none⟩),.agg (enL (wk x y (l+1) (r+1))).toArray]) ?_ ((add_st (wk x y (l+1) (r+1)) (kK HL.out) HF.out hlt _ (H.get pk)).mono ?_)
     ·simp [enL,wk,← HEX.out,← HEY.out,h1,h2];try omega
     rintro e wc ⟨lv2,rfl,hb⟩;replace H:=(H.pick pk).call hb;clear hb;go_wp2_with (first|refine sL ?_|(refine sS ?_;clear H;intros;rename_i H));go_ret2;exact StoPost.mk lv2 (by rw [HR.out];rfl) (by rw [HR.out];exact H.onlyHead)
end
section
open Go.RowKit Go.Maps
attribute [local go_sem] qt
theorem pair_long {p m:Nat} {lv:Value} {S:Sto} (h:S.Ok) (l r:Nat) (x y:En) (hx:S.list[l]?=some x) (hy:S.list[r]?=some y) (hs2:yG<x.w.len+y.w.len) (w:World) (hs:(qF p lv m S).ho w) :
  Calls zb 43 #[.pointer (some ⟨p,0,none⟩),.int .i64 ((l:Int)+1),.int .i64 ((r:Int)+1)] w (StoPost p m (qF p lv m S).fp ((0,some 2),S) w):=by
 have H:=St.one hs;generalize (qF p lv m S).fp=M at H ⊢;have hlen:=h.len;have hmost:=h.most;have hli:=qI hx;have hri:=qI hy;have gx:=h.good l x hx;have gy:=h.good r y hy;have HG:=zh (za gx.wok.len (za gy.wok.len hs2));have HX0:=zh (za hx hy);clear hs hx hy gx gy hs2 h;go_enter vJ,ve;go_wp2_with (first|refine sL ?_|(refine sS ?_;clear H;intros;rename_i H)|(go_at_call 72;refine same (yX _ _ (H.get pk) (by omega) (by omega)) ?_));refine (Zp HX0.out.1 _ (H.get pk)).mono ?_;rintro e wc ⟨rfl,hb⟩;replace H:=H.grew hb.below;clear hb;go_wp2_with (first|refine sL ?_|(refine sS ?_;clear H;intros;rename_i H));refine (Zp HX0.out.2 _ (H.get pk)).mono ?_;rintro e wc ⟨rfl,hb⟩;replace H:=H.grew hb.below;clear hb;go_wp2_with (first|refine sL ?_|(refine sS ?_;clear H;intros;rename_i H)|(go_at_call 61;refine same (add_long_e x.w.len y.w.len _ HG.out.1 HG.out.2.1 HG.out.2.2) ?_));go_ret2;exact StoPost.mk lv rfl (H.only pk)
theorem pair_left {p m:Nat} {lv:Value} {S:Sto} (h:S.Ok) (r:Nat) (hr:r<=S.list.length) (w:World) (hs:(qF p lv m S).ho w) :
  Calls zb 43 #[.pointer (some ⟨p,0,none⟩),.int .i64 0,.int .i64 (r:Int)] w (StoPost p m (qF p lv m S).fp ((r,none),S) w):=by
 have H:=St.one hs;generalize (qF p lv m S).fp=M at H ⊢;have hlen:=h.len;have hmost:=h.most;clear hs h;go_enter vJ,ve;go_wp2_with (first|refine sL ?_|(refine sS ?_;clear H;intros;rename_i H)|(go_at_call 72;refine same (yX _ _ (H.get pk) (by omega) (by omega)) ?_));go_ret2;exact StoPost.mk lv rfl (H.only pk)
theorem pair_right {p m:Nat} {lv:Value} {S:Sto} (h:S.Ok) (l:Nat) (hr:l<S.list.length) (w:World) (hs:(qF p lv m S).ho w) :
  Calls zb 43 #[.pointer (some ⟨p,0,none⟩),.int .i64 ((l:Int)+1),.int .i64 0] w (StoPost p m (qF p lv m S).fp ((l+1,none),S) w):=by
 have H:=St.one hs;generalize (qF p lv m S).fp=M at H ⊢;have hlen:=h.len;have hmost:=h.most;clear hs h;go_enter vJ,ve;go_wp2_with (first|refine sL ?_|(refine sS ?_;clear H;intros;rename_i H)|(go_at_call 72;refine same (yX _ _ (H.get pk) (by omega) (by omega)) ?_));go_ret2;exact StoPost.mk lv rfl (H.only pk)
theorem pair_c {p m:Nat} {lv:Value} {S:Sto} (h:S.Ok) (l r:Nat) (hl:l<=S.list.length) (hr:r<=S.list.length) (w:World) (hs:(qF p lv m S).ho w) :
  Calls zb 43 #[.pointer (some ⟨p,0,none⟩),.int .i64 (l:Int),.int .i64 (r:Int)] w (StoPost p m (qF p lv m S).fp (S.pair l r) w):=by
 obtain ⟨x,hx⟩:=Yv hl;obtain ⟨y,hy⟩:=Yv hr;unfold Sto.pair;simp only [hx,hy];cases l with
 |zero=>exact pair_left h r hr w hs
 |succ l =>
  rw [if_neg (by omega)];cases r with
  |zero=>exact pair_right h l hl w hs
  |succ r =>
   rw [if_neg (by omega)];split
   ·rename_i hlong;exact pair_long h l r x y hx hy hlong w hs
   ·rename_i hlong;exact pair_in h l r x y hx hy (by omega) w hs
theorem power_none {p m:Nat} {lv:Value} {S:Sto} (h:S.Ok) (x k:Nat) (hx:x<=S.list.length) (hk:k<9223372036854775808) (h0:k=0∨x=0) (w:World) (hs:(qF p lv m S).ho w) :
  Calls zb 70 #[.pointer (some ⟨p,0,none⟩),.int .i64 (x:Int),.int .i64 (k:Int)] w (StoPost p m (qF p lv m S).fp ((0,none),S) w):=by
 have H:=St.one hs;generalize (qF p lv m S).fp=M at H ⊢;have hlen:=h.len;have hmost:=h.most;clear hs h;by_cases hk0:k=0
 ·subst hk0;clear h0;go_enter kx,jM;go_wp2_with (first|refine sL ?_|(refine sS ?_;clear H;intros;rename_i H)|(go_at_call 72;refine same (yX _ _ (H.get pk) (by omega) (by omega)) ?_));go_ret2;exact StoPost.mk lv rfl (H.only pk)
 ·obtain rfl:x=0:=by omega
  clear h0;have hk1:((k:Int)==0)=false:=(by rw [beq_eq_false_iff_ne];omega);go_enter kx,jM;go_wp2_with (first|refine sL ?_|(refine sS ?_;clear H;intros;rename_i H)|(go_at_call 72;refine same (yX _ _ (H.get pk) (by omega) (by omega)) ?_));go_ret2;exact StoPost.mk lv rfl (H.only pk)
theorem power_one {p m:Nat} {lv:Value} {S:Sto} (h:S.Ok) (x:Nat) (hx:x<S.list.length) (w:World) (hs:(qF p lv m S).ho w) :
  Calls zb 70 #[.pointer (some ⟨p,0,none⟩),.int .i64 ((x:Int)+1),.int .i64 1] w (StoPost p m (qF p lv m S).fp ((x+1,none),S) w):=by
 have H:=St.one hs;generalize (qF p lv m S).fp=M at H ⊢;have hlen:=h.len;have hmost:=h.most;clear hs h;go_enter kx,jM;go_wp2_with (first|refine sL ?_|(refine sS ?_;clear H;intros;rename_i H)|(go_at_call 72;refine same (yX _ _ (H.get pk) (by omega) (by omega)) ?_));go_ret2;exact StoPost.mk lv rfl (H.only pk)
theorem power_long {p m:Nat} {lv:Value} {S:Sto} (h:S.Ok) (l k:Nat) (x:En) (hx:S.list[l]?=some x) (hk2:2<=k) (hk:k<9223372036854775808) (hs2:yG<x.w.len*k) (w:World) (hs:(qF p lv m S).ho w) :
  Calls zb 70 #[.pointer (some ⟨p,0,none⟩),.int .i64 ((l:Int)+1),.int .i64 (k:Int)] w (StoPost p m (qF p lv m S).fp ((0,some 2),S) w):=by
 have H:=St.one hs;generalize (qF p lv m S).fp=M at H ⊢;have hlen:=h.len;have hmost:=h.most;have hli:=qI hx;have gx:=h.good l x hx;have HG:=zh (za gx.pos (za gx.wok.len hs2));have HX0:=zh hx;have hk0:((k:Int)==0)=false:=(by rw [beq_eq_false_iff_ne];omega);have hk1:((k:Int)==1)=false:=(by rw [beq_eq_false_iff_ne];omega);clear hs hx gx hs2 h;go_enter kx,jM;go_wp2_with (first|refine sL ?_|(refine sS ?_;clear H;intros;rename_i H)|(go_at_call 72;refine same (yX _ _ (H.get pk) (by omega) (by omega)) ?_));refine (Zp HX0.out _ (H.get pk)).mono ?_;rintro e wc ⟨rfl,hb⟩;replace H:=H.grew hb.below;clear hb;go_wp2_with (first|refine sL ?_|(refine sS ?_;clear H;intros;rename_i H)|(go_at_call 101;refine same (mul_long_e x.w.len k _ HG.out.1 HG.out.2.1 HG.out.2.2) ?_));go_ret2;exact StoPost.mk lv rfl (H.only pk)
theorem power_in {p m:Nat} {lv:Value} {S:Sto} (h:S.Ok) (l k:Nat) (x:En) (hx:S.list[l]?=some x) (hk2:2<=k) (hs2:x.w.len*k<=yG) (w:World) (hs:(qF p lv m S).ho w) :
  Calls zb 70 #[.pointer (some ⟨p,0,none⟩),.int .i64 ((l:Int)+1),.int .i64 (k:Int)] w (StoPost p m (qF p lv m S).fp (S.put (x8 x (l+1) k)) w):=by
 have H:=St.one hs;generalize (qF p lv m S).fp=M at H ⊢;have hlen:=h.len;have hmost:=h.most;have hli:=qI hx;have gx:=h.good l x hx;have hdx:=gx.depth;have hkm:k<=1152921504606846976:=qs (wY k gx.pos) hs2;have HG:=zh (za gx hs2);have HX0:=zh hx;have HO:=zh h;have HF:Hid (Rl.Fits ⟨3,0,l+1,0,k⟩):=zh ⟨by simp,by simp,by simp;omega,by simp,by simp;omega⟩;have hk0:((k:Int)==0)=false:=(by rw [beq_eq_false_iff_ne];omega);have hk1:((k:Int)==1)=false:=(by rw [beq_eq_false_iff_ne];omega);clear hs hx gx hs2;cases hl:S.look ⟨3,0,l+1,0,k⟩ with
 |some i =>
  have HR:Hid (S.put (x8 x (l+1) k)=((i+1,none),S)):=zh (by simp [Sto.put,x8,hl]);have HL:=zh hl;clear hl h;go_enter kx,jM;go_wp2_with (first|refine sL ?_|(refine sS ?_;clear H;intros;rename_i H)|(go_at_call 72;refine same (yX _ _ (H.get pk) (by omega) (by omega)) ?_));refine (Zp HX0.out _ (H.get pk)).mono ?_;rintro e wc ⟨rfl,hb⟩;replace H:=H.grew hb.below;clear hb;go_wp2_with (first|refine sL ?_|(refine sS ?_;clear H;intros;rename_i H)|(go_at_call 101;refine same (Y1 x.w.len k _ HG.out.1.pos HG.out.1.wok.len HG.out.2) ?_)|(go_at_call 74;refine (Qr ⟨3,0,l+1,0,k⟩ HO.out HL.out _ (H.get pk)).mono ?_;rintro e wc ⟨rfl,hb⟩;replace H:=H.grew hb.below;clear hb));go_ret2;exact StoPost.mk lv (by rw [HR.out];rfl) (by rw [HR.out];exact H.only pk)
 |none =>
  have HL:=zh hl;by_cases hm:S.most<=S.list.length
  ·have HR:Hid (S.put (x8 x (l+1) k)=((0,some 3),S)):=zh (by simp [Sto.put,x8,hl,hm]);have HM:=zh hm;clear hl h hm;go_enter kx,jM;go_wp2_with (first|refine sL ?_|(refine sS ?_;clear H;intros;rename_i H)|(go_at_call 72;refine same (yX _ _ (H.get pk) (by omega) (by omega)) ?_));refine (Zp HX0.out _ (H.get pk)).mono ?_;rintro e wc ⟨rfl,hb⟩;replace H:=H.grew hb.below;clear hb;go_wp2_with (first|refine sL ?_|(refine sS ?_;clear H;intros;rename_i H)|(go_at_call 101;refine same (Y1 x.w.len k _ HG.out.1.pos HG.out.1.wok.len HG.out.2) ?_)|(go_at_call 74;refine (ZH ⟨3,0,l+1,0,k⟩ HF.out HO.out HL.out HM.out _ (H.get pk)).mono ?_;rintro e wc ⟨rfl,hb⟩;replace H:=H.grew hb.below;clear hb));go_ret2;exact StoPost.mk lv (by rw [HR.out];rfl) (by rw [HR.out];exact H.only pk)
  ·have HR:Hid (S.put (x8 x (l+1) k)=((S.list.length+1,none),⟨S.most,S.list++[x8 x (l+1) k]⟩)):=zh (by simp [Sto.put,x8,hl,hm]);have HM:=zh hm;have hlt:S.list.length<1048576:=(by omega);clear hl h hm;go_enter kx,jM;go_wp2_with (first|refine sL ?_|(refine sS ?_;clear H;intros;rename_i H)|(go_at_call 72;refine same (yX _ _ (H.get pk) (by omega) (by omega)) ?_));refine (Zp HX0.out _ (H.get pk)).mono ?_;rintro e wc ⟨rfl,hb⟩;replace H:=H.grew hb.below;clear hb;go_wp2_with (first|refine sL ?_|(refine sS ?_;clear H;intros;rename_i H)|(go_at_call 101;refine same (Y1 x.w.len k _ HG.out.1.pos HG.out.1.wok.len HG.out.2) ?_)|(go_at_call 74;refine (Qs ⟨3,0,l+1,0,k⟩ HF.out HO.out HL.out HM.out _ (H.get pk)).mono ?_;rintro e wc ⟨rfl,hb⟩;replace H:=H.grew hb.below;clear hb));refine (wrepeat_l x.w HG.out.1.wok HG.out.1.pos k (by omega) HG.out.2 _).mono ?_;rintro e wc ⟨rfl,hb⟩;replace H:=H.grew hb.below;clear hb;go_wp2_with (first|refine sL ?_|(refine sS ?_;clear H;intros;rename_i H));refine Jk (ys:=#[.pointer (some ⟨p,0,none⟩),.agg (enL (x8 x (l+1) k)).toArray]) ?_ ((add_st (x8 x (l+1) k) (kK HL.out) HF.out hlt _ (H.get pk)).mono ?_)
   ·simp [enL,x8]
   rintro e wc ⟨lv2,rfl,hb⟩;replace H:=(H.pick pk).call hb;clear hb;go_wp2_with (first|refine sL ?_|(refine sS ?_;clear H;intros;rename_i H));go_ret2;exact StoPost.mk lv2 (by rw [HR.out];rfl) (by rw [HR.out];exact H.onlyHead)
theorem power_c {p m:Nat} {lv:Value} {S:Sto} (h:S.Ok) (x k:Nat) (hx:x<=S.list.length) (hk:k<9223372036854775808) (w:World) (hs:(qF p lv m S).ho w) :
  Calls zb 70 #[.pointer (some ⟨p,0,none⟩),.int .i64 (x:Int),.int .i64 (k:Int)] w (StoPost p m (qF p lv m S).fp (S.power x k) w):=by
 obtain ⟨e,he⟩:=Yv hx;unfold Sto.power;simp only [he];by_cases h0:k=0∨x=0
 ·rw [if_pos h0];exact power_none h x k hx hk h0 w hs
 ·rw [if_neg h0];simp at h0;obtain ⟨l,rfl⟩:=zA h0.2;by_cases h1:k=1
  ·rw [if_pos h1];subst h1;exact power_one h l hx w hs
  ·rw [if_neg h1];split
   ·rename_i h2;exact power_long h l k e he (by omega) hk h2 w hs
   ·rename_i h2;exact power_in h l k e he (by omega) (by omega) w hs
end
section
inductive Tr where
 |leaf (b:Nat)
 |pair (l r:Tr)
 |pow (s:Tr) (k:Nat)
 deriving DecidableEq,Inhabited
def ZM (k x y:Nat):Nat:=((k+(1234567890123456789*x+987654321987654321*y)) ^ 17)%PP
theorem mixN_lt (k x y:Nat):ZM k x y<2305843009213693951:=by
 unfold ZM;rw [YS];exact qM _ (by decide)
def Tr.key:Tr->Nat
 |.leaf b=>ZM 1 b 0
 |.pair l r=>ZM 2 l.key r.key
 |.pow s k=>ZM 3 s.key k
theorem Tr.key_lt (t:Tr):t.key<2305843009213693951:=by cases t <;> exact mixN_lt _ _ _
def yt (x y L:Nat):Bool :=
 if L<2∨L%2=1 then false
 else if (L/2-1)%123=122 then decide (x=y)
 else decide (x/2 ^ ((L/2-1)%123/2)%2=(L/2-1)%123%2)&&decide (y/2 ^ ((L/2-1)%123/2)%2=1-(L/2-1)%123%2)
theorem Vf {x y:Nat} (hx:x<2305843009213693951) (hy:y<2305843009213693951):∃ c,c<123∧∀ L,2<=L->L%2=0->(L/2-1)%123=c->yt x y L=true:=by
 by_cases h:x=y
 ·refine ⟨122,by omega,fun L h2 h0 hc=>?_⟩;unfold yt;rw [if_neg (by omega),if_pos hc];simpa using h
 ·have hb:∃ i,i<61∧x/2 ^ i%2≠y/2 ^ i%2:=by
   refine Classical.byContradiction fun hn=>h (Nat.eq_of_testBit_eq fun i=>?_)
   rw [jP,jP];by_cases hi:i<61
   ·have:x/2 ^ i%2=y/2 ^ i%2:=Classical.byContradiction fun hne=>hn ⟨i,hi,hne⟩
    rw [this]
   ·have hp:2305843009213693952<=2 ^ i:=by
     have:=Nat.pow_le_pow_right (n:=2) (by omega) (show 61<=i by omega);simpa using this
    rw [Nat.div_eq_of_lt (by omega),Nat.div_eq_of_lt (by omega)]
  obtain ⟨i,hi,hne⟩:=hb;refine ⟨2*i+x/2 ^ i%2,by omega,fun L h2 h0 hc=>?_⟩;unfold yt;rw [if_neg (by omega),if_neg (by omega),hc,show (2*i+x/2 ^ i%2)/2=i by omega];simp;omega
theorem Xd {x y:Nat} (hx:x<2305843009213693951) (hy:y<2305843009213693951) (low:Nat):∃ m,m<123∧yt x y (2*(low/2+1)+2*m)=true:=by
 obtain ⟨c,hc,h⟩:=Vf hx hy;refine ⟨(c+123-(low/2)%123)%123,qM _ (by omega),h _ (by omega) (by omega) ?_⟩;omega
def xJ (low x y:Nat):Nat:=2*(low/2+1)+2*(((zk 123).find? fun m=>yt x y (2*(low/2+1)+2*m)).getD 0)
theorem Jj {low x y L:Nat} (h:low<L) (h2:L%2=0) (hL:L<=low+246) (hf:yt x y L=true) (hn:∀ L',low<L'->L'%2=0->L'<L->yt x y L'=false):xJ low x y=L:=by
 have hm:(zk 123).find? (fun m=>yt x y (2*(low/2+1)+2*m))=some (L/2-(low/2+1)):=by
  rw [List.find?_range_eq_some];refine ⟨?_,?_,fun j hj=>?_⟩
  ·rw [show 2*(low/2+1)+2*(L/2-(low/2+1))=L by omega];exact hf
  ·rw [zJ];omega
  ·rw [hn _ (by omega) (by omega) (by omega)];rfl
 unfold xJ;rw [hm];simp only [Option.getD_some];omega
theorem vv {x y:Nat} (hx:x<2305843009213693951) (hy:y<2305843009213693951) (low:Nat):low<xJ low x y∧xJ low x y<=low+246∧xJ low x y%2=0∧yt x y (xJ low x y)=true∧∀ L',low<L'->L'%2=0->L'<xJ low x y->yt x y L'=false:=by
 obtain ⟨m,hm,h⟩:=Xd hx hy low;cases hf:(zk 123).find? (fun m=>yt x y (2*(low/2+1)+2*m)) with
 |none =>
  rw [List.find?_eq_none] at hf;exact absurd h (by simpa using hf m (by simpa using hm))
 |some q =>
  have e:xJ low x y=2*(low/2+1)+2*q:=by
   unfold xJ;rw [hf];rfl
  rw [List.find?_range_eq_some] at hf;obtain ⟨h1,h2,h3⟩:=hf;rw [zJ] at h2;rw [e];refine ⟨by omega,by omega,by omega,h1,fun L' a b c=>?_⟩;have:=h3 (L'/2-(low/2+1)) (by omega);rw [show 2*(low/2+1)+2*(L'/2-(low/2+1))=L' by omega] at this;simpa using this
def Tr.lev:Tr->Option Nat
 |.leaf _=>some 0
 |.pair l r=>if l=r then none else match l.lev,r.lev with|some a,some b=>some (xJ (max a b) l.key r.key)|_,_=>none
 |.pow s _=>match s.lev with|some a=>if a%2=0 then some (a+1) else none|none=>none
def fits (L:Nat) (x y:Tr):Bool:=yt x.key y.key L
def zH (f:Tr->Tr->Bool):List Tr->List Tr
 |[]=>[]
 |[x]=>[x]
 |x::y::r=>if f x y then .pair x y::zH f r else x::zH f (y::r)
def qU:List Tr->List (Tr×Nat)
 |[]=>[]
 |x::r=>match qU r with|[]=>[(x,1)]|(y,k)::g=>if x=y then (y,k+1)::g else (x,1)::(y,k)::g
def jb (p:Tr×Nat):Tr:=if p.2=1 then p.1 else .pow p.1 p.2
def runs (l:List Tr):List Tr:=(qU l).map jb
def yc (L:Nat) (l:List Tr):List Tr:=if L%2=1 then runs l else zH (fits L) l
def xf (s:List Tr):Nat->List Tr
 |0=>s
 |m+1=>yc (m+1) (xf s m)
def Ch (R:Tr->Tr->Prop):List Tr->Prop
 |[]=>True
 |[_]=>True
 |x::y::r=>R x y∧Ch R (y::r)
theorem Ch.tail {R:Tr->Tr->Prop} {x:Tr} {l:List Tr} (h:Ch R (x::l)):Ch R l:=by
 cases l with
 |nil=>trivial
 |cons y r=>exact h.2
theorem Ch.cons {R:Tr->Tr->Prop} {x:Tr} {l:List Tr} (h:∀ y,l.head?=some y->R x y) (hl:Ch R l):Ch R (x::l):=by
 cases l with
 |nil=>trivial
 |cons y r=>exact ⟨h y rfl,hl⟩
theorem Ch.mono {R R':Tr->Tr->Prop}:∀ {l:List Tr},(∀ x∈l,∀ y∈l,R x y->R' x y)->Ch R l->Ch R' l
 |[],_,_=>trivial
 |[_],_,_=>trivial
 |x::y::r,h,⟨h1,h2⟩=>⟨h x (by simp) y (by simp) h1,Ch.mono (fun a ha b hb=>h a (by simp at ha ⊢;exact .inr ha) b (by simp at hb ⊢;exact .inr hb)) h2⟩
def Tr.Upto (m:Nat) (t:Tr):Prop:=∃ a,t.lev=some a∧a<=m
structure Nb (m:Nat) (x y:Tr):Prop where
 eq:x=y->m%2=0∧x.lev=some m
 fit:∀ L a b,x.lev=some a->y.lev=some b->a<L->b<L->L<=m->fits L x y=false
theorem wj (x:Tr) (l:List Tr):∃ k g,qU (x::l)=(x,k)::g:=by
 unfold qU;split
 ·exact ⟨_,_,rfl⟩
 ·split
  ·rename_i h;subst h;exact ⟨_,_,rfl⟩
  ·exact ⟨_,_,rfl⟩
theorem jo:∀ (l:List Tr),∀ p∈qU l,1<=p.2∧p.1∈l
 |[],p,h=>by simp [qU] at h
 |x::r,p,h=>by
  have ih:=jo r;unfold qU at h;split at h
  ·simp at h;subst h;simp
  ·rename_i y k g hg;rw [hg] at ih;split at h
   ·rename_i e;rcases zL.1 h with rfl|h
    ·exact ⟨by simp,by simp [e]⟩
    ·exact ⟨(ih p (by simp [h])).1,by simp [(ih p (by simp [h])).2]⟩
   ·rcases zL.1 h with rfl|h
    ·simp
    ·exact ⟨(ih p h).1,by simp [(ih p h).2]⟩
theorem vx:∀ (l:List Tr),(qU l).flatMap (fun p=>zd p.2 p.1)=l
 |[]=>rfl
 |x::r=>by
  have ih:=vx r;unfold qU;split
  ·rename_i h;rw [h] at ih;simp at ih ⊢;exact ih
  ·rename_i y k g h;rw [h] at ih;split
   ·rename_i e;subst e;simp only [zt,zS,zo] at ih ⊢;rw [ih]
   ·simp only [zt,zS,List.replicate_zero,zo,zv] at ih ⊢;rw [ih]
def ChG (R:Tr×Nat->Tr×Nat->Prop):List (Tr×Nat)->Prop
 |[]=>True
 |[_]=>True
 |x::y::r=>R x y∧ChG R (y::r)
theorem YB {R:Tr->Tr->Prop}:∀ {l:List Tr},Ch R l->ChG (fun p q=>p.1≠q.1∧R p.1 q.1) (qU l)
 |[],_=>trivial
 |[x],_=>trivial
 |x::y::r,⟨h1,h2⟩=>by
  have ih:=YB h2;obtain ⟨k,g,hg⟩:=wj y r;rw [qU,hg];rw [hg] at ih;simp only;split
  ·rename_i e;subst e;cases g with
   |nil=>trivial
   |cons q g=>exact ⟨ih.1,ih.2⟩
  ·rename_i e;exact ⟨⟨e,h1⟩,ih⟩
theorem Qu {R:Tr->Tr->Prop}:∀ {l:List Tr},Ch R l->∀ p∈qU l,2<=p.2->R p.1 p.1
 |[],_,p,h,_=>by simp [qU] at h
 |[x],_,p,h,h2=>by simp [qU] at h;subst h;simp at h2
 |x::y::r,⟨h1,hc⟩,p,h,h2=>by
  have ih:=Qu hc;obtain ⟨k,g,hg⟩:=wj y r;rw [qU,hg] at h;rw [hg] at ih;simp only at h;split at h
  ·rename_i e;subst e;rcases zL.1 h with rfl|h
   ·exact h1
   ·exact ih p (by simp [h]) h2
  ·rcases zL.1 h with rfl|h
   ·simp at h2
   ·exact ih p h h2
theorem chG_map {R:Tr×Nat->Tr×Nat->Prop} {R':Tr->Tr->Prop}:∀ {l:List (Tr×Nat)},(∀ p∈l,∀ q∈l,R p q->R' (jb p) (jb q))->ChG R l->Ch R' (l.map jb)
 |[],_,_=>trivial
 |[_],_,_=>trivial
 |x::y::r,h,⟨h1,h2⟩=>⟨h x (by simp) y (by simp) h1,chG_map (l:=y::r) (fun a ha b hb=>h a (by simp at ha ⊢;exact .inr ha) b (by simp at hb ⊢;exact .inr hb)) h2⟩
structure Lvl (m:Nat) (l:List Tr):Prop where
 upto:∀ t∈l,t.Upto m
 nb:Ch (Nb m) l
theorem lev_pow {x:Tr} {m k:Nat} (h:x.lev=some m) (he:m%2=0):(Tr.pow x k).lev=some (m+1):=by simp [Tr.lev,h,he]
theorem Lvl.runs {m:Nat} (he:m%2=0) {l:List Tr} (h:Lvl m l):Lvl (m+1) (runs l):=by
 have hp:∀ p∈qU l,(p.2=1∧jb p=p.1∧p.1.Upto m)∨(p.2≠1∧jb p=.pow p.1 p.2∧p.1.lev=some m∧(jb p).lev=some (m+1)):=fun p hp=>by
  obtain ⟨h1,h2⟩:=jo l p hp;by_cases h3:p.2=1
  ·exact .inl ⟨h3,by simp [jb,h3],h.upto _ h2⟩
  ·have:=(Qu h.nb p hp (by omega)).eq rfl;exact .inr ⟨h3,by simp [jb,h3],this.2,by simp only [jb,if_neg h3];exact lev_pow this.2 he⟩
 refine ⟨fun t ht=>?_,?_⟩
 ·obtain ⟨p,hpm,rfl⟩:=qY.1 ht;rcases hp p hpm with ⟨_,h2,a,h3,h4⟩|⟨_,_,_,h3⟩
  ·rw [h2];exact ⟨a,h3,by omega⟩
  ·exact ⟨_,h3,zr _⟩
 ·refine chG_map (fun p hpm q hqm hr=>?_) (YB h.nb);obtain ⟨hne,hnb⟩:=hr;refine ⟨fun e=>?_,fun L a b ha hb h1 h2 h3=>?_⟩
  ·exfalso;rcases hp p hpm with ⟨_,e1,a,h3,h4⟩|⟨_,e1,_,h3⟩ <;> rcases hp q hqm with ⟨_,e2,b,h5,h6⟩|⟨_,e2,_,h5⟩
   ·rw [e1,e2] at e;exact hne e
   ·rw [e] at e1;rw [← e1,h5] at h3;simp at h3;omega
   ·rw [← e] at e2;rw [← e2,h3] at h5;simp at h5;omega
   ·rw [e1,e2] at e;injection e with e;exact hne e
  ·rcases hp p hpm with ⟨_,e1,a',h4,h5⟩|⟨_,e1,_,h4⟩
   ·rcases hp q hqm with ⟨_,e2,b',h6,h7⟩|⟨_,e2,_,h6⟩
    ·rw [e1] at ha;rw [e2] at hb;rw [e1,e2];by_cases h8:L<=m
     ·exact hnb.fit L a b ha hb h1 h2 h8
     ·unfold fits yt;rw [if_pos (by omega)]
    ·rw [h6] at hb;simp at hb;omega
   ·rw [h4] at ha;simp at ha;omega
theorem Xn (f:Tr->Tr->Bool) (x:Tr) (l:List Tr):∃ z r,zH f (x::l)=z::r∧(z=x∨∃ y l',l=y::l'∧f x y=true∧z=.pair x y):=by
 cases l with
 |nil=>exact ⟨x,[],rfl,.inl rfl⟩
 |cons y l =>
  by_cases h:f x y=true
  ·exact ⟨.pair x y,zH f l,by simp [zH,h],.inr ⟨y,l,rfl,h,rfl⟩⟩
  ·exact ⟨x,zH f (y::l),by simp [zH,h],.inl rfl⟩
theorem Wu {x y:Tr} {m a b:Nat} (hx:x.lev=some a) (hy:y.lev=some b) (ha:a<=m) (hb:b<=m) (hm:m%2=1) (hn:Nb m x y) (hf:fits (m+1) x y=true):(Tr.pair x y).lev=some (m+1):=by
 have hne:x≠y:=fun e=>by have:=(hn.eq e).1;omega
 simp only [Tr.lev,if_neg hne,hx,hy,yk.injEq];obtain ⟨s1,s2,s3,s4,s5⟩:=vv (Tr.key_lt x) (Tr.key_lt y) (max a b);have h1:xJ (max a b) x.key y.key<=m+1:=kQ fun h=>by
  have:=s5 (m+1) (by omega) (by omega) h;unfold fits at hf;rw [hf] at this;cases this
 by_cases h2:xJ (max a b) x.key y.key<=m
 ·have:=hn.fit _ a b hx hy (by omega) (by omega) h2;unfold fits at this;rw [s4] at this;cases this
 ·omega
theorem Lvl.pairs {m:Nat} (ho:m%2=1):∀ {l:List Tr},Lvl m l->Lvl (m+1) (zH (fits (m+1)) l)
 |[],h=>⟨fun t ht=>by simp [zH] at ht,trivial⟩
 |[x],h=>⟨fun t ht=>by simp [zH] at ht;subst ht;obtain ⟨a,h1,h2⟩:=h.upto t (by simp);exact ⟨a,h1,by omega⟩,trivial⟩
 |x::y::r,h=>by
  obtain ⟨a,hx,ha⟩:=h.upto x (by simp);obtain ⟨b,hy,hb⟩:=h.upto y (by simp);unfold zH;split
  ·rename_i hf;have hl:=Wu hx hy ha hb ho h.nb.1 hf;have ih:=Lvl.pairs ho (l:=r) ⟨fun t ht=>h.upto t (by simp [ht]),h.nb.2.tail⟩;refine ⟨fun t ht=>?_,Ch.cons (fun z hz=>?_) ih.nb⟩
   ·rcases zL.1 ht with rfl|ht
    ·exact ⟨_,hl,zr _⟩
    ·exact ih.upto t ht
   ·refine ⟨fun e=>⟨by omega,hl⟩,fun L a' b' ha' hb' h1 h2 h3=>?_⟩;rw [hl] at ha';simp at ha';omega
  ·rename_i hf;have ih:=Lvl.pairs ho (l:=y::r) ⟨fun t ht=>h.upto t (by simp at ht ⊢;exact .inr ht),h.nb.2⟩;refine ⟨fun t ht=>?_,Ch.cons (fun z hz=>?_) ih.nb⟩
   ·rcases zL.1 ht with rfl|ht
    ·exact ⟨a,hx,by omega⟩
    ·exact ih.upto t ht
   ·obtain ⟨z',r',e,hz'⟩:=Xn (fits (m+1)) y r;rw [e] at hz;obtain rfl:z'=z:=by simpa using hz
    rcases hz' with rfl|⟨u,l',rfl,hfu,rfl⟩
    ·refine ⟨fun e=>?_,fun L a' b' ha' hb' h1 h2 h3=>?_⟩
     ·have:=(h.nb.1.eq e).1;omega
     ·by_cases h4:L<=m
      ·exact h.nb.1.fit L a' b' ha' hb' h1 h2 h4
      ·rw [show L=m+1 by omega];simpa using hf
    ·obtain ⟨c,hu,hc⟩:=h.upto u (by simp);have hl:=Wu hy hu hb hc ho h.nb.2.1 hfu;refine ⟨fun e=>?_,fun L a' b' ha' hb' h1 h2 h3=>?_⟩
     ·rw [e,hl] at hx;simp at hx;omega
     ·rw [hl] at hb';simp at hb';omega
theorem Lvl.step {m:Nat} {l:List Tr} (h:Lvl m l):Lvl (m+1) (yc (m+1) l):=by
 unfold yc;split
 ·exact h.runs (by omega)
 ·exact h.pairs (by omega)
def xi (s:List Tr):Prop:=∀ t∈s,∃ b,t=.leaf b
theorem Lvl.zero {s:List Tr} (h:xi s):Lvl 0 s:=by
 refine ⟨fun t ht=>?_,?_⟩
 ·obtain ⟨b,rfl⟩:=h t ht;exact ⟨0,rfl,by omega⟩
 ·induction s with
  |nil=>trivial
  |cons x s ih =>
   refine Ch.cons (fun y hy=>⟨fun e=>⟨rfl,?_⟩,fun L a b ha hb h1 h2 h3=>by omega⟩) (ih fun t ht=>h t (by simp [ht]));obtain ⟨b,rfl⟩:=h x (by simp);rfl
theorem Lvl.seq {s:List Tr} (h:xi s):∀ m,Lvl m (xf s m)
 |0=>Lvl.zero h
 |m+1=>(Lvl.seq h m).step
end
section
theorem yE {α:Type} {l:List α} {i:Nat} {x:α} (h:l[i]?=some x):i<l.length:=(xB.1 h).1
def Tr.lv (t:Tr):Nat:=t.lev.getD 0
def Tr.lay (m:Nat):Tr->List Tr
 |.leaf b=>[.leaf b]
 |.pair l r=>if (Tr.pair l r).lv<=m then [.pair l r] else l.lay m++r.lay m
 |.pow s k=>if (Tr.pow s k).lv<=m then [.pow s k] else (zd k (s.lay m)).flatten
def zR:Tr->List Tr
 |.leaf _=>[]
 |.pair l r=>[l,r]
 |.pow s k=>zd k s
theorem qG {m:Nat} {t:Tr} (h:t.lv<=m):t.lay m=[t]:=by
 cases t <;> simp [Tr.lay,h]
theorem x7 {m:Nat} {t:Tr} (h:m<t.lv):t.lay m=(zR t).flatMap (Tr.lay m):=by
 cases t with
 |leaf b=>simp [Tr.lv,Tr.lev] at h
 |pair l r=>simp [Tr.lay,zR,Nat.not_le.2 h]
 |pow s k=>simp [Tr.lay,zR,Nat.not_le.2 h,jc]
theorem Wc (l:List Tr) (f g:Tr->List Tr):(l.flatMap f).flatMap g=l.flatMap fun x=>(f x).flatMap g:=by
 induction l with
 |nil=>rfl
 |cons x l ih=>simp [ih]
theorem Zd {a m:Nat} (h:a<=m):∀ t:Tr,(t.lay m).flatMap (Tr.lay a)=t.lay a
 |.leaf b=>by simp [Tr.lay]
 |.pair l r=>by
  by_cases h1:(Tr.pair l r).lv<=m
  ·rw [qG h1];simp
  ·have e:(Tr.pair l r).lay m=l.lay m++r.lay m:=(by simp [Tr.lay,h1]);rw [e,zI,Zd h l,Zd h r,x7 (t:=.pair l r) (show a<_ by omega)];simp [zR]
 |.pow s k=>by
  by_cases h1:(Tr.pow s k).lv<=m
  ·rw [qG h1];simp
  ·have e:(Tr.pow s k).lay m=(zd k (s.lay m)).flatten:=(by simp [Tr.lay,h1]);have e2:(Tr.pow s k).lay a=(zd k (s.lay a)).flatten:=(by simp [Tr.lay,show ¬ (Tr.pow s k).lv<=a by omega]);rw [e,e2,← Zd h s];clear e e2 h1;induction k with
   |zero=>rfl
   |succ k ih=>simp only [zS,List.flatten_cons,zI];rw [ih]
theorem QY {a m:Nat} (h:a<=m) (l:List Tr):(l.flatMap (Tr.lay m)).flatMap (Tr.lay a)=l.flatMap (Tr.lay a):=by
 rw [Wc];congr 1
 funext t
 exact Zd h t
theorem jU {m:Nat}:∀ {l:List Tr},(∀ t∈l,t.lv<=m)->l.flatMap (Tr.lay m)=l
 |[],_=>rfl
 |x::l,h=>by rw [zt,qG (h x (by simp)),jU fun t ht=>h t (by simp [ht])];rfl
theorem Tr.Upto.lv {m:Nat} {t:Tr} (h:t.Upto m):t.lv<=m:=by
 obtain ⟨a,h1,h2⟩:=h;simp [Tr.lv,h1,h2]
theorem wv {t:Tr} {a:Nat} (h:t.lev=some a):t.lv=a:=by simp [Tr.lv,h]
theorem JU {m:Nat} (he:m%2=0) {l:List Tr} (h:Lvl m l):∀ p∈qU l,(jb p).lay m=zd p.2 p.1:=by
 intro p hp;obtain ⟨h1,h2⟩:=jo l p hp;by_cases h3:p.2=1
 ·simp only [jb,if_pos h3,h3];exact qG (h.upto _ h2).lv
 ·have:=(Qu h.nb p hp (by omega)).eq rfl;simp only [jb,if_neg h3];rw [x7 (by rw [wv (lev_pow this.2 he)];omega)];simp only [zR];rw [jU];intro t ht;rw [xy ht];exact (h.upto _ h2).lv
theorem Za (l:List (Tr×Nat)) (g:Tr->List Tr) (k:Tr×Nat->List Tr):(∀ p∈l,g (jb p)=k p)->(l.map jb).flatMap g=l.flatMap k:=by
 intro h;induction l with
 |nil=>rfl
 |cons x l ih=>simp only [zX,zt];rw [h x (by simp),ih fun p hp=>h p (by simp [hp])]
theorem Qy {m:Nat} (ho:m%2=1):∀ {l:List Tr},Lvl m l->(zH (fits (m+1)) l).flatMap (Tr.lay m)=l
 |[],_=>rfl
 |[x],h=>by simp [zH,qG (h.upto x (by simp)).lv]
 |x::y::r,h=>by
  obtain ⟨a,hx,ha⟩:=h.upto x (by simp);obtain ⟨b,hy,hb⟩:=h.upto y (by simp);unfold zH;split
  ·rename_i hf;have hl:=Wu hx hy ha hb ho h.nb.1 hf;rw [zt,x7 (by rw [wv hl];omega),Qy ho ⟨fun t ht=>h.upto t (by simp [ht]),h.nb.2.tail⟩];simp [zR,qG (h.upto x (by simp)).lv,qG (h.upto y (by simp)).lv]
  ·rw [zt,qG (h.upto x (by simp)).lv,Qy ho ⟨fun t ht=>h.upto t (by simp at ht ⊢;exact .inr ht),h.nb.2⟩];rfl
theorem step_flat {m:Nat} {l:List Tr} (h:Lvl m l):(yc (m+1) l).flatMap (Tr.lay m)=l:=by
 unfold yc;split
 ·unfold runs;rw [Za _ _ _ (JU (by omega) h),vx]
 ·exact Qy (by omega) h
theorem Yb {s:List Tr} (h:xi s) (a:Nat):∀ d,(xf s (a+d)).flatMap (Tr.lay a)=xf s a
 |0=>jU fun t ht=>((Lvl.seq h a).upto t ht).lv
 |d+1=>by
  rw [← Yb h a d,← wA,show xf s (a+d+1)=yc (a+d+1) (xf s (a+d)) from rfl];rw [← QY (a:=a) (m:=a+d) (by omega),step_flat (Lvl.seq h (a+d))]
structure Canon (t:Tr):Prop where
 leaves:xi (t.lay 0)
 seq:∀ m,xf (t.lay 0) m=t.lay m
theorem Canon.step {t:Tr} (h:Canon t) (m:Nat):yc (m+1) (t.lay m)=t.lay (m+1):=by
 rw [← h.seq m,← h.seq (m+1)];rfl
theorem Canon.lvl {t:Tr} (h:Canon t) (m:Nat):Lvl m (t.lay m):=by
 rw [← h.seq m];exact Lvl.seq h.leaves m
theorem WT {m:Nat} (t:Tr):yc m [t]=[t]:=by
 unfold yc;split
 ·rfl
 ·rfl
theorem ZF {s:List Tr} (h:xi s) {m:Nat} {t:Tr} (ht:xf s m=[t]):Canon t∧t.lay 0=s∧t.Upto m:=by
 have hu:=(Lvl.seq h m).upto t (by rw [ht];simp);have hl:∀ a d,a+d=m->t.lay a=xf s a:=fun a d e=>by
  have:=Yb h a d;rw [e,ht] at this;simpa using this
 have h0:t.lay 0=s:=hl 0 m (by omega);refine ⟨⟨by rw [h0];exact h,fun a=>?_⟩,h0,hu⟩;rw [h0];by_cases ha:a<=m
 ·exact (hl a (m-a) (by omega)).symm
 ·have:∀ d,xf s (m+d)=[t]:=fun d=>by
   induction d with
   |zero=>exact ht
   |succ d ih=>rw [← wA,show xf s (m+d+1)=yc (m+d+1) (xf s (m+d)) from rfl,ih,WT]
  have e:=this (a-m);rw [show m+(a-m)=a by omega] at e;rw [e,qG (by have:=hu.lv;omega)]
theorem Canon.lev {t:Tr} (h:Canon t):∃ a,t.lev=some a:=by
 have:=(h.lvl t.lv).upto t (by rw [qG (zr _)];simp);obtain ⟨a,h1,_⟩:=this;exact ⟨a,h1⟩
theorem Canon.inj {t u:Tr} (h:Canon t) (k:Canon u) (e:t.lay 0=u.lay 0):t=u:=by
 have h1:=h.seq (max t.lv u.lv);have h2:=k.seq (max t.lv u.lv);rw [qG (t:=t) (Nat.le_max_left _ _)] at h1;rw [qG (t:=u) (Nat.le_max_right _ _)] at h2;rw [e,h2] at h1;simpa using h1.symm
theorem nb_short {s:List Tr} (h:xi s) {a m:Nat} (ha:a%2=1) (hm:a+246<=m):Ch (fun x y=>¬ (x.lv<=a∧y.lv<=a)) (xf s m):=by
 have hl:=Lvl.seq h m;refine Ch.mono (fun x hx y hy hn=>?_) hl.nb;rintro ⟨h1,h2⟩;obtain ⟨c,hc,_⟩:=hl.upto x hx;obtain ⟨d,hd,_⟩:=hl.upto y hy;rw [wv hc] at h1;rw [wv hd] at h2;obtain ⟨q,hq,hf⟩:=Xd (Tr.key_lt x) (Tr.key_lt y) a;have:=hn.fit (2*(a/2+1)+2*q) c d hc hd (by omega) (by omega) (by omega);unfold fits at this;rw [hf] at this;cases this
theorem Tr.Upto.two {m:Nat} {t:Tr}:(t.lay m).length=0->t.lv<=m->False:=fun h h1=>by rw [qG h1] at h;simp at h
def Tr.Pow2:Tr->Prop
 |.leaf _=>True
 |.pair l r=>l.Pow2∧r.Pow2
 |.pow s k=>s.Pow2∧2<=k
theorem wS {m:Nat}:∀ {t:Tr},t.Pow2->1<=(t.lay m).length
 |.leaf b,_=>by simp [Tr.lay]
 |.pair l r,h=>by
  have:=wS (m:=m) h.1;unfold Tr.lay;split
  ·simp
  ·simp;omega
 |.pow s k,h=>by
  have h1:=wS (m:=m) h.1;unfold Tr.lay;split
  ·simp
  ·rw [List.length_flatten,Qa,Xz];have h2:=h.2;have:=ZB h2 h1;omega
theorem XJ {m:Nat} {t:Tr} (h:t.Pow2) (hl:m<t.lv):2<=(t.lay m).length:=by
 cases t with
 |leaf b=>simp [Tr.lv,Tr.lev] at hl
 |pair l r =>
  rw [x7 hl];have h1:=wS (m:=m) h.1;have h2:=wS (m:=m) h.2;simp [zR];omega
 |pow s k =>
  rw [show (Tr.pow s k).lay m=(zd k (s.lay m)).flatten by simp [Tr.lay,Nat.not_le.2 hl]];rw [List.length_flatten,Qa,Xz];have h1:=wS (m:=m) h.1;have:=ZB h.2 h1;omega
theorem runs_pow2 {l:List Tr} (h:∀ t∈l,t.Pow2):∀ t∈runs l,t.Pow2:=by
 intro t ht;obtain ⟨p,hp,rfl⟩:=qY.1 ht;obtain ⟨h1,h2⟩:=jo l p hp;unfold jb;split
 ·exact h _ h2
 ·exact ⟨h _ h2,by omega⟩
theorem QA (f:Tr->Tr->Bool):∀ {l:List Tr},(∀ t∈l,t.Pow2)->∀ t∈zH f l,t.Pow2
 |[],_,t,ht=>by simp [zH] at ht
 |[x],h,t,ht=>by simp [zH] at ht;subst ht;exact h _ (by simp)
 |x::y::r,h,t,ht=>by
  unfold zH at ht;split at ht
  ·rcases zL.1 ht with rfl|ht
   ·exact ⟨h _ (by simp),h _ (by simp)⟩
   ·exact QA f (fun u hu=>h u (by simp [hu])) t ht
  ·rcases zL.1 ht with rfl|ht
   ·exact h _ (by simp)
   ·exact QA f (fun u hu=>h u (by simp at hu ⊢;exact .inr hu)) t ht
theorem wM {s:List Tr} (h:xi s):∀ m,∀ t∈xf s m,t.Pow2
 |0,t,ht=>by obtain ⟨b,rfl⟩:=h t ht;trivial
 |m+1,t,ht=>by
  have ht':t∈yc (m+1) (xf s m):=ht;unfold yc at ht';split at ht'
  ·exact runs_pow2 (wM h m) t ht'
  ·exact QA _ (wM h m) t ht'
theorem Yt (f:Tr->Nat):∀ {l:List Tr},(∀ t∈l,1<=f t)->Ch (fun x y=>¬ (f x<=1∧f y<=1)) l->3*l.length<=2*(l.map f).sum+1
 |[],_,_=>by simp
 |[x],h,_=>by have:=h x (by simp);simp;omega
 |x::y::r,h,⟨h1,hc⟩=>by
  have hx:=h x (by simp);have hy:=h y (by simp);by_cases hx1:f x<=1
  ·have:=Yt f (l:=r) (fun t ht=>h t (by simp [ht])) hc.tail;simp only [zw,zX,List.sum_cons];omega
  ·have:=Yt f (l:=y::r) (fun t ht=>h t (by simp at ht ⊢;exact .inr ht)) hc;simp only [zw,zX,List.sum_cons] at this ⊢;omega
theorem len_flat (f:Tr->List Tr) (l:List Tr):(l.flatMap f).length=(l.map fun t=>(f t).length).sum:=by
 induction l with
 |nil=>rfl
 |cons x l ih=>simp [ih]
theorem seq_third {s:List Tr} (h:xi s) {a:Nat} (ha:a%2=1):3*(xf s (a+246)).length<=2*(xf s a).length+1:=by
 have e:=Yb h a 246;have hc:=nb_short h ha (zr (a+246));rw [← e,len_flat];refine Yt _ (fun t ht=>wS (wM h _ t ht)) (Ch.mono (fun x hx y hy hn=>?_) hc);rintro ⟨h1,h2⟩;refine hn ⟨kQ fun hlt=>?_,kQ fun hlt=>?_⟩
 ·have:=XJ (wM h _ x hx) hlt;omega
 ·have:=XJ (wM h _ y hy) hlt;omega
theorem runs_len (l:List Tr):(runs l).length<=l.length:=by
 have h:∀ l:List Tr,(qU l).length<=l.length:=fun l=>by
  induction l with
  |nil=>simp [qU]
  |cons x r ih =>
   unfold qU;split
   ·simp
   ·rename_i y k g hg;rw [hg] at ih;split
    ·simp at ih ⊢;omega
    ·simp at ih ⊢;omega
 unfold runs;rw [qd];exact h l
theorem Q3 (f:Tr->Tr->Bool):∀ l:List Tr,(zH f l).length<=l.length
 |[]=>by simp [zH]
 |[x]=>by simp [zH]
 |x::y::r=>by
  unfold zH;split
  ·have:=Q3 f r;simp;omega
  ·have:=Q3 f (y::r);simp at this ⊢;omega
theorem VU (m:Nat) (l:List Tr):(yc m l).length<=l.length:=by
 unfold yc;split
 ·exact runs_len l
 ·exact Q3 _ l
theorem runs_ne {l:List Tr} (h:l≠[]):runs l≠[]:=by
 cases l with
 |nil=>exact absurd rfl h
 |cons x l =>
  obtain ⟨k,g,e⟩:=wj x l;simp [runs,e]
theorem step_ne (m:Nat) {l:List Tr} (h:l≠[]):yc m l≠[]:=by
 unfold yc;split
 ·exact runs_ne h
 ·cases l with
  |nil=>exact absurd rfl h
  |cons x l =>
   obtain ⟨z,r,e,_⟩:=Xn (fits m) x l;rw [e];simp
theorem seq_ne {s:List Tr} (h:s≠[]):∀ m,xf s m≠[]
 |0=>h
 |m+1=>step_ne _ (seq_ne h m)
def Ql:Nat->Nat->Nat
 |0,h=>h
 |n+1,h=>2*Ql n h/3
theorem WW:∀ n {a b:Nat},a<=b->Ql n a<=Ql n b
 |0,_,_,h=>h
 |n+1,_,_,h=>by have:=WW n h;simp only [Ql];omega
theorem Qk {s:List Tr} (h:xi s):∀ n,(xf s (1+246*n)).length-1<=Ql n (s.length-1)
 |0=>by have:=VU 1 s;simp only [Ql,Nat.mul_zero,Nat.add_zero];exact Nat.sub_le_sub_right this 1
 |n+1=>by
  have h1:=Qk h n;have h2:=seq_third h (a:=1+246*n) (by omega);rw [show 1+246*(n+1)=1+246*n+246 by omega];simp only [Ql];omega
theorem seq_one {s:List Tr} (h:xi s) (hne:s≠[]) (hl:s.length<=1152921504606846976):∃ t,xf s 25339=[t]:=by
 have h1:=Qk h 103;have h2:Ql 103 (s.length-1)<=Ql 103 1152921504606846976:=WW _ (by omega);have h3:Ql 103 1152921504606846976=0:=(by decide +kernel);have h4:=seq_ne hne 25339;have e:(1+246*103)=25339:=rfl;rw [e] at h1;cases hs:xf s 25339 with
 |nil=>exact absurd hs h4
 |cons t l =>
  rw [hs] at h1;simp at h1;exact ⟨t,by rw [qe (show l.length=0 by omega)]⟩
theorem Z5 {s:List Tr} (h:xi s) (hne:s≠[]) (hl:s.length<=1152921504606846976):∃ t,Canon t∧t.lay 0=s∧t.Upto 25339:=by
 obtain ⟨t,ht⟩:=seq_one h hne hl;exact ⟨t,ZF h ht⟩
end
section
theorem kH:∀ {g:List (Tr×Nat)},(∀ p∈g,1<=p.2)->ChG (fun p q=>p.1≠q.1) g->qU (g.flatMap fun p=>zd p.2 p.1)=g
 |[],_,_=>rfl
 |(x,k)::g,h,hc=>by
  have hk:=h (x,k) (by simp);have htail:ChG (fun p q=>p.1≠q.1) g:=(by cases g with|nil=>trivial|cons q g=>exact hc.2);have ih:=kH (g:=g) (fun p hp=>h p (by simp [hp])) htail;simp only [zt];obtain ⟨k,rfl⟩:=zA (show k≠0 by simp at hk;omega);clear hk;induction k with
  |zero =>
   simp only [zS,List.replicate_zero,zo,zv];rw [qU,ih];cases g with
   |nil=>rfl
   |cons q g =>
    obtain ⟨y,j⟩:=q;have:x≠y:=hc.1;simp [this]
  |succ k ih2 =>
   have hc':ChG (fun p q=>p.1≠q.1) ((x,k+1)::g):=(by cases g with|nil=>trivial|cons q g=>exact hc);have:=ih2 (fun p hp=>by
    rcases zL.1 hp with rfl|hp
    ·simp
    ·exact h p (by simp [hp])) hc'
   rw [zS,zo,qU,this];simp
theorem V7 {R R':Tr×Nat->Tr×Nat->Prop}:∀ {l:List (Tr×Nat)},(∀ p q,R p q->R' p q)->ChG R l->ChG R' l
 |[],_,_=>trivial
 |[_],_,_=>trivial
 |x::y::r,h,⟨h1,h2⟩=>⟨h x y h1,V7 h h2⟩
theorem ch_true:∀ l:List Tr,Ch (fun _ _=>True) l
 |[]=>trivial
 |[_]=>trivial
 |_::y::r=>⟨trivial,ch_true (y::r)⟩
theorem Kv (l:List Tr):ChG (fun p q=>p.1≠q.1) (qU l):=V7 (fun _ _ h=>h.1) (YB (ch_true l))
theorem Qg:∀ {a b:List Tr},(∀ x y,a.getLast?=some x->b.head?=some y->x≠y)->qU (a++b)=qU a++qU b
 |[],b,_=>rfl
 |[x],b,h=>by
  cases b with
  |nil=>rfl
  |cons y b =>
   obtain ⟨k,g,e⟩:=wj y b;simp only [zo,zv];rw [qU,e];have:x≠y:=h x y rfl rfl;simp [this,qU]
 |x::z::a,b,h=>by
  have ih:=Qg (a:=z::a) (b:=b) (fun u v hu hv=>h u v (by simpa using hu) hv);obtain ⟨k,g,e⟩:=wj z a;simp only [zo] at ih ⊢;rw [qU,ih,e,qU,e];simp only [zo];split <;> rfl
theorem ZS {a b:List Tr} (h:∀ x y,a.getLast?=some x->b.head?=some y->x≠y):runs (a++b)=runs a++runs b:=by
 unfold runs;rw [Qg h,xH]
theorem W6:∀ {R:Tr×Nat->Tr×Nat->Prop} {a b:List (Tr×Nat)},ChG R (a++b)->ChG R a∧ChG R b
 |R,[],b,h=>⟨trivial,h⟩
 |R,[x],b,h=>⟨trivial,by cases b with|nil=>trivial|cons y b=>exact h.2⟩
 |R,x::y::a,b,h=>by
  have ih:=W6 (a:=y::a) (b:=b) h.2;exact ⟨⟨h.1,ih.1⟩,ih.2⟩
theorem chG_mid:∀ {R:Tr×Nat->Tr×Nat->Prop} {a b:List (Tr×Nat)} {p q:Tr×Nat},ChG R (a++p::q::b)->R p q
 |R,[],b,p,q,h=>h.1
 |R,[x],b,p,q,h=>(show ChG R (p::q::b) from h.2).1
 |R,x::y::a,b,p,q,h=>chG_mid (a:=y::a) h.2
theorem wU (f:Tr->Tr->Bool):∀ {a b:List Tr},(∀ x y,a.getLast?=some x->b.head?=some y->f x y=false)->zH f (a++b)=zH f a++zH f b
 |[],b,_=>rfl
 |[x],b,h=>by
  cases b with
  |nil=>rfl
  |cons y b =>
   have:=h x y rfl rfl;simp [zH,this]
 |x::z::a,b,h=>by
  have e:∀ r,zH f (x::z::r)=if f x z=true then .pair x z::zH f r else x::zH f (z::r):=fun r=>by rw [zH]
  simp only [zo];rw [e,e];by_cases hf:f x z=true
  ·rw [if_pos hf,if_pos hf];cases a with
   |nil=>simp [zH]
   |cons w a =>
    rw [wU f (a:=w::a) (b:=b) fun u v hu hv=>h u v (by simpa using hu) hv];rfl
  ·rw [if_neg hf,if_neg hf];have:=wU f (a:=z::a) (b:=b) fun u v hu hv=>h u v (by simpa using hu) hv
   simp only [zo] at this;rw [this];rfl
theorem Zg (x y:Tr):Tr.pair x y≠x:=by
 intro h;have:SizeOf.sizeOf (Tr.pair x y)=SizeOf.sizeOf x:=by rw [h]
 simp at this;omega
def Blk2 (lay:Tr->List Tr) (b:Tr):Prop:=lay b=[b]∨∃ x y,b=.pair x y∧lay b=[x,y]
theorem Z4 (f:Tr->Tr->Bool) (lay:Tr->List Tr):∀ (P Q:List Tr),(∀ b∈P++Q,Blk2 lay b)->zH f ((P++Q).flatMap lay)=P++Q ->
  zH f (Q.flatMap lay)=Q∧(∀ x y,P.getLast?=some x->lay x=[x]->(Q.flatMap lay).head?=some y->f x y=false) ∧
  (∀ X,(∀ x y,P.getLast?=some x->lay x=[x]->X.head?=some y->f x y=false)->zH f (P.flatMap lay++X)=P++zH f X)
 |[],Q,_,h=>⟨by simpa using h,by simp,fun X _=>by simp⟩
 |b::P,Q,hb,h=>by
  have hb':∀ c∈P++Q,Blk2 lay c:=fun c hc=>hb c (by simp at hc ⊢;exact .inr hc)
  rcases hb b (by simp) with h1|⟨x,y,rfl,h1⟩
  ·-- a single symbol
   simp only [zo,zt,h1,zv] at h;have hd:∀ y,((P++Q).flatMap lay).head?=some y->f b y=false:=fun y hy=>by
    cases hf:f b y with
    |false=>rfl
    |true =>
     exfalso;cases hl:(P++Q).flatMap lay with
     |nil=>rw [hl] at hy;simp at hy
     |cons z l =>
      rw [hl] at hy h;obtain rfl:z=y:=by simpa using hy
      simp only [zH,hf,if_true,Zq.injEq] at h;exact Zg _ _ h.1
   have h':zH f ((P++Q).flatMap lay)=P++Q:=by
    have e:=wU f (a:=[b]) (b:=(P++Q).flatMap lay) fun x y hx hy=>by
     obtain rfl:b=x:=by simpa using hx
     exact hd y hy
    simp only [zo,zv] at e;rw [e] at h;simpa [zH] using h
   obtain ⟨i1,i2,i3⟩:=Z4 f lay P Q hb' h';refine ⟨i1,fun x y hx hl hy=>?_,fun X hX=>?_⟩
   ·cases P with
    |nil =>
     obtain rfl:b=x:=by simpa using hx
     exact hd y (by simpa using hy)
    |cons c P=>exact i2 x y (by simpa using hx) hl hy
   ·simp only [zt,h1,zo,zv];have e:=wU f (a:=[b]) (b:=P.flatMap lay++X) fun x y hx hy=>by
     obtain rfl:b=x:=by simpa using hx
     cases P with
     |nil=>exact hX b y rfl h1 (by simpa using hy)
     |cons c P =>
      refine hd y ?_;have hc:Blk2 lay c:=hb c (by simp);rcases hc with hc|⟨u,v,rfl,hc⟩ <;> simpa [hc] using hy
    simp only [zo,zv] at e;rw [e,i3 X fun x y hx hl hy=>hX x y (by
     cases P with
     |nil=>simp at hx
     |cons c P=>simpa using hx) hl hy]
    rfl
  ·simp only [zo,zt,h1,zv] at h;have hf:f x y=true:=by
    cases hf:f x y with
    |true=>rfl
    |false =>
     exfalso;simp only [zH,hf] at h;injection h with h _
     exact Zg x y h.symm
   have h':zH f ((P++Q).flatMap lay)=P++Q:=by
    simp only [zH,hf,if_true] at h;injection h
   obtain ⟨i1,i2,i3⟩:=Z4 f lay P Q hb' h';refine ⟨i1,fun u v hu hl hv=>?_,fun X hX=>?_⟩
   ·cases P with
    |nil =>
     obtain rfl:Tr.pair x y=u:=by simpa using hu
     rw [h1] at hl;simp at hl
    |cons c P=>exact i2 u v (by simpa using hu) hl hv
   ·simp only [zt,h1,zo,zv,zH,hf,if_true];rw [i3 X fun u v hu hl hv=>hX u v (by
     cases P with
     |nil=>simp at hu
     |cons c P=>simpa using hu) hl hv]
theorem lvl_blocks {m:Nat} (ho:m%2=1) {l:List Tr} (h:Lvl (m+1) l):∀ b∈l,Blk2 (Tr.lay m) b:=by
 intro b hb;obtain ⟨a,h1,h2⟩:=h.upto b hb;by_cases h3:a<=m
 ·exact .inl (qG (by rw [wv h1];exact h3))
 ·have hlv:b.lv=m+1:=(by rw [wv h1];omega);cases b with
  |leaf c=>simp [Tr.lev] at h1;omega
  |pow s k =>
   simp only [Tr.lev] at h1;split at h1
   ·split at h1
    ·simp at h1;omega
    ·cases h1
   ·cases h1
  |pair x y =>
   refine .inr ⟨x,y,rfl,?_⟩;rw [x7 (by omega)];simp only [Tr.lev] at h1;split at h1
   ·cases h1
   ·split at h1
    ·rename_i c d hc hd;have:=(vv (Tr.key_lt x) (Tr.key_lt y) (max c d)).1;simp only [yk.injEq] at h1;simp [zR,qG (show x.lv<=m by rw [wv hc];omega),qG (show y.lv<=m by rw [wv hd];omega)]
    ·cases h1
theorem ji {m:Nat} (ho:m%2=1) {a:Tr} (h:Canon a) {P Q:List Tr} (e:a.lay (m+1)=P++Q) :
  zH (fits (m+1)) (Q.flatMap (Tr.lay m))=Q∧(∀ x y,P.getLast?=some x->x.lv<=m->(Q.flatMap (Tr.lay m)).head?=some y->fits (m+1) x y=false) ∧
  (∀ X,(∀ x y,P.getLast?=some x->x.lv<=m->X.head?=some y->fits (m+1) x y=false)->zH (fits (m+1)) (P.flatMap (Tr.lay m)++X)=P++zH (fits (m+1)) X):=by
 have hb:=lvl_blocks ho (h.lvl (m+1));rw [e] at hb;have hs:=h.step m;rw [← Zd (Nat.le_succ m) a,e] at hs;unfold yc at hs;rw [if_neg (by omega)] at hs;obtain ⟨h1,h2,h3⟩:=Z4 (fits (m+1)) (Tr.lay m) P Q hb hs;have hp:∀ t∈a.lay (m+1),t.Pow2:=(by rw [← h.seq];exact wM h.leaves _);rw [e] at hp;have hlow:∀ x:Tr,x∈P->(x.lay m=[x]↔x.lv<=m):=fun x hx=>⟨fun hl=>kQ fun hlt=>by
  have:=XJ (hp x (by simp [hx])) hlt;rw [hl] at this;simp at this,fun hl=>qG hl⟩
 refine ⟨h1,fun x y hx hl hy=>h2 x y hx ((hlow x (vq hx)).2 hl) hy,fun X hX=>h3 X fun x y hx hl hy=>hX x y hx ((hlow x (vq hx)).1 hl) hy⟩
theorem kg {m:Nat} (he:m%2=0) {a:Tr} (h:Canon a) {P Q:List Tr} (e:a.lay (m+1)=P++Q) :
  runs (Q.flatMap (Tr.lay m))=Q∧(∀ x y,(P.flatMap (Tr.lay m)).getLast?=some x->(Q.flatMap (Tr.lay m)).head?=some y->x≠y) ∧
  (∀ X,(∀ x y,(P.flatMap (Tr.lay m)).getLast?=some x->X.head?=some y->x≠y)->runs (P.flatMap (Tr.lay m)++X)=P++runs X):=by
 have hs:=h.step m;unfold yc at hs;rw [if_pos (by omega)] at hs;have hf:=JU he (h.lvl m);have hpos:=jo (a.lay m);have hap:=Kv (a.lay m);unfold runs at hs;generalize qU (a.lay m)=G at hs hf hpos hap;rw [e] at hs;obtain ⟨G1,G2,rfl,h1,h2⟩:=List.map_eq_append_iff.1 hs;obtain ⟨c1,c2⟩:=W6 hap;have f1:P.flatMap (Tr.lay m)=G1.flatMap fun p=>zd p.2 p.1:=by
  rw [← h1];exact Za _ _ _ fun p hp=>hf p (by simp [hp])
 have f2:Q.flatMap (Tr.lay m)=G2.flatMap fun p=>zd p.2 p.1:=by
  rw [← h2];exact Za _ _ _ fun p hp=>hf p (by simp [hp])
 have r1:runs (P.flatMap (Tr.lay m))=P:=by
  unfold runs;rw [f1,kH (fun p hp=>(hpos p (by simp [hp])).1) c1,h1]
 refine ⟨by unfold runs;rw [f2,kH (fun p hp=>(hpos p (by simp [hp])).1) c2,h2],fun x y hx hy=>?_,fun X hX=>by rw [ZS hX,r1]⟩;rw [f1] at hx;rw [f2] at hy;cases hG2:G2 with
 |nil=>rw [hG2] at hy;simp at hy
 |cons q G2 =>
  rcases List.eq_nil_or_concat G1 with h3|⟨G1',p,h3⟩
  ·rw [h3] at hx;simp at hx
  ·rw [h3,hG2] at hap;rw [h3] at hx;rw [hG2] at hy;rw [List.concat_eq_append] at hap;have hne:=chG_mid (a:=G1') (p:=p) (q:=q) (b:=G2) (by simpa using hap);have p1:=(hpos p (by rw [h3];simp)).1;have q1:=(hpos q (by rw [hG2];simp)).1;rw [List.concat_eq_append,zI,xu] at hx;obtain ⟨k,hk⟩:=zA (show p.2≠0 by omega);obtain ⟨j,hj⟩:=zA (show q.2≠0 by omega);simp only [zt,wW,qO,hk,xG] at hx;simp only [zt,hj,zS] at hy;simp at hx hy;rw [← hx,← hy];exact hne
end
section
def Tr.Gd (t:Tr):Prop:=(∃ a,t.lev=some a)∧t.Pow2
theorem Canon.gd {t:Tr} (h:Canon t):t.Gd:=by
 refine ⟨h.lev,wM h.leaves t.lv t ?_⟩;rw [h.seq,qG (zr _)];simp
theorem wT {l r:Tr} {a:Nat} (h:(Tr.pair l r).lev=some a):l≠r∧∃ b c,l.lev=some b∧r.lev=some c∧a=xJ (max b c) l.key r.key∧max b c<a∧a<=max b c+246∧a%2=0:=by
 simp only [Tr.lev] at h;split at h
 ·cases h
 ·rename_i hne;split at h
  ·rename_i b c hb hc;injection h with h
   have s:=vv (Tr.key_lt l) (Tr.key_lt r) (max b c);exact ⟨hne,b,c,hb,hc,h.symm,by omega,by omega,by omega⟩
  ·cases h
theorem jq {s:Tr} {k a:Nat} (h:(Tr.pow s k).lev=some a):∃ b,s.lev=some b∧b%2=0∧a=b+1:=by
 simp only [Tr.lev] at h;split at h
 ·rename_i b hb;split at h
  ·injection h with h
   exact ⟨b,hb,by assumption,h.symm⟩
  ·cases h
 ·cases h
theorem Tr.Gd.kid {t c:Tr} (h:t.Gd) (hc:c∈zR t):c.Gd∧c.lv<t.lv:=by
 obtain ⟨⟨a,ha⟩,hp⟩:=h;cases t with
 |leaf b=>simp [zR] at hc
 |pair l r =>
  obtain ⟨_,b,d,hb,hd,_,h1,_⟩:=wT ha;rw [wv ha];simp [zR] at hc;rcases hc with rfl|rfl
  ·exact ⟨⟨⟨b,hb⟩,hp.1⟩,by rw [wv hb];omega⟩
  ·exact ⟨⟨⟨d,hd⟩,hp.2⟩,by rw [wv hd];omega⟩
 |pow s k =>
  obtain ⟨b,hb,_,rfl⟩:=jq ha;rw [wv ha];obtain rfl:=xy hc;exact ⟨⟨⟨b,hb⟩,hp.1⟩,by rw [wv hb];omega⟩
theorem Tr.Gd.leaf {t:Tr} (h:t.Gd) (h0:t.lv=0):∃ b,t=.leaf b:=by
 obtain ⟨⟨a,ha⟩,hp⟩:=h;rw [wv ha] at h0;cases t with
 |leaf b=>exact ⟨b,rfl⟩
 |pair l r=>obtain ⟨_,b,c,_,_,_,h1,_⟩:=wT ha;omega
 |pow s k=>obtain ⟨b,_,_,h1⟩:=jq ha;omega
theorem Vv {t:Tr} (h:t.Gd) (hl:0<t.lv):2<=(zR t).length:=by
 obtain ⟨⟨a,ha⟩,hp⟩:=h;cases t with
 |leaf b=>simp [Tr.lv,Tr.lev] at hl
 |pair l r=>simp [zR]
 |pow s k=>simpa [zR] using hp.2
inductive Zip (a:Tr):List (Tr×Nat)->Tr->Prop
 |root:Zip a [] a
 |down {p:List (Tr×Nat)} {t:Tr} {j:Nat} {c:Tr}:Zip a p t->(zR t)[j]?=some c->Zip a ((t,j)::p) c
def qi (m:Nat):List (Tr×Nat)->List Tr
 |[]=>[]
 |(t,j)::p=>qi m p++((zR t).take j).flatMap (Tr.lay m)
def tl (m:Nat):List (Tr×Nat)->List Tr
 |[]=>[]
 |(t,j)::p=>((zR t).drop (j+1)).flatMap (Tr.lay m)++tl m p
def vp (m:Nat) (p:List (Tr×Nat)):Prop:=∀ f∈p,m<f.1.lv
theorem vI {α:Type} {l:List α} {j:Nat} {c:α} (h:l[j]?=some c):l=l.take j++c::l.drop (j+1):=by
 have hj:=yE h;rw [zg hj] at h;injection h with h
 rw [← h,← yj hj,List.take_append_drop]
theorem Zip.lay {a x:Tr} {p:List (Tr×Nat)} {m:Nat} (h:Zip a p x) (ha:vp m p):a.lay m=qi m p++x.lay m++tl m p:=by
 induction h with
 |root=>simp [qi,tl]
 |@down p t j c _ hc ih =>
  have ih:=ih fun f hf=>ha f (by simp [hf])
  rw [ih,x7 (ha (t,j) (by simp))];have e:=vI hc;have e2:(zR t).flatMap (Tr.lay m)=((zR t).take j).flatMap (Tr.lay m)++(c.lay m++((zR t).drop (j+1)).flatMap (Tr.lay m)):=by
   conv=>lhs;rw [e]
   rw [zI,zt]
  rw [e2];simp only [qi,tl,zQ]
theorem Zip.gd {a x:Tr} {p:List (Tr×Nat)} (h:Zip a p x) (ha:a.Gd):x.Gd∧∀ f∈p,x.lv<f.1.lv∧f.1.Gd∧f.1.lv<=a.lv:=by
 suffices hs:x.Gd∧x.lv<=a.lv∧∀ f∈p,x.lv<f.1.lv∧f.1.Gd∧f.1.lv<=a.lv from ⟨hs.1,hs.2.2⟩
 induction h with
 |root=>exact ⟨ha,zr _,by simp⟩
 |@down p t j c _ hc ih =>
  obtain ⟨h1,h2,h3⟩:=ih;obtain ⟨g1,g2⟩:=h1.kid (zy hc);refine ⟨g1,by omega,fun f hf=>?_⟩;rcases zL.1 hf with rfl|hf
  ·exact ⟨g2,h1,h2⟩
  ·have:=h3 f hf;exact ⟨by omega,this.2.1,this.2.2⟩
theorem Zip.tail {a x:Tr} {p:List (Tr×Nat)} {t:Tr} {j:Nat} (h:Zip a ((t,j)::p) x):Zip a p t∧(zR t)[j]?=some x:=by
 cases h with
 |down h1 h2=>exact ⟨h1,h2⟩
theorem wR {m:Nat} (p:List (Tr×Nat)):(qi (m+1) p).flatMap (Tr.lay m)=qi m p:=by
 induction p with
 |nil=>rfl
 |cons f p ih =>
  obtain ⟨t,j⟩:=f;simp only [qi,zI,ih];rw [QY (Nat.le_succ m)]
theorem Yd {m:Nat} (p:List (Tr×Nat)):(tl (m+1) p).flatMap (Tr.lay m)=tl m p:=by
 induction p with
 |nil=>rfl
 |cons f p ih =>
  obtain ⟨t,j⟩:=f;simp only [tl,zI,ih];rw [QY (Nat.le_succ m)]
def yF (beh:Bool) (m:Nat) (p:List (Tr×Nat)):Tr->List (Tr×Nat)×Tr
 |.leaf b=>(p,.leaf b)
 |.pair l r=>if (Tr.pair l r).lv<=m then (p,.pair l r) else if beh then yF beh m ((.pair l r,0)::p) l else yF beh m ((.pair l r,1)::p) r
 |.pow s k=>if (Tr.pow s k).lv<=m then (p,.pow s k) else yF beh m ((.pow s k,if beh then 0 else k-1)::p) s
structure EdL (a:Tr) (m:Nat) (p:List (Tr×Nat)) (x:Tr) (L:List Tr):Prop where
 zip:Zip a p x
 low:x.lv<=m
 above:vp m p
 eq:L=qi m p++[x]
structure EdR (a:Tr) (m:Nat) (p:List (Tr×Nat)) (x:Tr) (R:List Tr):Prop where
 zip:Zip a p x
 low:x.lv<=m
 above:vp m p
 eq:R=x::tl m p
theorem jQ {m:Nat} {p:List (Tr×Nat)} {t:Tr} {j:Nat} (h:vp m p) (ht:m<t.lv):vp m ((t,j)::p):=by
 intro f hf;rcases zL.1 hf with rfl|hf
 ·exact ht
 ·exact h f hf
theorem downL {a:Tr} {m:Nat}:∀ (c:Tr) (p:List (Tr×Nat)),Zip a p c->c.Gd->vp m p->EdL a m (yF false m p c).1 (yF false m p c).2 (qi m p++c.lay m)
 |.leaf b,p,hz,hg,ha=>⟨hz,by simp [yF,Tr.lv,Tr.lev],ha,by simp [yF,Tr.lay]⟩
 |.pair l r,p,hz,hg,ha=>by
  unfold yF;by_cases h:(Tr.pair l r).lv<=m
  ·rw [if_pos h];exact ⟨hz,h,ha,by rw [qG h]⟩
  ·rw [if_neg h];have ih:=downL (m:=m) r ((.pair l r,1)::p) (.down hz (by simp [zR])) (hg.kid (by simp [zR])).1 (jQ ha (by omega));have e:qi m ((.pair l r,1)::p)++r.lay m=qi m p++(Tr.pair l r).lay m:=by
    rw [x7 (t:=.pair l r) (by omega)];simp [qi,zR]
   rw [e] at ih;simpa using ih
 |.pow s k,p,hz,hg,ha=>by
  unfold yF;by_cases h:(Tr.pow s k).lv<=m
  ·rw [if_pos h];exact ⟨hz,h,ha,by rw [qG h]⟩
  ·rw [if_neg h];have hk:2<=k:=hg.2.2;have ih:=downL (m:=m) s ((.pow s k,k-1)::p) (.down hz (by simp only [zR];rw [x4,if_pos (by omega)])) (hg.kid (c:=s) (wq.2 ⟨jO (jN Nat.zero_lt_two hk),rfl⟩)).1 (jQ ha (by omega));have e:qi m ((.pow s k,k-1)::p)++s.lay m=qi m p++(Tr.pow s k).lay m:=by
    rw [x7 (t:=.pow s k) (by omega)];simp only [qi,zR,List.take_replicate,kF (Nat.sub_le k 1),zQ];congr 1
    obtain ⟨k,rfl⟩:=zA (show k≠0 by omega);simp [xG,zI]
   rw [e] at ih;simpa using ih
theorem downR {a:Tr} {m:Nat}:∀ (c:Tr) (p:List (Tr×Nat)),Zip a p c->c.Gd->vp m p->EdR a m (yF true m p c).1 (yF true m p c).2 (c.lay m++tl m p)
 |.leaf b,p,hz,hg,ha=>⟨hz,by simp [yF,Tr.lv,Tr.lev],ha,by simp [yF,Tr.lay]⟩
 |.pair l r,p,hz,hg,ha=>by
  unfold yF;by_cases h:(Tr.pair l r).lv<=m
  ·rw [if_pos h];exact ⟨hz,h,ha,by rw [qG h];rfl⟩
  ·rw [if_neg h];have ih:=downR (m:=m) l ((.pair l r,0)::p) (.down hz (by simp [zR])) (hg.kid (by simp [zR])).1 (jQ ha (by omega));have e:l.lay m++tl m ((.pair l r,0)::p)=(Tr.pair l r).lay m++tl m p:=by
    rw [x7 (t:=.pair l r) (by omega)];simp [tl,zR]
   rw [e] at ih;simpa using ih
 |.pow s k,p,hz,hg,ha=>by
  unfold yF;by_cases h:(Tr.pow s k).lv<=m
  ·rw [if_pos h];exact ⟨hz,h,ha,by rw [qG h];rfl⟩
  ·rw [if_neg h];have hk:2<=k:=hg.2.2;have ih:=downR (m:=m) s ((.pow s k,0)::p) (.down hz (by simp only [zR];rw [x4,if_pos (by omega)])) (hg.kid (c:=s) (wq.2 ⟨jO (jN Nat.zero_lt_two hk),rfl⟩)).1 (jQ ha (by omega));have e:s.lay m++tl m ((.pow s k,0)::p)=(Tr.pow s k).lay m++tl m p:=by
    rw [x7 (t:=.pow s k) (by omega)];simp only [tl,zR,List.drop_replicate];obtain ⟨k,rfl⟩:=zA (show k≠0 by omega);simp [zS]
   rw [e] at ih;simpa using ih
def qZ (beh:Bool) (m:Nat) (times:Nat):List (Tr×Nat)->List (Tr×Nat)×Option Tr
 |[]=>([],none)
 |(t,j)::p =>
  if beh then (if j+times<(zR t).length then let d:=yF beh m ((t,j+times)::p) ((zR t).getD (j+times) t);(d.1,some d.2) else qZ beh m 1 p)
  else (if times<=j then let d:=yF beh m ((t,j-times)::p) ((zR t).getD (j-times) t);(d.1,some d.2) else qZ beh m 1 p)
def EndL (a:Tr) (m:Nat) (d:List (Tr×Nat)×Option Tr) (L:List Tr):Prop:=match d with|(p,some x)=>EdL a m p x L|(p,none)=>p=[]∧L=[]
def EndR (a:Tr) (m:Nat) (d:List (Tr×Nat)×Option Tr) (L:List Tr):Prop:=match d with|(p,some x)=>EdR a m p x L|(p,none)=>p=[]∧L=[]
theorem dropL {a:Tr} {m:Nat} (ga:a.Gd):∀ (p:List (Tr×Nat)) (x:Tr),Zip a p x->vp m p->EndL a m (qZ false m 1 p) (qi m p)
 |[],x,hz,ha=>⟨rfl,rfl⟩
 |(t,j)::p,x,hz,ha=>by
  obtain ⟨hz',hx⟩:=hz.tail;have hlt:=yE hx;simp only [qZ,xA,if_false];by_cases hj:1<=j
  ·rw [if_pos hj];have hc:(zR t)[j-1]?=some ((zR t).getD (j-1) t):=by
    rw [Zn,zg (by omega)];rfl
   have hg:=(Zip.gd (Zip.down hz' hc) ga).1;have hd:=downL (m:=m) _ _ (Zip.down hz' hc) hg (jQ (fun f hf=>ha f (by simp [hf])) (ha (t,j) (by simp)));have e:qi m ((t,j-1)::p)++((zR t).getD (j-1) t).lay m=qi m ((t,j)::p):=by
    simp only [qi,zQ];congr 1
    have:(zR t).take j=(zR t).take (j-1)++[(zR t).getD (j-1) t]:=by
     obtain ⟨j,rfl⟩:=zA (show j≠0 by omega);simp only [J9,xC] at hc ⊢;rw [x5,hc];rfl
    rw [this];simp
   rw [e] at hd;exact hd
  ·rw [if_neg hj];obtain rfl:j=0:=by omega
   have:=dropL (m:=m) ga p t hz' fun f hf=>ha f (by simp [hf])
   simpa [qi] using this
theorem W8 {a:Tr} {m:Nat} (ga:a.Gd):∀ (p:List (Tr×Nat)) (x:Tr),Zip a p x->vp m p->EndR a m (qZ true m 1 p) (tl m p)
 |[],x,hz,ha=>⟨rfl,rfl⟩
 |(t,j)::p,x,hz,ha=>by
  obtain ⟨hz',hx⟩:=hz.tail;have hlt:=yE hx;simp only [qZ,if_true];by_cases hj:j+1<(zR t).length
  ·rw [if_pos hj];have hc:(zR t)[j+1]?=some ((zR t).getD (j+1) t):=by
    rw [Zn,zg (by omega)];rfl
   have hg:=(Zip.gd (Zip.down hz' hc) ga).1;have hd:=downR (m:=m) _ _ (Zip.down hz' hc) hg (jQ (fun f hf=>ha f (by simp [hf])) (ha (t,j) (by simp)));have e:((zR t).getD (j+1) t).lay m++tl m ((t,j+1)::p)=tl m ((t,j)::p):=by
    simp only [tl];have:(zR t).drop (j+1)=(zR t).getD (j+1) t::(zR t).drop (j+1+1):=by
     rw [yj hj,Zn,zg hj];rfl
    rw [this];simp
   rw [e] at hd;exact hd
  ·rw [if_neg hj];have:=W8 (m:=m) ga p t hz' fun f hf=>ha f (by simp [hf])
   have e:(zR t).drop (j+1)=[]:=yo (by omega);simpa [tl,e] using this
end
section
def trF (L:List En):Nat->Nat->Tr
 |0,_=>.leaf 0
 |f+1,i=>match L[i]? with
  |none=>.leaf 0
  |some x=>if x.r.kind=1 then .leaf x.r.letter else if x.r.kind=2 then .pair (trF L f (x.r.left-1)) (trF L f (x.r.right-1)) else .pow (trF L f (x.r.left-1)) x.r.times
def Sto.tr (S:Sto) (id:Nat):Tr:=trF S.list id (id-1)
def Den (S:Sto) (id:Nat) (t:Tr):Prop:=1<=id∧id<=S.list.length∧S.tr id=t
theorem WY {S:Sto} (h:S.Ok):∀ (i f:Nat),i<f->i<S.list.length->trF S.list f i=trF S.list (i+1) i:=by
 intro i;induction i using yJ with
 |_ i ih =>
  intro f hf hi;obtain ⟨f,rfl⟩:=zA (show f≠0 by omega);have hx:S.list[i]?=some S.list[i]:=(by simp);have he:=h.ents i _ hx;generalize S.list[i]=x at *;unfold trF;simp only [hx];cases he with
  |letter b hb=>rfl
  |pair l r y z hl hr hy hz hlen =>
   simp only [wk,show ¬ (2=1) by omega,if_false,if_true,xC];rw [ih l hl f (by omega) (by omega),ih r hr f (by omega) (by omega),ih l hl i (by omega) (by omega),ih r hr i (by omega) (by omega)]
  |power l k y hl hy hk hlen =>
   simp only [x8,show ¬ (3=1) by omega,show ¬ (3=2) by omega,if_false,xC];rw [ih l hl f (by omega) (by omega),ih l hl i (by omega) (by omega)]
inductive Kf (S:Sto) (i:Nat) (x:En):Prop
 |letter (b:Nat) (hb:b<256) (hr:x.r=⟨1,b,0,0,0⟩) (hw:x.w.len=1) (ht:S.tr (i+1)=.leaf b):Kf S i x
 |pair (l r:Nat) (y z:En) (hl:l<i) (hr:r<i) (hy:S.list[l]?=some y) (hz:S.list[r]?=some z) (he:x.r=⟨2,0,l+1,r+1,0⟩) (hw:x.w.len=y.w.len+z.w.len) (hs:y.w.len+z.w.len<=yG) (ht:S.tr (i+1)=.pair (S.tr (l+1)) (S.tr (r+1))):Kf S i x
 |pow (l k:Nat) (y:En) (hl:l<i) (hy:S.list[l]?=some y) (hk:2<=k) (he:x.r=⟨3,0,l+1,0,k⟩) (hw:x.w.len=y.w.len*k) (hs:y.w.len*k<=yG) (ht:S.tr (i+1)=.pow (S.tr (l+1)) k):Kf S i x
theorem xh {S:Sto} (h:S.Ok) {i:Nat} {x:En} (hx:S.list[i]?=some x):Kf S i x:=by
 have he:=h.ents i x hx;have hi:=yE hx;cases he with
 |letter b hb=>exact .letter b hb rfl (Wq b) (by simp [Sto.tr,trF,hx,xQ])
 |pair l r y z hl hr hy hz hlen =>
  refine .pair l r y z hl hr hy hz rfl rfl hlen ?_;have e:S.tr (i+1)=.pair (trF S.list i l) (trF S.list i r):=(by simp [Sto.tr,trF,hx,wk]);rw [e,WY h l i hl (by omega),WY h r i hr (by omega)];rfl
 |power l k y hl hy hk hlen =>
  refine .pow l k y hl hy hk rfl rfl hlen ?_;have e:S.tr (i+1)=.pow (trF S.list i l) k:=(by simp [Sto.tr,trF,hx,x8]);rw [e,WY h l i hl (by omega)];rfl
def Tr.len:Tr->Nat
 |.leaf _=>1
 |.pair l r=>l.len+r.len
 |.pow s k=>s.len*k
theorem j1 {S:Sto} (h:S.Ok):∀ (i:Nat) (x:En),S.list[i]?=some x->(S.tr (i+1)).len=x.w.len∧(S.tr (i+1)).Pow2:=by
 intro i;induction i using yJ with
 |_ i ih =>
  intro x hx;cases xh h hx with
  |letter b hb hr hw ht=>rw [ht,hw];exact ⟨rfl,trivial⟩
  |pair l r y z hl hr hy hz he hw hs ht =>
   rw [ht,hw];simp only [Tr.len,Tr.Pow2];have h1:=ih l hl y hy;have h2:=ih r hr z hz;exact ⟨by omega,h1.2,h2.2⟩
  |pow l k y hl hy hk he hw hs ht =>
   rw [ht,hw];simp only [Tr.len,Tr.Pow2];have h1:=ih l hl y hy;exact ⟨by rw [h1.1],h1.2,hk⟩
theorem tr_lev {S:Sto} (h:S.Ok):∀ (i:Nat) (x:En),S.list[i]?=some x->∀ a,(S.tr (i+1)).lev=some a->a<=246*i:=by
 intro i;induction i using yJ with
 |_ i ih =>
  intro x hx a ha;cases xh h hx with
  |letter b hb hr hw ht=>rw [ht] at ha;simp [Tr.lev] at ha;omega
  |pair l r y z hl hr hy hz he hw hs ht =>
   rw [ht] at ha;obtain ⟨_,b,c,hb,hc,_,h1,h2,_⟩:=wT ha;have:=ih l hl y hy b hb;have:=ih r hr z hz c hc;omega
  |pow l k y hl hy hk he hw hs ht =>
   rw [ht] at ha;obtain ⟨b,hb,_,rfl⟩:=jq ha;have:=ih l hl y hy b hb;omega
theorem tr_inj {S:Sto} (h:S.Ok):∀ (i j:Nat) (x y:En),S.list[i]?=some x->S.list[j]?=some y->S.tr (i+1)=S.tr (j+1)->i=j:=by
 intro i;induction i using yJ with
 |_ i ih =>
  intro j x y hx hy e;refine h.apart i j x y hx hy ?_;cases xh h hx with
  |letter b hb hr hw ht =>
   cases xh h hy with
   |letter b' hb' hr' hw' ht'=>rw [ht,ht'] at e;injection e with e;rw [hr,hr',e]
   |pair l r y z hl hr' hy hz he hw hs ht'=>rw [ht,ht'] at e;cases e
   |pow l k y hl hy hk he hw hs ht'=>rw [ht,ht'] at e;cases e
  |pair l r u v hl hr hu hv he hw hs ht =>
   cases xh h hy with
   |letter b' hb' hr' hw' ht'=>rw [ht,ht'] at e;cases e
   |pair l' r' u' v' hl' hr' hu' hv' he' hw' hs' ht' =>
    rw [ht,ht'] at e;injection e with e1 e2
    have h1:=ih l hl l' u u' hu hu' e1;have h2:=ih r hr r' v v' hv hv' e2;rw [he,he',h1,h2]
   |pow l' k' u' hl' hu' hk' he' hw' hs' ht'=>rw [ht,ht'] at e;cases e
  |pow l k u hl hu hk he hw hs ht =>
   cases xh h hy with
   |letter b' hb' hr' hw' ht'=>rw [ht,ht'] at e;cases e
   |pair l' r' u' v' hl' hr' hu' hv' he' hw' hs' ht'=>rw [ht,ht'] at e;cases e
   |pow l' k' u' hl' hu' hk' he' hw' hs' ht' =>
    rw [ht,ht'] at e;injection e with e1 e2
    have h1:=ih l hl l' u u' hu hu' e1;rw [he,he',h1,e2]
theorem xZ {S:Sto} {id:Nat} {t:Tr} (h:Den S id t):∃ i x,id=i+1∧S.list[i]?=some x∧S.tr (i+1)=t:=by
 obtain ⟨h1,h2,h3⟩:=h;obtain ⟨i,rfl⟩:=zA (show id≠0 by omega);exact ⟨i,S.list[i],rfl,by simp,h3⟩
theorem Den.id_inj {S:Sto} (hS:S.Ok) {a b:Nat} {t:Tr} (h1:Den S a t) (h2:Den S b t):a=b:=by
 obtain ⟨i,x,rfl,hx,e1⟩:=xZ h1;obtain ⟨j,y,rfl,hy,e2⟩:=xZ h2;rw [tr_inj hS i j x y hx hy (e1.trans e2.symm)]
theorem Den.tr_inj {S:Sto} {a:Nat} {t u:Tr} (h1:Den S a t) (h2:Den S a u):t=u:=h1.2.2.symm.trans h2.2.2
theorem Den.eq_iff {S:Sto} (hS:S.Ok) {a b:Nat} {t u:Tr} (h1:Den S a t) (h2:Den S b u):(a=b)↔t=u :=
 ⟨fun e=>by subst e;exact h1.tr_inj h2,fun e=>by subst e;exact h1.id_inj hS h2⟩
theorem Kh {S:Sto} {i:Nat} {x:En} (hx:S.list[i]?=some x):Den S (i+1) (S.tr (i+1)):=⟨by omega,yE hx,rfl⟩
structure Sto.Le (S S':Sto):Prop where
 most:S'.most=S.most
 pre:∃ l,S'.list=S.list++l
theorem Sto.Le.refl (S:Sto):S.Le S:=⟨rfl,[],by simp⟩
theorem Sto.Le.trans {A B C:Sto} (h:A.Le B) (k:B.Le C):A.Le C:=by
 obtain ⟨h1,l,h2⟩:=h;obtain ⟨k1,l',k2⟩:=k;exact ⟨k1.trans h1,l++l',by rw [k2,h2,zQ]⟩
theorem Sto.Le.len {S S':Sto} (h:S.Le S'):S.list.length<=S'.list.length:=by obtain ⟨_,l,e⟩:=h;rw [e];simp
theorem Sto.Le.get {S S':Sto} (h:S.Le S') {i:Nat} {x:En} (hx:S.list[i]?=some x):S'.list[i]?=some x:=by
 obtain ⟨_,l,e⟩:=h;rw [e,qv (yE hx)];exact hx
theorem KU {L l:List En}:∀ (f i:Nat),(∀ j,j<=i->j<L.length)->(∀ (j:Nat) (x:En),L[j]?=some x->(x.r.kind≠1->x.r.left-1<j)∧(x.r.kind=2->x.r.right-1<j))->trF (L++l) f i=trF L f i
 |0,_,_,_=>rfl
 |f+1,i,hi,ho=>by
  have hlt:=hi i (zr _);unfold trF;rw [qv hlt];have hx:L[i]?=some L[i]:=(by simp);rw [hx];simp only;obtain ⟨o1,o2⟩:=ho i _ hx;split
  ·rfl
  ·rename_i h1;have:=o1 h1;split
   ·rename_i h2;have:=o2 h2;rw [KU f _ (fun j hj=>by omega) ho,KU f _ (fun j hj=>by omega) ho]
   ·rw [KU f _ (fun j hj=>by omega) ho]
theorem Sto.Le.tr {S S':Sto} (h:S.Le S') (hS:S.Ok) {id:Nat} (h1:1<=id) (h2:id<=S.list.length):S'.tr id=S.tr id:=by
 obtain ⟨_,l,e⟩:=h;unfold Sto.tr;rw [e];refine KU id (id-1) (fun j hj=>by omega) fun j x hx=>?_
 cases xh hS hx with
 |letter b hb hr hw ht=>rw [hr];simp
 |pair l r y z hl hr hy hz he hw hs ht=>rw [he];simp;omega
 |pow l k y hl hy hk he hw hs ht=>rw [he];simp;omega
theorem Den.le {S S':Sto} {id:Nat} {t:Tr} (h:Den S id t) (hS:S.Ok) (hl:S.Le S'):Den S' id t:=⟨h.1,qs h.2.1 hl.len,by rw [hl.tr hS h.1 h.2.1];exact h.2.2⟩
def Made (S:Sto) (t:Tr) (r:(Nat×Option Nat)×Sto):Prop :=
 S.Le r.2∧r.2.Ok∧r.2.list.length<=S.list.length+1∧((r.1.2=none∧Den r.2 r.1.1 t)∨(r.1=(0,some 3)∧r.2=S∧S.most<=S.list.length))
theorem put_cases (S:Sto) (x:En):(∃ i,S.look x.r=some i∧S.put x=((i+1,none),S))∨(S.look x.r=none∧S.most<=S.list.length∧S.put x=((0,some 3),S))∨(S.look x.r=none∧S.list.length<S.most∧S.put x=((S.list.length+1,none),⟨S.most,S.list++[x]⟩)):=by
 unfold Sto.put;cases h:S.look x.r with
 |some i=>exact .inl ⟨i,rfl,rfl⟩
 |none =>
  by_cases h2:S.most<=S.list.length
  ·exact .inr (.inl ⟨rfl,h2,by simp [h2]⟩)
  ·exact .inr (.inr ⟨rfl,by omega,by simp [h2]⟩)
def ruleT (S:Sto) (r:Rl):Tr:=if r.kind=1 then .leaf r.letter else if r.kind=2 then .pair (S.tr r.left) (S.tr r.right) else .pow (S.tr r.left) r.times
theorem tr_rule {S:Sto} (h:S.Ok) {i:Nat} {x:En} (hx:S.list[i]?=some x):S.tr (i+1)=ruleT S x.r:=by
 cases xh h hx with
 |letter b hb hr hw ht=>rw [ht,hr];rfl
 |pair l r y z hl hr hy hz he hw hs ht=>rw [ht,he];rfl
 |pow l k y hl hy hk he hw hs ht=>rw [ht,he];rfl
theorem Wy {S:Sto} (h:S.Ok) {x:En} (hx:EnOk S.list S.list.length x):Made S (ruleT S x.r) (S.put x):=by
 have hok:=Sto.put_ok h hx;have hpre:=Sto.put_pre S x;rcases put_cases S x with ⟨i,h1,h2⟩|⟨h1,h2,h3⟩|⟨h1,h2,h3⟩
 ·rw [h2];obtain ⟨y,hy,he⟩:=JC h1;refine ⟨.refl S,h,by simp,.inl ⟨rfl,by simp,yE hy,?_⟩⟩;rw [tr_rule h hy,he]
 ·rw [h3];exact ⟨.refl S,h,by simp,.inr ⟨rfl,rfl,h2⟩⟩
 ·rw [h3] at hok ⊢;have hle:S.Le ⟨S.most,S.list++[x]⟩:=⟨rfl,[x],rfl⟩
  refine ⟨hle,hok,by simp,.inl ⟨rfl,by simp,by simp,?_⟩⟩;have hg:(⟨S.most,S.list++[x]⟩:Sto).list[S.list.length]?=some x:=(by simp);rw [tr_rule hok hg];cases hx with
  |letter b hb=>rfl
  |pair l r y z hl hr hy hz hlen =>
   have e1:=hle.tr h (id:=l+1) (by omega) (by omega);have e2:=hle.tr h (id:=r+1) (by omega) (by omega);exact (congr (congrArg Tr.pair e1) e2:Tr.pair _ _=Tr.pair _ _)
  |power l k y hl hy hk hlen =>
   have e1:=hle.tr h (id:=l+1) (by omega) (by omega);exact (congrArg (fun t=>Tr.pow t k) e1:Tr.pow _ k=Tr.pow _ k)
theorem VD {S:Sto} (h:S.Ok) {b:Nat} (hb:b<256):Made S (.leaf b) (S.letter b):=Wy h (.letter b hb)
theorem made_pair {S:Sto} (h:S.Ok) {l r:Nat} {t u:Tr} (hl:Den S l t) (hr:Den S r u) (hlen:t.len+u.len<=yG):Made S (.pair t u) (S.pair l r):=by
 obtain ⟨i,x,rfl,hx,rfl⟩:=xZ hl;obtain ⟨j,y,rfl,hy,rfl⟩:=xZ hr;rw [(j1 h i x hx).1,(j1 h j y hy).1] at hlen;have e:S.pair (i+1) (j+1)=S.put (wk x y (i+1) (j+1)):=by
  unfold Sto.pair;simp only [Zs,hx,hy];rw [if_neg (by omega),if_neg (by omega),if_neg (by omega)]
 rw [e];exact Wy h (.pair i j x y (yE hx) (yE hy) hx hy hlen)
theorem VE {S:Sto} (h:S.Ok) {l k:Nat} {t:Tr} (hl:Den S l t) (hk:2<=k) (hlen:t.len*k<=yG):Made S (.pow t k) (S.power l k):=by
 obtain ⟨i,x,rfl,hx,rfl⟩:=xZ hl;rw [(j1 h i x hx).1] at hlen;have e:S.power (i+1) k=S.put (x8 x (i+1) k):=by
  unfold Sto.power;simp only [Zs,hx];rw [if_neg (by omega),if_neg (by omega),if_neg (by omega)]
 rw [e];exact Wy h (.power i k x (yE hx) hx hk hlen)
end
end Go.Proofs.YtgnppnokkdghcaaGreatDoor
section
namespace Go.Proofs
open Go.Shelf
def Tryz.lays29_ren:Go.Shelf.Ren:=⟨fun|29=>189|n=>n,fun|22=>74|3=>3|4=>4|25=>195|54=>291|0=>0|5=>5|n=>n,fun|1=>0|n=>n⟩
theorem Tryz.lays29:Go.Proofs.Lays7.n29 zb Tryz.lays29_ren:={
 mixed:=by kernel_rfl
 f29:=Tryz.func189.trans (congrArg some (by kernel_rfl))
 t0:=Tryz.underlying0
 a0:=Tryz.isAgg0
 z0:=Tryz.sizeOf0
 v0:=Tryz.zeroValue0
 i0:=by kernel_rfl
 t3:=Tryz.underlying3
 a3:=Tryz.isAgg3
 z3:=Tryz.sizeOf3
 v3:=Tryz.zeroValue3
 i3:=by kernel_rfl
 t4:=Tryz.underlying4
 a4:=Tryz.isAgg4
 z4:=Tryz.sizeOf4
 v4:=Tryz.zeroValue4
 i4:=by kernel_rfl
 t5:=Tryz.underlying5
 a5:=Tryz.isAgg5
 z5:=Tryz.sizeOf5
 v5:=Tryz.zeroValue5
 i5:=by kernel_rfl
 t22:=Tryz.underlying74
 a22:=Tryz.isAgg74
 z22:=Tryz.sizeOf74
 v22:=Tryz.zeroValue74
 i22:=by kernel_rfl
 t25:=Tryz.underlying195
 a25:=Tryz.isAgg195
 z25:=Tryz.sizeOf195
 v25:=Tryz.zeroValue195
 i25:=by kernel_rfl
 t54:=Tryz.underlying291
 a54:=Tryz.isAgg291
 z54:=Tryz.sizeOf291
 g1:=by kernel_rfl }
namespace YtgnppnokkdghcaaGreatDoor
open Go.RowKit
def deA:As:=⟨[0],fun w=>TabAt 0 Lib.deBruijn64tab w∧0<w.heap.size,fun w w' h hw=>by
  obtain ⟨h1,h2⟩:=hw;have h0:=h 0 (by simp);refine ⟨fun j hj=>?_,?_⟩
  ·rw [← h1 j hj];unfold World.cell?;simp only [h0]
  ·rw [Array.getElem?_eq_getElem h2] at h0;exact yV.1 h0 |>.1,fun w hw b hb=>by simp at hb;subst hb;exact hw.2⟩
theorem deA_ho (w:World):deA.ho w=(TabAt 0 Lib.deBruijn64tab w∧0<w.heap.size):=rfl
attribute [irreducible] deA
theorem tz_c (x:Nat) (hx:x<18446744073709551616) (w:World) (hT:deA.ho w):Calls zb 189 #[.int .u64 x] w fun e w'=>e=.returned (.int .i64 (Lib.ctz 64 x:Nat))∧w'=w:=by
 rw [deA_ho] at hT;have h:=Any7.bits_TrailingZeros64 Tryz.lays29 x hx w (fun _=>hT.1);exact Calls.mono h fun _ _ ⟨h1,h2⟩=>⟨h1,h2⟩
end YtgnppnokkdghcaaGreatDoor
end Go.Proofs
end
namespace Go.Proofs.YtgnppnokkdghcaaGreatDoor
section
open Go.RowKit
def vw (c x y:Nat):Bool:=if c=122 then decide (x=y) else decide (x/2 ^ (c/2)%2=c%2)&&decide (y/2 ^ (c/2)%2=1-c%2)
theorem vO {x y L:Nat} (h2:2<=L) (h0:L%2=0):yt x y L=vw ((L/2-1)%123) x y:=by
 unfold yt vw;rw [if_neg (by omega)]
def dif (c x y:Nat):Nat:=if c%2=1∧x/2 ^ (c/2)%2=0 then (x ^^^ y)/2 ^ (c/2)*2 ^ (c/2) &&& (18446744073709551615-2 ^ (c/2)) else (x ^^^ y)/2 ^ (c/2)*2 ^ (c/2)
def vN (c x y:Nat):Option Nat:=if x=y then some 122 else if c=122 then none else if dif c x y=0 then none else some (2*Lib.ctz 64 (dif c x y)+x/2 ^ Lib.ctz 64 (dif c x y)%2)
theorem VZ {x y:Nat} (hx:x<2305843009213693952) (hy:y<2305843009213693952):x ^^^ y<2305843009213693952:=Nat.xor_lt_two_pow (n:=61) hx hy
theorem tb (x i:Nat):x.testBit i=decide (x/2 ^ i%2=1):=jP
theorem dif_bit (c x y i:Nat) (hc:c<122) (hi:i<64):(dif c x y).testBit i=(decide (c/2<=i)&&(x.testBit i != y.testBit i) && !(decide (c%2=1∧x/2 ^ (c/2)%2=0∧i=c/2))):=by
 have hD:((x ^^^ y)/2 ^ (c/2)*2 ^ (c/2)).testBit i=(decide (c/2<=i)&&(x.testBit i != y.testBit i)):=by
  rw [Zr,Nat.testBit_div_two_pow];by_cases h:c/2<=i
  ·rw [Nat.sub_add_cancel h,Nat.testBit_xor]
  ·simp [h]
 unfold dif;split
 ·rename_i h;rw [Nat.testBit_and,hD];have hm:(18446744073709551615-2 ^ (c/2)).testBit i = !decide (i=c/2):=by
   have e:=Nat.testBit_two_pow_sub_succ (x:=2 ^ (c/2)) (n:=64) (Nat.pow_lt_pow_right (by omega) (by omega)) i;rw [show (2:Nat) ^ 64-(2 ^ (c/2)+1)=18446744073709551615-2 ^ (c/2) by omega] at e;rw [e,Nat.testBit_two_pow];simp [hi];by_cases hh:c/2=i
   ·simp [hh]
   ·simp [hh];omega
  rw [hm];simp [h.1,h.2]
 ·rename_i h;rw [hD];have:¬ (c%2=1∧x/2 ^ (c/2)%2=0∧i=c/2):=fun h'=>h ⟨h'.1,h'.2.1⟩
  simp [this]
theorem dif_lt {c x y:Nat} (hx:x<2305843009213693951) (hy:y<2305843009213693951):dif c x y<2305843009213693952:=by
 have h1:=VZ (x:=x) (y:=y) (by omega) (by omega);have h2:(x ^^^ y)/2 ^ (c/2)*2 ^ (c/2)<=x ^^^ y:=Nat.div_mul_le_self _ _;unfold dif;split
 ·exact Nat.lt_of_le_of_lt Nat.and_le_left (by omega)
 ·omega
theorem low_bit {d:Nat} (h0:d≠0) (h:d<18446744073709551616):Lib.ctz 64 d<64∧d.testBit (Lib.ctz 64 d)=true∧∀ j,j<Lib.ctz 64 d->d.testBit j=false:=by
 have hb:=(Lib.lowest_bit 64 d h0 h).2;have e:Lib.ctz 64 d=Lib.ctzFrom 64 d:=(by unfold Lib.ctz;rw [if_neg h0]);obtain ⟨m,hm,_⟩:=Lib.ctzFrom_spec 64 d (by omega) h;rw [← e] at hm;clear e;generalize Lib.ctz 64 d=q at *;refine ⟨hb,?_,fun j hj=>?_⟩
 ·rw [hm,xO,Zr];simp
 ·rw [hm,xO,Zr];have:¬ q<=j:=by omega
  simp [this]
theorem Z7 {c x y:Nat} (hc:c<122):vw c x y=true↔x.testBit (c/2)≠y.testBit (c/2)∧x/2 ^ (c/2)%2=c%2:=by
 unfold vw;rw [if_neg (by omega),tb,tb];simp only [zu,decide_eq_true_eq];have h1:x/2 ^ (c/2)%2<2:=qM _ (by omega);have h2:y/2 ^ (c/2)%2<2:=qM _ (by omega);constructor
 ·rintro ⟨a,b⟩;refine ⟨fun e=>?_,a⟩;have:=decide_eq_decide.1 e;omega
 ·rintro ⟨a,b⟩;refine ⟨b,?_⟩;have:¬ (x/2 ^ (c/2)%2=1↔y/2 ^ (c/2)%2=1):=fun h=>a (decide_eq_decide.2 h)
  omega
theorem bit_iff {c x y m:Nat} (hc:c<122) (hcm:c<=m) (hm:m<122) (hf:vw m x y=true):(dif c x y).testBit (m/2)=true:=by
 obtain ⟨h1,h2⟩:=(Z7 hm).1 hf;rw [dif_bit c x y (m/2) hc (by omega)];have h3:c/2<=m/2:=(by omega);have h4:¬ (c%2=1∧x/2 ^ (c/2)%2=0∧m/2=c/2):=by
  rintro ⟨a,b,e⟩;rw [e] at h2;omega
 have h5:(x.testBit (m/2) != y.testBit (m/2))=true:=(by simpa using h1);rw [h5];simp [h3,h4]
theorem bit_low {c x y b:Nat} (hc:c<122) (hb:b<61) (h:(dif c x y).testBit b=true):vw (2*b+x/2 ^ b%2) x y=true∧c<=2*b+x/2 ^ b%2:=by
 rw [dif_bit c x y b hc (by omega)] at h;simp only [zu,decide_eq_true_eq,Zv,decide_eq_false_iff_not,bne_iff_ne] at h;obtain ⟨⟨h1,h2⟩,h3⟩:=h;have hx2:x/2 ^ b%2<2:=qM _ (by omega);refine ⟨(Z7 (by omega)).2 ?_,?_⟩
 ·rw [show (2*b+x/2 ^ b%2)/2=b by omega];exact ⟨h2,by omega⟩
 ·by_cases hb2:c/2=b
  ·rw [← hb2] at hx2 ⊢;by_cases h5:c%2=1
   ·have:¬ x/2 ^ (c/2)%2=0:=fun h6=>h3 ⟨h5,h6,hb2.symm⟩
    omega
   ·omega
  ·omega
theorem ZV {c x y m:Nat} (hc:c<=122) (hx:x<2305843009213693951) (hy:y<2305843009213693951) (h:vN c x y=some m):c<=m∧m<=122∧vw m x y=true∧∀ k,c<=k->k<m->vw k x y=false:=by
 unfold vN at h;split at h
 ·rename_i e;subst e;injection h with h
  subst h;refine ⟨hc,zr _,by simp [vw],fun k hk hkm=>?_⟩;cases hf:vw k x x with
  |false=>rfl
  |true=>exact absurd rfl ((Z7 hkm).1 hf).1
 ·split at h
  ·cases h
  ·split at h
   ·cases h
   ·rename_i hne hct h0;injection h with h
    have hlt:=dif_lt (c:=c) hx hy;obtain ⟨b1,b2,b3⟩:=low_bit h0 (by omega);have hb61:Lib.ctz 64 (dif c x y)<61:=vD fun hle=>by
     have:=Nat.testBit_lt_two_pow (x:=dif c x y) (i:=Lib.ctz 64 (dif c x y)) (jN hlt (by have:=Nat.pow_le_pow_right (n:=2) (by omega) hle;simpa using this));rw [this] at b2;cases b2
    generalize Lib.ctz 64 (dif c x y)=b at *;obtain ⟨c1,c2⟩:=bit_low (by omega) hb61 b2;have hx2:x/2 ^ b%2<2:=qM _ (by omega);subst h;refine ⟨c2,by omega,c1,fun k hk hkm=>?_⟩;cases hf:vw k x y with
    |false=>rfl
    |true =>
     exfalso;have:=bit_iff (by omega) hk (by omega) hf;by_cases hkb:k/2<b
     ·rw [b3 _ hkb] at this;cases this
     ·have e:k/2=b:=(by omega);have:=((Z7 (by omega)).1 hf).2;rw [e] at this;omega
theorem Jr {c x y:Nat} (hc:c<=122) (h:vN c x y=none):∀ k,c<=k->k<=122->vw k x y=false:=by
 unfold vN at h;split at h
 ·cases h
 ·rename_i hne;intro k hk hk2;cases hf:vw k x y with
  |false=>rfl
  |true =>
   exfalso;by_cases h3:k=122
   ·subst h3;simp [vw] at hf;exact hne hf
   ·split at h
    ·omega
    ·split at h
     ·rename_i h0;have:=bit_iff (by omega) hk (by omega) hf;rw [h0] at this;simp at this
     ·cases h
theorem fitF_zero {x y:Nat} (hx:x<2305843009213693951) (hy:y<2305843009213693951):∃ m,vN 0 x y=some m:=by
 cases h:vN 0 x y with
 |some m=>exact ⟨m,rfl⟩
 |none =>
  exfalso;obtain ⟨c,hc,hf⟩:=Vf hx hy;have:=Jr (by omega) h c (by omega) (by omega);have h2:=hf (2*(c+1)) (by omega) (by omega) (by omega);rw [vO (by omega) (by omega),show (2*(c+1)/2-1)%123=c by omega,this] at h2;cases h2
theorem after_one {low x y m:Nat} (hx:x<2305843009213693951) (hy:y<2305843009213693951) (h:vN ((low/2+1-1)%123) x y=some m):xJ low x y=2*(low/2+1+m-(low/2+1-1)%123):=by
 obtain ⟨h1,h2,h3,h4⟩:=ZV (by omega) hx hy h;refine Jj (by omega) (by omega) (by omega) ?_ fun L' a b c=>?_
 ·rw [vO (by omega) (by omega),show (2*(low/2+1+m-(low/2+1-1)%123)/2-1)%123=m by omega];exact h3
 ·rw [vO (by omega) (by omega)];exact h4 _ (by omega) (by omega)
theorem after_two {low x y m:Nat} (hx:x<2305843009213693951) (hy:y<2305843009213693951) (h:vN ((low/2+1-1)%123) x y=none) (h':vN 0 x y=some m):xJ low x y=2*(low/2+1+m-(low/2+1-1)%123+123)∧m<(low/2+1-1)%123:=by
 obtain ⟨h1,h2,h3,h4⟩:=ZV (by omega) hx hy h';have h5:=Jr (by omega) h;have hm:m<(low/2+1-1)%123:=vD fun hle=>by rw [h5 m hle h2] at h3;cases h3
 refine ⟨Jj (by omega) (by omega) (by omega) ?_ fun L' a b c=>?_,hm⟩
 ·rw [vO (by omega) (by omega),show (2*(low/2+1+m-(low/2+1-1)%123+123)/2-1)%123=m by omega];exact h3
 ·rw [vO (by omega) (by omega)];by_cases hq:(low/2)%123<=(L'/2-1)%123
  ·exact h5 _ (by omega) (by omega)
  ·exact h4 _ (by omega) (by omega)
def Kk:Option Nat->Int|some m=>m|none=>-1
theorem Km (c x:Nat) (hx:x<2305843009213693951) (w:World) :
  Calls zb 185 #[.int .i64 c,.int .u64 x,.int .u64 x] w fun e w'=>e=.returned (.int .i64 122)∧w'=w:=by
 go_enter j4,wF
 go_wp2
 go_ret;exact ⟨rfl,rfl⟩
theorem Vg (x y:Nat) (hne:((x:Int)==y)=false) (w:World) :
  Calls zb 185 #[.int .i64 (122:Nat),.int .u64 x,.int .u64 y] w fun e w'=>e=.returned (.int .i64 (-1))∧w'=w:=by
 go_enter j4,wF
 go_wp2
 go_ret;exact ⟨rfl,rfl⟩
theorem wrap64 (a:Nat) (h:a<18446744073709551616):IntKind.u64.wrap (a:Int)=(a:Int):=by rw [IntKind.wrap_u64];omega
theorem cast_dm (d k:Nat):((d:Int)/2 ^ k*2 ^ k)=((d/2 ^ k*2 ^ k:Nat):Int):=by simp
theorem vK (x k:Nat) (hx:x<18446744073709551616):bits .and .u64 ((x:Int)/2 ^ k) 1=((x/2 ^ k%2:Nat):Int):=by
 have h:=u64_and_nat (x/2 ^ k) 1 (Nat.lt_of_le_of_lt (Nat.div_le_self _ _) hx) (by omega);rw [nat_mask1] at h;rw [← h];simp
theorem fitting_t (c x y:Nat) (hc:c<122) (hne:x≠y) (hx:x<2305843009213693951) (hy:y<2305843009213693951) (w:World) (hde:deA.ho w) :
  Calls zb 185 #[.int .i64 c,.int .u64 x,.int .u64 y] w fun e w'=>e=.returned (.int .i64 (Kk (vN c x y)))∧w'=w:=by
 have hne':((x:Int)==y)=false:=(by simp;omega);have hc2:((c:Int)==122)=false:=(by simp;omega);have hX:=VZ (x:=x) (y:=y) (by omega) (by omega);have e1:bits .xor .u64 (x:Int) (y:Int)=((x ^^^ y:Nat):Int):=u64_xor_nat x y (by omega) (by omega);have e2:bits .and .u64 ((x ^^^ y:Nat):Int) 2305843009213693951=((x ^^^ y:Nat):Int):=by
  rw [and61 _ (by omega),xI hX]
 have hfit:vN c x y=if dif c x y=0 then none else some (2*Lib.ctz 64 (dif c x y)+x/2 ^ Lib.ctz 64 (dif c x y)%2):=by
  unfold vN;rw [if_neg hne,if_neg (by omega)]
 have hdl:=dif_lt (c:=c) hx hy;have hctz:Lib.ctz 64 (dif c x y)<=64:=by
  by_cases h0:dif c x y=0
  ·rw [h0];decide
  ·exact Nat.le_of_lt (low_bit h0 (by omega)).1
 have e3:=vK x (c/2) (by omega);have e6:=vK x (Lib.ctz 64 (dif c x y)) (by omega);have hxb:x/2 ^ Lib.ctz 64 (dif c x y)%2<2:=qM _ (by omega);have hpl:(2:Nat) ^ (c/2)<18446744073709551616:=(by have:=Nat.pow_lt_pow_right (a:=2) (by omega) (show c/2<64 by omega);simpa using this);have e4:IntKind.u64.wrap (2 ^ (c/2))=(2 ^ (c/2):Int):=(by have:=wrap64 _ hpl;simpa using this);have hDl:(x ^^^ y)/2 ^ (c/2)*2 ^ (c/2)<18446744073709551616:=(by have:=Nat.div_mul_le_self (x ^^^ y) (2 ^ (c/2));omega);have e5:IntKind.u64.wrap (((x ^^^ y:Nat):Int)/2 ^ (c/2)*2 ^ (c/2))=(((x ^^^ y)/2 ^ (c/2)*2 ^ (c/2):Nat):Int):=(by rw [cast_dm];exact wrap64 _ hDl);have e7:bits .andNot .u64 (((x ^^^ y)/2 ^ (c/2)*2 ^ (c/2):Nat):Int) (2 ^ (c/2):Int)=(((x ^^^ y)/2 ^ (c/2)*2 ^ (c/2) &&& (18446744073709551615-2 ^ (c/2)):Nat):Int):=(by have:=u64_andNot_nat _ _ hDl hpl;simpa using this);rw [hfit];by_cases hcase:c%2=1∧x/2 ^ (c/2)%2=0
 ·have ed:dif c x y=(x ^^^ y)/2 ^ (c/2)*2 ^ (c/2) &&& (18446744073709551615-2 ^ (c/2)):=(by unfold dif;rw [if_pos hcase]);rw [← ed] at e7;rw [hcase.2] at e3;have hc3:((c:Int)%2==1)=true:=(by simp;omega);generalize dif c x y=D at *;clear ed hfit;generalize (x ^^^ y)/2 ^ (c/2)*2 ^ (c/2)=D0 at *;generalize x ^^^ y=X at *;by_cases h0:D=0
  ·subst h0;clear e6 hxb;rw [if_pos rfl];go_enter j4,wF
   go_wp2
   go_ret;exact ⟨rfl,rfl⟩
  ·have h0':((D:Int)==0)=false:=(by simp;omega);rw [if_neg h0];have HT:Hid (∀ w,deA.ho w->Calls zb 189 #[.int .u64 D] w fun e w'=>e=.returned (.int .i64 (Lib.ctz 64 D:Nat))∧w'=w):=zh fun w h=>tz_c D (by omega) w h
   generalize Lib.ctz 64 D=b at *;have HDE:=zh hde;clear h0 hde;go_enter j4,wF;go_wp2_with (go_at_call 189;with_reducible refine same (HT.out _ HDE.out) ?_);go_ret;exact ⟨by simp [Kk],rfl⟩
 ·have ed:dif c x y=(x ^^^ y)/2 ^ (c/2)*2 ^ (c/2):=(by unfold dif;rw [if_neg hcase]);have hcc:((c:Int)%2==1)=false∨(((c:Int)%2==1)=true∧x/2 ^ (c/2)%2=1):=by
   have:x/2 ^ (c/2)%2<2:=qM _ (by omega);by_cases h1:c%2=1
   ·right
    exact ⟨by simp;omega,by
     by_cases h2:x/2 ^ (c/2)%2=0
     ·exact absurd ⟨h1,h2⟩ hcase
     ·omega⟩
   ·left;simp;omega
  clear hcase;rw [← ed] at e5;clear e7;generalize dif c x y=D at *;clear ed hfit;generalize x ^^^ y=X at *;by_cases h0:D=0
  ·subst h0;clear e6 hxb;rw [if_pos rfl];rcases hcc with hc3|⟨hc3,hb⟩
   ·go_enter j4,wF
    go_wp2
    go_ret;exact ⟨rfl,rfl⟩
   ·rw [hb] at e3;go_enter j4,wF
    go_wp2
    go_ret;exact ⟨rfl,rfl⟩
  ·have h0':((D:Int)==0)=false:=(by simp;omega);rw [if_neg h0];have HT:Hid (∀ w,deA.ho w->Calls zb 189 #[.int .u64 D] w fun e w'=>e=.returned (.int .i64 (Lib.ctz 64 D:Nat))∧w'=w):=zh fun w h=>tz_c D (by omega) w h
   generalize Lib.ctz 64 D=b at *;have HDE:=zh hde;clear h0 hde;rcases hcc with hc3|⟨hc3,hb⟩
   ·go_enter j4,wF;go_wp2_with (go_at_call 189;with_reducible refine same (HT.out _ HDE.out) ?_);go_ret;exact ⟨by simp [Kk],rfl⟩
   ·rw [hb] at e3;go_enter j4,wF;go_wp2_with (go_at_call 189;with_reducible refine same (HT.out _ HDE.out) ?_);go_ret;exact ⟨by simp [Kk],rfl⟩
theorem Js (c x y:Nat) (hc:c<=122) (hx:x<2305843009213693951) (hy:y<2305843009213693951) (w:World) (hde:deA.ho w) :
  Calls zb 185 #[.int .i64 c,.int .u64 x,.int .u64 y] w fun e w'=>e=.returned (.int .i64 (Kk (vN c x y)))∧w'=w:=by
 by_cases h:x=y
 ·subst h;have:vN c x x=some 122:=by simp [vN]
  rw [this];exact Km c x hx w
 ·by_cases hc2:c=122
  ·subst hc2;have:vN 122 x y=none:=by simp [vN,h]
   rw [this];exact Vg x y (by simp;omega) w
  ·exact fitting_t c x y (by omega) h hx hy w hde
end
section
open Go.RowKit
theorem after_c (low x y:Nat) (hl:low<1152921504606846976) (hx:x<2305843009213693951) (hy:y<2305843009213693951) (w:World) (hde:deA.ho w) :
  Calls zb 171 #[.int .i64 low,.int .u64 x,.int .u64 y] w fun e w'=>e=.returned (.int .i64 (xJ low x y:Nat))∧w'=w:=by
 have h2:(low/2+1-1)%123=low/2%123:=(by omega);have HF:Hid (∀ w,deA.ho w->Calls zb 185 #[.int .i64 ((low:Int)/2%123),.int .u64 x,.int .u64 y] w fun e w'=>e=.returned (.int .i64 (Kk (vN (low/2%123) x y)))∧w'=w):=zh fun w h=>by
  have:=Js (low/2%123) x y (by omega) hx hy w h;simpa using this
 have HF0:Hid (∀ w,deA.ho w->Calls zb 185 #[.int .i64 0,.int .u64 x,.int .u64 y] w fun e w'=>e=.returned (.int .i64 (Kk (vN 0 x y)))∧w'=w):=zh fun w h=>by
  have:=Js 0 x y (by omega) hx hy w h;simpa using this
 have HDE:=zh hde;cases h:vN (low/2%123) x y with
 |some m =>
  have e:=after_one hx hy (by rw [h2];exact h);rw [h2] at e;obtain ⟨h3,h4,_⟩:=ZV (by omega) hx hy h;rw [h] at HF;simp only [Kk] at HF;have hm:(m:Int)-((low:Int)/2%123)=((m-low/2%123:Nat):Int):=(by omega);have HE:=zh (za e h3);clear hde e h h2 hm;go_enter Tryz.func171,Tryz.ntmps171;go_wp2_with (go_at_call 185;with_reducible refine same (HF.out _ HDE.out) ?_);go_ret;refine ⟨?_,rfl⟩;obtain ⟨e,h3⟩:=HE.out;rw [e];refine congrArg Ending.returned (congrArg (Value.int .i64) ?_);omega
 |none =>
  obtain ⟨m,hm⟩:=fitF_zero hx hy;obtain ⟨e,h3⟩:=after_two hx hy (by rw [h2];exact h) hm;rw [h2] at e h3;rw [h] at HF;rw [hm] at HF0;simp only [Kk] at HF HF0;have HE:=zh (za e h3);have hm122:=(ZV (by omega) hx hy hm).2.1;clear hde e h h2 hm h3;go_enter Tryz.func171,Tryz.ntmps171;go_wp2_with (go_at_call 185;first|(with_reducible refine same (HF.out _ HDE.out) ?_)|(with_reducible refine same (HF0.out _ HDE.out) ?_));go_ret;refine ⟨?_,rfl⟩;obtain ⟨e,h3⟩:=HE.out;rw [e];refine congrArg Ending.returned (congrArg (Value.int .i64) ?_);omega
theorem VI (L:Nat) (hL:L<1152921504606846976) (w:World) :
  Calls zb 151 #[.int .i64 L] w fun e w'=>e=.returned (if L<2∨L%2=1 then .tuple #[.int .i64 0,.bool false] else .tuple #[.int .i64 ((L/2-1)%123:Nat),.bool true])∧w'=w:=by
 by_cases h2:L<2
 ·rw [if_pos (.inl h2)];have:((L:Int)<2):=by omega
  go_enter Tryz.func151,Tryz.ntmps151
  go_wp2
  go_ret2;exact ⟨rfl,rfl⟩
 ·have h2':¬ ((L:Int)<2):=(by omega);by_cases h0:L%2=1
  ·rw [if_pos (.inr h0)];have:((L:Int)%2==0)=false:=by simp;omega
   go_enter Tryz.func151,Tryz.ntmps151
   go_wp2
   go_ret2;exact ⟨rfl,rfl⟩
  ·rw [if_neg (by omega)];have:((L:Int)%2==0)=true:=by simp;omega
   have hs:(L:Int)/2-1=((L/2-1:Nat):Int):=(by omega);go_enter Tryz.func151,Tryz.ntmps151
   go_wp2
   go_ret2;exact ⟨by congr 2,rfl⟩
theorem mix_eq (k x y:Nat):ZM k x y=((k+(1234567890123456789*x%PP+987654321987654321*y%PP)%PP)%PP) ^ 17%PP:=by
 unfold ZM;have h:(k+(1234567890123456789*x%PP+987654321987654321*y%PP)%PP)%PP=(k+(1234567890123456789*x+987654321987654321*y))%PP:=by
  rw [← Nat.add_mod,Nat.add_mod_mod]
 rw [h,← Nat.pow_mod]
theorem mix_c (k x y:Nat) (hk:k<4) (hx:x<18446744073709551616) (hy:y<18446744073709551616) (w:World) :
  Calls zb 170 #[.int .u64 k,.int .u64 x,.int .u64 y] w fun e w'=>e=.returned (.int .u64 (ZM k x y:Nat))∧w'=w:=by
 rw [mix_eq];have p1:=YT (1234567890123456789*x);have p2:=YT (987654321987654321*y);have p3:=YT (1234567890123456789*x%PP+987654321987654321*y%PP);have p4:=YT (k+(1234567890123456789*x%PP+987654321987654321*y%PP)%PP);have H1:Hid (∀ w,Calls zb 135 #[.int .u64 1234567890123456789,.int .u64 x] w fun e w'=>e=.returned (.int .u64 (1234567890123456789*x%PP:Nat))∧w'=w):=zh fun w=>JH 1234567890123456789 x (by omega) hx w
 have H2:Hid (∀ w,Calls zb 135 #[.int .u64 987654321987654321,.int .u64 y] w fun e w'=>e=.returned (.int .u64 (987654321987654321*y%PP:Nat))∧w'=w):=zh fun w=>JH 987654321987654321 y (by omega) hy w
 generalize 1234567890123456789*x%PP=a at *;generalize 987654321987654321*y%PP=b at *;have H3:Hid (∀ w,Calls zb 134 #[.int .u64 a,.int .u64 b] w fun e w'=>e=.returned (.int .u64 ((a+b)%PP:Nat))∧w'=w):=zh fun w=>add_c a b (by omega) (by omega) w
 generalize (a+b)%PP=c at *;have H4:Hid (∀ w,Calls zb 134 #[.int .u64 k,.int .u64 c] w fun e w'=>e=.returned (.int .u64 ((k+c)%PP:Nat))∧w'=w):=zh fun w=>add_c k c (by omega) (by omega) w
 generalize (k+c)%PP=d at *;have H5:Hid (∀ w,Calls zb 133 #[.int .u64 d,.int .u64 17] w fun e w'=>e=.returned (.int .u64 (d ^ 17%PP:Nat))∧w'=w):=zh fun w=>pow_c d 17 17 rfl (by omega) (by omega) w
 generalize d ^ 17%PP=r at *;go_enter Tryz.func170,Tryz.ntmps170;go_wp2_with (first|(go_at_call 135;first|(with_reducible refine same (H1.out _) ?_)|(with_reducible refine same (H2.out _) ?_))|(go_at_call 134;first|(with_reducible refine same (H3.out _) ?_)|(with_reducible refine same (H4.out _) ?_))|(go_at_call 133;with_reducible refine same (H5.out _) ?_));go_ret;exact ⟨rfl,rfl⟩
end
section
open Go.RowKit
def KC (L:Nat):Value :=
 if L<2∨L%2=1 then .tuple #[.int .i64 0,.int .u64 0,.bool false]
 else if (L/2-1)%123=122 then .tuple #[.int .i64 0,.int .u64 0,.bool true]
 else .tuple #[.int .i64 ((L/2-1)%123/2:Nat),.int .u64 ((L/2-1)%123%2:Nat),.bool false]
theorem XY (L:Nat) (hL:L<1152921504606846976) (w:World) :
  Calls zb 125 #[.int .i64 L] w fun e w'=>e=.returned (KC L)∧w'=w:=by
 have HN:=zh (VI L hL);unfold KC;by_cases h1:L<2∨L%2=1
 ·rw [if_pos h1];simp only [if_pos h1] at HN;clear h1;go_enter Tryz.func125,Tryz.ntmps125;go_wp2_with (go_at_call 151;with_reducible refine same (HN.out _) ?_)
  go_ret3
  exact ⟨rfl,rfl⟩
 ·rw [if_neg h1];simp only [if_neg h1] at HN;have hlt:(L/2-1)%123<123:=qM _ (by omega);clear h1;generalize (L/2-1)%123=c at *;by_cases h2:c=122
  ·subst h2;rw [if_pos rfl];go_enter Tryz.func125,Tryz.ntmps125;go_wp2_with (go_at_call 151;with_reducible refine same (HN.out _) ?_)
   go_ret3
   exact ⟨rfl,rfl⟩
  ·rw [if_neg h2];have h3:((c:Int)==122)=false:=(by simp;omega);clear h2;go_enter Tryz.func125,Tryz.ntmps125;go_wp2_with (go_at_call 151;with_reducible refine same (HN.out _) ?_)
   go_ret3
   exact ⟨by simp,rfl⟩
theorem fits_c (x y L:Nat) (hL:L<1152921504606846976) (hx:x<2305843009213693951) (hy:y<2305843009213693951) (w:World) :
  Calls zb 188 #[.int .u64 x,.int .u64 y,.int .i64 L] w fun e w'=>e=.returned (.bool (yt x y L))∧w'=w:=by
 have HN:=zh (VI L hL);unfold yt;by_cases h1:L<2∨L%2=1
 ·rw [if_pos h1];simp only [if_pos h1] at HN;clear h1;go_enter X9,QS;go_wp2_with (go_at_call 151;with_reducible refine same (HN.out _) ?_);go_ret;exact ⟨rfl,rfl⟩
 ·rw [if_neg h1];simp only [if_neg h1] at HN;have hlt:(L/2-1)%123<123:=qM _ (by omega);clear h1;generalize (L/2-1)%123=c at *;by_cases h2:c=122
  ·subst h2;rw [if_pos rfl];have hd:((x:Int)==(y:Int))=decide (x=y):=(by rw [Bool.eq_iff_iff];simp;omega);go_enter X9,QS;go_wp2_with (go_at_call 151;with_reducible refine same (HN.out _) ?_);go_ret;exact ⟨rfl,rfl⟩
  ·rw [if_neg h2];have h3:((c:Int)==122)=false:=(by simp;omega);have e1:=vK x (c/2) (by omega);have e2:=vK y (c/2) (by omega);have hxb:x/2 ^ (c/2)%2<2:=qM _ (by omega);have hyb:y/2 ^ (c/2)%2<2:=qM _ (by omega);have hcb:c%2<2:=qM _ (by omega);generalize x/2 ^ (c/2)%2=xb at *;generalize y/2 ^ (c/2)%2=yb at *;have hs:(1:Int)-(c:Int)%2=((1-c%2:Nat):Int):=(by omega);clear h2;by_cases h4:xb=c%2
   ·have d1:((xb:Int)==(c:Int)%2)=true:=(by simp;omega);have hd:((yb:Int)==((1-c%2:Nat):Int))=decide (yb=1-c%2):=(by rw [Bool.eq_iff_iff];simp;omega);have H4:=zh h4;clear h4;go_enter X9,QS;go_wp2_with (go_at_call 151;with_reducible refine same (HN.out _) ?_);go_ret;exact ⟨congrArg Ending.returned (congrArg Value.bool (by rw [decide_eq_true H4.out,Bool.true_and])),rfl⟩
   ·have d1:((xb:Int)==(c:Int)%2)=false:=(by simp;omega);have H4:=zh h4;clear h4;go_enter X9,QS;go_wp2_with (go_at_call 151;with_reducible refine same (HN.out _) ?_);go_ret;exact ⟨congrArg Ending.returned (congrArg Value.bool (by rw [decide_eq_false H4.out,Bool.false_and])),rfl⟩
theorem JW (L:Nat) (hL:L<1152921504606846976) (w:World) :
  Calls zb 163 #[.int .i64 L] w fun e w'=>e=.returned (KC L)∧w'=w:=by
 have HN:=zh (XY L hL);have hs:∃ a b c,KC L=.tuple #[.int .i64 a,.int .u64 b,.bool c]:=(by unfold KC;split;exact ⟨_,_,_,rfl⟩;split;exact ⟨_,_,_,rfl⟩;exact ⟨_,_,_,rfl⟩);obtain ⟨a,b,c,hs⟩:=hs;rw [hs] at HN ⊢;clear hs;go_enter Tryz.func163,Tryz.ntmps163;go_wp2_with (go_at_call 125;with_reducible refine same (HN.out _) ?_)
 go_ret3
 exact ⟨rfl,rfl⟩
theorem KO (x y L:Nat) (hL:L<1152921504606846976) (hx:x<2305843009213693951) (hy:y<2305843009213693951) (w:World) :
  Calls zb 182 #[.int .u64 x,.int .u64 y,.int .i64 L] w fun e w'=>e=.returned (.bool (yt x y L))∧w'=w:=by
 have HN:=zh (fits_c x y L hL hx hy);generalize yt x y L=b at *;go_enter Tryz.func182,Tryz.ntmps182;go_wp2_with (go_at_call 188;with_reducible refine same (HN.out _) ?_);go_ret;exact ⟨rfl,rfl⟩
end
section
open Go.RowKit Go.Maps
attribute [local go_sem] qt
theorem St.empty {w0 w:World} {M:List Nat} {L:List As} {A:As} (H:St w0 M L w) (h:A.ho w) (he:A.fp=[]):St w0 M (A::L) w :=
 ⟨H.os,H.tape,H.output,H.size,H.keep,fun B hB=>by
  rw [zL] at hB;rcases hB with rfl|hB
  ·exact h
  ·exact H.ho B hB,fun B hB b hb=>by
  rw [zL] at hB;rcases hB with rfl|hB
  ·rw [he] at hb;simp at hb
  ·exact H.own B hB b hb,qu.2 ⟨fun B _ b hb=>by rw [he] at hb;simp at hb,H.dis⟩⟩
theorem wL {f:FuncId} {args:Array Value} {v:Value} {w:World} {x:Gr w} (h:Calls zb f args x.1 fun e w'=>e=.returned v∧St x.1 [] [] w'):Calls zb f args x.1 fun e w''=>e=.returned v∧∃ y:Gr w,w''=y.1:=VN h
theorem Y7 {f:FuncId} {args:Array Value} {v:Value} {w:World} {x:Gr w} (h:Calls zb f args x.1 fun e w'=>e=.returned v∧w'=x.1):Calls zb f args x.1 fun e w''=>e=.returned v∧∃ y:Gr w,w''=y.1:=Jc h
theorem stoA_new {p m:Nat} {n:Nat} {w0 w:World} {M:List Nat} {R:List As} (h:St w0 M (blk p (.cells #[.int .i64 (n:Nat),.slice none 0 0,.map (some m)] 143)::zP zb 131 m []::R) w):St w0 M (qF p (.slice none 0 0) m ⟨n,[]⟩::R) w:=by
 have h1:=h.empty (A:=zc enL 146 13 (.slice none 0 0) []) (qq w) (by rw [qS];rfl);exact JX (h1.pick (.there .here)) rfl
theorem new_c (n:Nat) (hn:n<=1048576) (z:Int) (hz:z=n) (w:World) :
  Calls zb 55 #[.int .i64 z] w fun e w'=>∃ p m,e=.returned (.pointer (some ⟨p,0,none⟩))∧St w [] [qF p (.slice none 0 0) m ⟨n,[]⟩] w':=by
 subst hz;have H:=St.nil w [];go_enter Tryz.func55,Tryz.ntmps55;go_wp2_with (first|refine sL ?_|(refine sS ?_;clear H;intros;rename_i H)|(go_at_call 87;refine same (clip_c n _ (by omega) (by omega)) ?_)|((with_reducible refine Jw ?_);refine AtMakeMap.go 131 H rfl rfl ?_;clear H;intro m _ H;simp only [Act.put,puA,puB,puC]));go_ret;exact ⟨_,_,rfl,stoA_new H⟩
theorem Yy {α:Type} {enc:α->List Value} {k:Nat} (hk:∀ x,(enc x).length=k) {j:Nat} (hj:j<k) {u:Value} {z:α}:∀ {xs:List α} {i:Nat} {x0:α},xs[i]?=some x0->enc z=(enc x0).set j u->zU enc (xs.set i z)=(zU enc xs).set (i*k+j) u
 |[],i,x0,h,_=>by simp at h
 |x::r,0,x0,h,hz=>by
  have:x=x0:=by simpa using h
  subst this;simp only [zq,QM,qQ];show enc z++zU enc r=(enc x++zU enc r).set j u
  rw [List.set_append_left _ _ (by rw [hk];exact hj),hz]
 |x::r,i+1,x0,h,hz=>by
  have ih:=Yy hk hj (xs:=r) (i:=i) (by simpa using h) hz;show enc x++zU enc (r.set i z)=(enc x++zU enc r).set ((i+1)*k+j) u
  rw [List.set_append_right _ _ (by rw [hk];have:(i+1)*k=i*k+k:=XX i k;omega),ih,hk];congr 2
  have:(i+1)*k=i*k+k:=XX i k;omega
section
variable {ops:Array Oper} {Q:Exit->Act->World->Prop} {rest:List Oper} {a:Act} {w w0:World} {M:List Nat} {L R:List As} {o1:Oper}
theorem AtStore.rowAk {α:Type} {enc:α->List Value} {e ty:TypeId} {x y:Operand} {k g n c i j b:Nat} {xs:List α} (H:St w0 M L w) (hw:Region.wanted o1 (yielded ops a.tmps)=true) (ho:o1.op=.store ty x y) (hx:a.eval x=.pointer (some ⟨g,b,none⟩)) {u:Value} (hr:je ty=true) (hy:yU a y=some u) (h1:u.oneCell'=true)
  (hp:Pick L (zc enc e k (.slice (some ⟨g,0,none⟩) n c) xs) R) (hk:∀ x,(enc x).length=k) {x0:α} (hi:xs[i]?=some x0) (hj:j<k) (hb:b=i*k+j) (z:α) (hz:enc z=(enc x0).set j u)
  (h:∀ w',St w0 M (zc enc e k (.slice (some ⟨g,0,none⟩) n c) (xs.set i z)::R) w'->wpList zb ops Q rest (a.put o1.dst undef) w'):AtStore zb ops Q o1 ty x y rest a w:=by
 have H':=H.pick hp;have hil:i<xs.length:=(xB.1 hi).1;have hown:=H'.ho _ zN;rw [ww] at hown;obtain ⟨hlen,hown⟩:=hown;rcases hown with ⟨h',_⟩|⟨g',cap,cs,h',_,hg,h5,h7,h6,h8⟩
 ·cases h'
 ·injection h' with e1 e2 e3
  injection e1 with e1
  injection e1 with e1
  subst e1 e2 e3;have H2:St w0 M (blk g (.cells cs e)::R) w:=H'.conv (by rw [qS,w8];rfl) fun _=>by rw [xp];exact hg
  have hbl:b<cs.size:=by
   have h9:(i+1)*k<=xs.length*k:=y9 k hil;have h10:(i+1)*k=i*k+k:=XX i k;have h11:=congrArg ym h8;rw [yW enc k hk,qg] at h11;have h12:cs.toList.length=cs.size:=rfl;omega
  refine AtStore.cell H2 hw ho hx hy h1 (qL (qB hr)) Upd.here hbl rfl fun w' H3=>h w' ?_
  refine H3.conv (by rw [qS,w8];rfl) fun hb'=>?_
  rw [xp] at hb';rw [ww];refine ⟨by rw [yW enc k hk],.inr ⟨g,c,cs.setIfInBounds b u,by rw [wo],qy _,hb',by rw [wo];exact h5,h7,by simpa using h6,?_⟩⟩;rw [Array.toList_setIfInBounds,wo,List.take_set,h8,Yy hk hj hi hz,hb]
end
theorem rowsA_cut {α:Type} {enc:α->List Value} {e k g n c:Nat} {xs:List α} {x:α} {w:World} (hk:∀ x,(enc x).length=k) (hn:xs.length=n) (h:(zc enc e k (.slice (some ⟨g,0,none⟩) (n+1) c) (xs++[x])).ho w):(zc enc e k (.slice (some ⟨g,0,none⟩) n c) xs).ho w:=by
 rw [ww] at h ⊢;obtain ⟨h1,h2⟩:=h;rcases h2 with ⟨h',_⟩|⟨g',cap,cur,h',h3,h4,h5,h6,h7,h8⟩
 ·cases h'
 ·injection h' with e1 e2 e3
  injection e1 with e1
  injection e1 with e1
  subst e1 e3;subst hn;refine ⟨yW enc k hk xs,.inr ⟨g,c,cur,rfl,h3,h4,by simp at h5;omega,h6,h7,?_⟩⟩;have:zU enc (xs++[x])=zU enc xs++enc x:=flatG_snoc enc xs x;rw [this] at h8;have h9:=congrArg (List.take (xs.length*k)) h8;rw [List.take_take,List.take_left' (yW enc k hk xs)] at h9;rw [← h9,kF];exact y9 _ (by simp)
theorem St.cut {α:Type} {enc:α->List Value} {e k g n c:Nat} {xs:List α} {x:α} {w0 w:World} {M:List Nat} {R:List As} (h:St w0 M (zc enc e k (.slice (some ⟨g,0,none⟩) (n+1) c) (xs++[x])::R) w) (hk:∀ x,(enc x).length=k) (hn:xs.length=n):St w0 M (zc enc e k (.slice (some ⟨g,0,none⟩) n c) xs::R) w :=
 h.conv (by rw [qS,qS];rfl) (rowsA_cut hk hn)
section
variable {ops:Array Oper} {a:Act} {w w0:World} {M:List Nat} {L:List As} {o:Oper} {Rr:Value->World->Prop}
theorem StStep.allocT {ty:TypeId} (H:St w0 M L w) (hw:Region.wanted o (yielded ops a.tmps)=true) (ho:o.op=.alloc ty) {z:Value} (hz:zO ty=some z) {cs:Array Value} (hc:wZ z=some cs)
  (h:∀ b w',St w0 M (blk b (.cells cs ty)::L) w'->Rr (.pointer (some ⟨b,0,none⟩)) w'):StStep zb ops o a w Rr :=
 StStep.val hw (by unfold execOp;simp only [ho,Instr.alloc,Sem.run_bind,K8 hz,Result.andThen_ok,newVar,newRow,vL hc,run_newObj_alloc,Sem.run_pure]) (h _ _ (H.alloc (.cells cs ty)))
theorem StStep.rngT {ty:TypeId} {x:Operand} (hw:Region.wanted o (yielded ops a.tmps)=true) (ho:o.op=.load ty x) {g off:Nat} (hx:a.eval x=.pointer (some ⟨g,off,none⟩)) {vs:List Value} (hc:w.rangeAt g off vs)
  (hr:jW ty vs.length=true) (h:Rr (.agg vs.toArray) w):StStep zb ops o a w Rr :=
 StStep.val hw (by
  have hr:=xN hr;unfold jt at hr;simp only [zu,beq_iff_eq] at hr;unfold execOp;cases hu:Program.underlying zb ty with
  |none=>simp [hu] at hr
  |some d =>
   simp only [ho,hx,Sem.run_bind,run_loadAt_mid w g off ty vs d hc hu (by simp only [hu] at hr;cases d <;> simp_all [TypeDesc.isRow]) hr.2,Result.andThen_ok];rfl) h
end
def jd:Value->Nat
 |.pointer (some ad)=>ad.block
 |_=>0
end
section
open Go.RowKit Go.Maps
attribute [local go_sem] qt
structure Kr where
 key:Nat
 lv:Int
 known:Bool
def xS (r:Kr):List Value:=[.int .u64 r.key,.int .i64 r.lv,.bool r.known]
theorem xT (r:Kr):(xS r).length=3:=rfl
def lvI:Option Nat->Int
 |none=>-1
 |some a=>a
structure Kt where
 t:Nat
 s:Nat
 rv:Value
 rows:List Kr
def ktA (K:Kt):As:=(blk K.t (.cells #[.pointer (some ⟨K.s,0,none⟩),K.rv] 211)).sep (zc xS 214 3 K.rv K.rows)
theorem ktA_open {K:Kt} {w0 w:World} {M:List Nat} {R:List As} (h:St w0 M (ktA K::R) w):St w0 M (blk K.t (.cells #[.pointer (some ⟨K.s,0,none⟩),K.rv] 211)::zc xS 214 3 K.rv K.rows::R) w:=h.sep
theorem ZL {K:Kt} {w0 w:World} {M:List Nat} {R:List As} (h:St w0 M (blk K.t (.cells #[.pointer (some ⟨K.s,0,none⟩),K.rv] 211)::zc xS 214 3 K.rv K.rows::R) w):St w0 M (ktA K::R) w:=h.join
theorem ktA_ks {K:Kt} {w:World} (h:(ktA K).ho w):Ks w [] [blk K.t (.cells #[.pointer (some ⟨K.s,0,none⟩),K.rv] 211),zc xS 214 3 K.rv K.rows]:=(Ks.one h).sep
theorem ktA_rows {K:Kt} {w:World} (h:(ktA K).ho w):(zc xS 214 3 K.rv K.rows).ho w:=(ktA_ks h).ho _ (by simp)
attribute [irreducible] ktA
def RowOk (S:Sto) (id:Nat) (r:Kr):Prop:=r=⟨0,0,false⟩∨(1<=id∧id<=S.list.length∧r=⟨(S.tr id).key,lvI (S.tr id).lev,true⟩)
structure KtOk (S:Sto) (K:Kt):Prop where
 len:K.rows.length<=S.list.length+1
 rows:∀ (i:Nat) (r:Kr),K.rows[i]?=some r->RowOk S i r
theorem RowOk.le {S S':Sto} (hS:S.Ok) (h:S.Le S') {id:Nat} {r:Kr} (hr:RowOk S id r):RowOk S' id r:=by
 rcases hr with hr|⟨h1,h2,h3⟩
 ·exact .inl hr
 ·exact .inr ⟨h1,qs h2 h.len,by rw [h.tr hS h1 h2];exact h3⟩
theorem KtOk.le {S S':Sto} (hS:S.Ok) (h:S.Le S') {K:Kt} (hK:KtOk S K):KtOk S' K:=⟨qs hK.len (by have:=h.len;omega),fun i r hr=>(hK.rows i r hr).le hS h⟩
theorem lvI_lt {S:Sto} (hS:S.Ok) {i:Nat} {x:En} (hx:S.list[i]?=some x):-1<=lvI (S.tr (i+1)).lev∧lvI (S.tr (i+1)).lev<=246*i:=by
 cases h:(S.tr (i+1)).lev with
 |none=>simp [lvI];omega
 |some a=>have:=tr_lev hS i x hx a h;simp [lvI];omega
theorem mix_u (k x y:Nat) (hk:k<4) (hx:x<18446744073709551616) (hy:y<18446744073709551616):Hid (∀ w,Calls zb 170 #[.int .u64 k,.int .u64 x,.int .u64 y] w fun e w'=>e=.returned (.int .u64 (ZM k x y:Nat))∧w'=w):=zh fun w=>mix_c k x y hk hx hy w
def Xc (r:Rl) (a b:Kr):Kr :=
 if r.kind=1 then ⟨ZM 1 r.letter 0,0,true⟩
 else if r.kind=2 then ⟨ZM 2 a.key b.key,if r.left≠r.right∧0<=a.lv∧0<=b.lv then (xJ (max a.lv.toNat b.lv.toNat) a.key b.key:Nat) else -1,true⟩
 else ⟨ZM 3 a.key r.times,if 0<=a.lv∧a.lv%2=0 then a.lv+1 else -1,true⟩
attribute [local go_sem] StStep jw yM in
theorem Ys {K:Kt} {rl rr:Kr} (kd lt il ir tm:Nat) (hkd:kd=1∨kd=2∨kd=3) (hlt:lt<256) (htm:tm<9223372036854775808) (hl:K.rows[il]?=some rl) (hr:K.rows[ir]?=some rr) (hkl:rl.key<2305843009213693951) (hkr:rr.key<2305843009213693951)
  (hvl:-1<=rl.lv∧rl.lv<1152921504606846976) (hvr:-1<=rr.lv∧rr.lv<1152921504606846976) (w:World) (hk:(ktA K).ho w) (hde:deA.ho w) :
  Calls zb 150 #[.pointer (some ⟨K.t,0,none⟩),.agg #[.int .i64 kd,.int .u8 lt,.int .i64 il,.int .i64 ir,.int .i64 tm]] w fun e w'=>e=.returned (.agg #[.int .u64 (Xc ⟨kd,lt,il,ir,tm⟩ rl rr).key,.int .i64 (Xc ⟨kd,lt,il,ir,tm⟩ rl rr).lv,.bool true])∧St w [] [] w':=by
 have HK:=ktA_ks hk;have hil:=yE hl;have hir:=yE hr;obtain ⟨g,c,hrv,hc,hm⟩:=q8 (ktA_rows hk) (by omega);rw [hrv] at HK;have H:=St.nil w [];have HL:=zh hl;have HR:=zh hr;have HDE:=zh hde;have hm':K.rows.length<=9223372036854775807:=(by unfold maxLen at hm;omega);have M1:=mix_u 1 lt 0 (by omega) (by omega) (by omega);have M2:=mix_u 2 rl.key rr.key (by omega) (by omega) (by omega);have M3:=mix_u 3 rl.key tm (by omega) (by omega) (by omega);generalize hRR:Xc ⟨kd,lt,il,ir,tm⟩ rl rr=RR;unfold Xc at hRR;simp only at hRR;generalize ZM 1 lt 0=q1 at *;generalize ZM 2 rl.key rr.key=q2 at *;generalize ZM 3 rl.key tm=q3 at *;have HRR:=zh hRR;clear hk hrv hl hr hde hRR;go_enter Tryz.func150,Tryz.ntmps150;go_wp2_with (first|refine sL ?_|(refine sS ?_;clear H;intros;rename_i H));rename_i b3 _ b4 _ _ _;refine ka H [blk b4 (.cells #[.int .u64 0,.int .i64 0,.bool false] 214),blk b3 (.cells #[.int .i64 kd,.int .u8 lt,.int .i64 il,.int .i64 ir,.int .i64 tm] 131)] 20 [⟨[],[],[],fun v _=>v=.pointer (some ⟨K.t,0,none⟩),fun _ _=>[]⟩,⟨[],[],[0],fun v _=>v=.pointer (some ⟨K.t,0,none⟩),fun _ _=>[]⟩,⟨[],[],[1],fun v _=>v=.pointer (some ⟨K.t,1,none⟩),fun _ _=>[]⟩,⟨[],[],[2],fun v _=>v=.slice (some ⟨g,0,none⟩) K.rows.length c,fun _ _=>[]⟩,⟨[],[],[],fun v _=>v=.pointer (some ⟨b3,2,none⟩),fun _ _=>[]⟩,⟨[],[],[4],fun v _=>v=.int .i64 il,fun _ _=>[]⟩,⟨[],[],[3,5],fun v _=>v=.pointer (some ⟨g,il*3,none⟩),fun _ _=>[]⟩,⟨[],[],[6],fun v _=>v=.agg #[.int .u64 rl.key,.int .i64 rl.lv,.bool rl.known],fun _ _=>[]⟩,⟨[],[],[],fun v _=>v=.pointer (some ⟨K.t,0,none⟩),fun _ _=>[]⟩,⟨[],[],[8],fun v _=>v=.pointer (some ⟨K.t,0,none⟩),fun _ _=>[]⟩,⟨[],[],[9],fun v _=>v=.pointer (some ⟨K.t,1,none⟩),fun _ _=>[]⟩,⟨[],[],[10],fun v _=>v=.slice (some ⟨g,0,none⟩) K.rows.length c,fun _ _=>[]⟩,⟨[],[],[],fun v _=>v=.pointer (some ⟨b3,3,none⟩),fun _ _=>[]⟩,⟨[],[],[12],fun v _=>v=.int .i64 ir,fun _ _=>[]⟩,⟨[],[],[11,13],fun v _=>v=.pointer (some ⟨g,ir*3,none⟩),fun _ _=>[]⟩,⟨[],[],[14],fun v _=>v=.agg #[.int .u64 rr.key,.int .i64 rr.lv,.bool rr.known],fun _ _=>[]⟩,⟨[],[],[],fun v _=>v=.pointer (some ⟨jd v,0,none⟩),fun v _=>[blk (jd v) (.cells #[.int .u64 0,.int .i64 0,.bool false] 214)]⟩,⟨[],[],[],fun v _=>v=.pointer (some ⟨jd v,0,none⟩),fun v _=>[blk (jd v) (.cells #[.int .u64 0,.int .i64 0,.bool false] 214)]⟩,⟨[16],[],[7,16],fun _ _=>True,fun _ ds=>match ds with|[_,b]=>[blk (jd b) (.cells #[.int .u64 rl.key,.int .i64 rl.lv,.bool rl.known] 214)]|_=>[]⟩,⟨[17],[],[15,17],fun _ _=>True,fun _ ds=>match ds with|[_,b]=>[blk (jd b) (.cells #[.int .u64 rr.key,.int .i64 rr.lv,.bool rr.known] 214)]|_=>[]⟩] (by kernel_rfl)
  [[],[(0,8)],[(1,9)],[(2,10)],[],[(4,12)],[(3,11),(5,13)],[(6,14)],[],[(8,16)],[(9,17)],[(10,18)],[],[(12,20)],[(11,19),(13,21)],[(14,22)],[],[],[(7,15),(16,5)],[(15,23),(17,6)]] [(0,8),(1,9),(2,10),(3,11),(4,12),(5,13),(6,14),(7,15),(8,16),(9,17),(10,18),(11,19),(12,20),(13,21),(14,22),(15,23),(16,5),(17,6)] [0,1,2,3,4,5,6,7,8,9,10,11,12,13,14,15,18,19] (by kernel_rfl) (by kernel_rfl) (by kernel_rfl) ⟨?o0,?o1,?o2,?o3,?o4,?o5,?o6,?o7,?o8,?o9,?o10,?o11,?o12,?o13,?o14,?o15,?o16,?o17,?o18,?o19,trivial⟩ ?fin
 case o0 =>
  intro vals wx X hd H;clear hd;replace H:=sP H;simp only [yu,zx];go_simp;first|exact H|exact ⟨rfl,H⟩
 case o1 =>
  intro vals wx X hd H;have h0:vals 0=.pointer (some ⟨K.t,0,none⟩):=hd.1;clear hd;replace H:=sP H;simp only [yu,zx,zB,Act.put,zf,zq,zp,h0];clear h0;go_simp;first|exact H|exact ⟨rfl,H⟩
 case o2 =>
  intro vals wx X hd H;have h1:vals 1=.pointer (some ⟨K.t,0,none⟩):=hd.1;clear hd;replace H:=sP H;simp only [yu,zx,zB,Act.put,zf,zq,zp,h1];clear h1;go_simp;first|exact H|exact ⟨rfl,H⟩
 case o3 =>
  intro vals wx X hd H;have h2:vals 2=.pointer (some ⟨K.t,1,none⟩):=hd.1;clear hd;replace H:=sP H;simp only [yu,zx,zB,Act.put,zf,zq,zp,h2];first|refine StStep.cellT rfl rfl rfl gt rfl rfl ⟨rfl,H⟩|refine StStep.wholeT rfl rfl rfl gt rfl ⟨rfl,H⟩
 case o4 =>
  intro vals wx X hd H;clear hd;replace H:=sP H;simp only [yu,zx];go_simp;first|exact H|exact ⟨rfl,H⟩
 case o5 =>
  intro vals wx X hd H;have h4:vals 4=.pointer (some ⟨b3,2,none⟩):=hd.1;clear hd;replace H:=sP H;simp only [yu,zx,zB,Act.put,zf,zq,zp,h4];first|refine StStep.cellT rfl rfl rfl gt rfl rfl ⟨rfl,H⟩|refine StStep.wholeT rfl rfl rfl gt rfl ⟨rfl,H⟩
 case o6 =>
  intro vals wx X hd H;have h3:vals 3=.slice (some ⟨g,0,none⟩) K.rows.length c:=hd.1;have h5:vals 5=.int .i64 il:=hd.2.1;clear hd;replace H:=sP H;simp only [yu,zx,zB,Act.put,zf,zq,zp,h3,h5];clear h3 h5;go_simp;first|exact H|exact ⟨rfl,H⟩|exact ⟨by simp,H⟩
 case o7 =>
  intro vals wx X hd H;have h6:vals 6=.pointer (some ⟨g,il*3,none⟩):=hd.1;clear hd;replace H:=sP H;simp only [yu,zx,zB,Act.put,zf,zq,zp,h6];exact StStep.rngT (vs:=xS rl) rfl rfl rfl (H.rng (enc:=xS) HK pk xT HL.out) rfl ⟨rfl,H⟩
 case o8 =>
  intro vals wx X hd H;clear hd;replace H:=sP H;simp only [yu,zx];go_simp;first|exact H|exact ⟨rfl,H⟩
 case o9 =>
  intro vals wx X hd H;have h8:vals 8=.pointer (some ⟨K.t,0,none⟩):=hd.1;clear hd;replace H:=sP H;simp only [yu,zx,zB,Act.put,zf,zq,zp,h8];clear h8;go_simp;first|exact H|exact ⟨rfl,H⟩
 case o10 =>
  intro vals wx X hd H;have h9:vals 9=.pointer (some ⟨K.t,0,none⟩):=hd.1;clear hd;replace H:=sP H;simp only [yu,zx,zB,Act.put,zf,zq,zp,h9];clear h9;go_simp;first|exact H|exact ⟨rfl,H⟩
 case o11 =>
  intro vals wx X hd H;have h10:vals 10=.pointer (some ⟨K.t,1,none⟩):=hd.1;clear hd;replace H:=sP H;simp only [yu,zx,zB,Act.put,zf,zq,zp,h10];first|refine StStep.cellT rfl rfl rfl gt rfl rfl ⟨rfl,H⟩|refine StStep.wholeT rfl rfl rfl gt rfl ⟨rfl,H⟩
 case o12 =>
  intro vals wx X hd H;clear hd;replace H:=sP H;simp only [yu,zx];go_simp;first|exact H|exact ⟨rfl,H⟩
 case o13 =>
  intro vals wx X hd H;have h12:vals 12=.pointer (some ⟨b3,3,none⟩):=hd.1;clear hd;replace H:=sP H;simp only [yu,zx,zB,Act.put,zf,zq,zp,h12];first|refine StStep.cellT rfl rfl rfl gt rfl rfl ⟨rfl,H⟩|refine StStep.wholeT rfl rfl rfl gt rfl ⟨rfl,H⟩
 case o14 =>
  intro vals wx X hd H;have h11:vals 11=.slice (some ⟨g,0,none⟩) K.rows.length c:=hd.1;have h13:vals 13=.int .i64 ir:=hd.2.1;clear hd;replace H:=sP H;simp only [yu,zx,zB,Act.put,zf,zq,zp,h11,h13];clear h11 h13;go_simp;first|exact H|exact ⟨rfl,H⟩|exact ⟨by simp,H⟩
 case o15 =>
  intro vals wx X hd H;have h14:vals 14=.pointer (some ⟨g,ir*3,none⟩):=hd.1;clear hd;replace H:=sP H;simp only [yu,zx,zB,Act.put,zf,zq,zp,h14];exact StStep.rngT (vs:=xS rr) rfl rfl rfl (H.rng (enc:=xS) HK pk xT HR.out) rfl ⟨rfl,H⟩
 case o16 =>
  intro vals wx X hd H;clear hd;replace H:=sP H;simp only [yu,zx];exact StStep.allocT H rfl rfl rfl rfl fun b w' H=>⟨rfl,H⟩
 case o17 =>
  intro vals wx X hd H;clear hd;replace H:=sP H;simp only [yu,zx];exact StStep.allocT H rfl rfl rfl rfl fun b w' H=>⟨rfl,H⟩
 case o18 =>
  intro vals wx X hd H;have h7:vals 7=.agg #[.int .u64 rl.key,.int .i64 rl.lv,.bool rl.known]:=hd.1;have h16:=hd.2.1;clear hd;replace H:=sP H;simp only [yu,zx,zB,Act.put,zf,zq,zp,h7];have ea:vals 16=.pointer (some ⟨jd (vals 16),0,none⟩):=h16;clear h16;exact StStep.storeT (cs':=#[.int .u64 rl.key,.int .i64 rl.lv,.bool rl.known]) rfl rfl ea rfl rfl rfl H rfl fun w' H=>⟨trivial,H⟩
 case o19 =>
  intro vals wx X hd H;have h15:vals 15=.agg #[.int .u64 rr.key,.int .i64 rr.lv,.bool rr.known]:=hd.1;have h17:=hd.2.1;clear hd;replace H:=sP H;simp only [yu,zx,zB,Act.put,zf,zq,zp,h15];have ea:vals 17=.pointer (some ⟨jd (vals 17),0,none⟩):=h17;clear h17;exact StStep.storeT (cs':=#[.int .u64 rr.key,.int .i64 rr.lv,.bool rr.known]) rfl rfl ea rfl rfl rfl H rfl fun w' H=>⟨trivial,H⟩
 case fin =>
  intro vals wx hd H;have h0:vals 0=.pointer (some ⟨K.t,0,none⟩):=hd.1;have h1:vals 1=.pointer (some ⟨K.t,0,none⟩):=hd.2.1;have h2:vals 2=.pointer (some ⟨K.t,1,none⟩):=hd.2.2.1;have h3:vals 3=.slice (some ⟨g,0,none⟩) K.rows.length c:=hd.2.2.2.1;have h4:vals 4=.pointer (some ⟨b3,2,none⟩):=hd.2.2.2.2.1;have h5:vals 5=.int .i64 il:=hd.2.2.2.2.2.1;have h6:vals 6=.pointer (some ⟨g,il*3,none⟩):=hd.2.2.2.2.2.2.1;have h7:vals 7=.agg #[.int .u64 rl.key,.int .i64 rl.lv,.bool rl.known]:=hd.2.2.2.2.2.2.2.1;have h8:vals 8=.pointer (some ⟨K.t,0,none⟩):=hd.2.2.2.2.2.2.2.2.1;have h9:vals 9=.pointer (some ⟨K.t,0,none⟩):=hd.2.2.2.2.2.2.2.2.2.1;have h10:vals 10=.pointer (some ⟨K.t,1,none⟩):=hd.2.2.2.2.2.2.2.2.2.2.1;have h11:vals 11=.slice (some ⟨g,0,none⟩) K.rows.length c:=hd.2.2.2.2.2.2.2.2.2.2.2.1;have h12:vals 12=.pointer (some ⟨b3,3,none⟩):=hd.2.2.2.2.2.2.2.2.2.2.2.2.1;have h13:vals 13=.int .i64 ir:=hd.2.2.2.2.2.2.2.2.2.2.2.2.2.1;have h14:vals 14=.pointer (some ⟨g,ir*3,none⟩):=hd.2.2.2.2.2.2.2.2.2.2.2.2.2.2.1;have h15:vals 15=.agg #[.int .u64 rr.key,.int .i64 rr.lv,.bool rr.known]:=hd.2.2.2.2.2.2.2.2.2.2.2.2.2.2.2.1;have h16:=hd.2.2.2.2.2.2.2.2.2.2.2.2.2.2.2.2.1;have h17:=hd.2.2.2.2.2.2.2.2.2.2.2.2.2.2.2.2.2.1;clear hd;replace H:=sP H;simp only [yu,zx,zB,Act.put,zf,zq,zp,wQ,yw,h0,h1,h2,h3,h4,h5,h6,h7,h8,h9,h10,h11,h12,h13,h14,h15];clear h0 h1 h2 h3 h4 h5 h6 h7 h8 h9 h10 h11 h12 h13 h14 h15;have e16:vals 16=.pointer (some ⟨jd (vals 16),0,none⟩):=h16;have e17:vals 17=.pointer (some ⟨jd (vals 17),0,none⟩):=h17;clear h16 h17;simp only [zX,ye,zo,zv] at H;generalize jd (vals 16)=b5 at e16 H;generalize jd (vals 17)=b6 at e17 H;simp only [e16,e17];clear e16 e17;rcases hkd with rfl|rfl|rfl
  ·have HX:Hid (RR=⟨q1,0,true⟩):=zh (by rw [← HRR.out,if_pos rfl]);clear HRR;go_wp2_with (first|refine sL ?_|(refine sS ?_;clear H;intros;rename_i H)|(go_at_call 170;with_reducible refine same (M1.out _) ?_));exact bodyPost_ret (xR rfl H rfl pk rfl) rfl ⟨by rw [HX.out],H.nix⟩
  ·have hR2:=HRR.out;rw [if_neg (by omega),if_pos rfl] at hR2;clear HRR;by_cases hcond:il≠ir∧0<=rl.lv∧0<=rr.lv
   ·rw [if_pos hcond] at hR2;obtain ⟨c1,c2,c3⟩:=hcond;have d1:((il:Int)==(ir:Int))=false:=(by simp;omega);have d1':((il:Int) != (ir:Int))=true:=(by simp;omega);have d2:decide (rl.lv<0)=false:=(by simp;omega);have d3:decide (rr.lv<0)=false:=(by simp;omega);have HA:Hid (∀ w,deA.ho w->Calls zb 171 #[.int .i64 (if rl.lv<rr.lv then rr.lv else rl.lv),.int .u64 rl.key,.int .u64 rr.key] w fun e w'=>e=.returned (.int .i64 (xJ (max rl.lv.toNat rr.lv.toNat) rl.key rr.key:Nat))∧w'=w):=zh fun w h=>by
     have:=after_c (max rl.lv.toNat rr.lv.toNat) rl.key rr.key (by omega) hkl hkr w h;rw [show ((max rl.lv.toNat rr.lv.toNat:Nat):Int)=(if rl.lv<rr.lv then rr.lv else rl.lv) by split <;> omega] at this;exact this
    generalize xJ (max rl.lv.toNat rr.lv.toNat) rl.key rr.key=qa at *;have HX:=zh hR2.symm;clear c1 hR2;by_cases hlt:rl.lv<rr.lv
    ·rw [if_pos hlt] at HA;go_wp2_with (first|refine sL ?_|(refine sS ?_;clear H;intros;rename_i H)|(go_at_call 170;with_reducible refine same (M2.out _) ?_)|(go_at_call 171;with_reducible refine same (HA.out _ (H.old HDE.out (by simp))) ?_));exact bodyPost_ret (xR rfl H rfl pk rfl) rfl ⟨by rw [HX.out],H.nix⟩
    ·rw [if_neg hlt] at HA;go_wp2_with (first|refine sL ?_|(refine sS ?_;clear H;intros;rename_i H)|(go_at_call 170;with_reducible refine same (M2.out _) ?_)|(go_at_call 171;with_reducible refine same (HA.out _ (H.old HDE.out (by simp))) ?_));exact bodyPost_ret (xR rfl H rfl pk rfl) rfl ⟨by rw [HX.out],H.nix⟩
   ·rw [if_neg hcond] at hR2;have HX:=zh hR2.symm;clear hR2;by_cases c1:il=ir
    ·have d1:((il:Int)==(ir:Int))=true:=(by simp;omega);have d1':((il:Int) != (ir:Int))=false:=(by simp;omega);clear hcond c1;go_wp2_with (first|refine sL ?_|(refine sS ?_;clear H;intros;rename_i H)|(go_at_call 170;with_reducible refine same (M2.out _) ?_));exact bodyPost_ret (xR rfl H rfl pk rfl) rfl ⟨by rw [HX.out],H.nix⟩
    ·have d1:((il:Int)==(ir:Int))=false:=(by simp;omega);have d1':((il:Int) != (ir:Int))=true:=(by simp;omega);by_cases c2:rl.lv<0
     ·have d2:decide (rl.lv<0)=true:=(by simp;omega);clear hcond c1;go_wp2_with (first|refine sL ?_|(refine sS ?_;clear H;intros;rename_i H)|(go_at_call 170;with_reducible refine same (M2.out _) ?_));exact bodyPost_ret (xR rfl H rfl pk rfl) rfl ⟨by rw [HX.out],H.nix⟩
     ·have d2:decide (rl.lv<0)=false:=(by simp;omega);have d4:rr.lv<0:=Int.lt_of_not_ge fun h=>hcond ⟨c1,by omega,h⟩
      have d3:decide (rr.lv<0)=true:=(by simpa using d4);clear hcond c1;go_wp2_with (first|refine sL ?_|(refine sS ?_;clear H;intros;rename_i H)|(go_at_call 170;with_reducible refine same (M2.out _) ?_));exact bodyPost_ret (xR rfl H rfl pk rfl) rfl ⟨by rw [HX.out],H.nix⟩
  ·have hR2:=HRR.out;rw [if_neg (by omega),if_neg (by omega)] at hR2;clear HRR;by_cases c1:rl.lv<0
   ·rw [if_neg (by omega)] at hR2;have HX:=zh hR2.symm;clear hR2;have d1:decide (rl.lv<0)=true:=(by simp;omega);go_wp2_with (first|refine sL ?_|(refine sS ?_;clear H;intros;rename_i H)|(go_at_call 170;with_reducible refine same (M3.out _) ?_));exact bodyPost_ret (xR rfl H rfl pk rfl) rfl ⟨by rw [HX.out],H.nix⟩
   ·have d1:decide (rl.lv<0)=false:=(by simp;omega);have d3:rl.lv.tmod 2=rl.lv%2:=jz (by omega);by_cases c2:rl.lv%2=0
    ·rw [if_pos ⟨by omega,c2⟩] at hR2;have HX:=zh hR2.symm;clear hR2;have d2:(rl.lv%2==0)=true:=(by simpa using c2);go_wp2_with (first|refine sL ?_|(refine sS ?_;clear H;intros;rename_i H)|(go_at_call 170;with_reducible refine same (M3.out _) ?_));exact bodyPost_ret (xR rfl H rfl pk rfl) rfl ⟨by rw [HX.out],H.nix⟩
    ·rw [if_neg (by omega)] at hR2;have HX:=zh hR2.symm;clear hR2;have d2:(rl.lv%2==0)=false:=(by simpa using c2);go_wp2_with (first|refine sL ?_|(refine sS ?_;clear H;intros;rename_i H)|(go_at_call 170;with_reducible refine same (M3.out _) ?_));exact bodyPost_ret (xR rfl H rfl pk rfl) rfl ⟨by rw [HX.out],H.nix⟩
end
end Go.Proofs.YtgnppnokkdghcaaGreatDoor
