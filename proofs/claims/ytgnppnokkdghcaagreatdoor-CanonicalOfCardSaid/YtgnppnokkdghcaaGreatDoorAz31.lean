/-
  Part 31 of the texts behind CanonicalOf: walks and laws. Conditions: as each states.
-/
import Derived.Test.YtgnppnokkdghcaaGreatDoorAz29
import Derived.Test.YtgnppnokkdghcaaGreatDoorAz30
set_option linter.unusedSimpArgs false
set_option linter.unusedVariables false
set_option maxRecDepth 100000
set_option maxHeartbeats 80000000
open Array renaming ext_getElem?→yr,getElem?_eq_none→qw,getElem?_eq_some_iff→yV,size_setIfInBounds→yD
open Bool renaming and_eq_true→zu,eq_false_or_eq_true→zW,false_eq_true→xA
open Go.Proofs.Tryz renaming func165→j3,func71→Qd,ntmps165→wE,ntmps71→Zu,prog→zb,underlying76→xv
open Int renaming natCast_mul→Yl,tmod_eq_emod_of_nonneg→jz
open List renaming append_assoc→zQ,append_nil→qO,cons→Zq,cons_append→zo,drop_eq_getElem_cons→yj,drop_of_length_le→yo,drop_succ_cons→wQ,drop_zero→yw,eq_nil_of_length_eq_zero→qe,eq_of_mem_replicate→xy,filter_cons→kA,flatMap_append→zI,flatMap_cons→zt,flatMap_nil→wW,flatMap_replicate→jc,flatten_append→Xy,foldl_cons→zB,foldl_nil→zx,getElem?_append_left→qv,getElem?_append_right→yd,getElem?_cons_succ→yN,getElem?_cons_zero→Q9,getElem?_drop→yh,getElem?_eq_some_iff→xB,getElem?_map→yf,getElem?_replicate→x4,getElem?_set_ne→j5,getElem?_set_self→kb,getElem?_take→wh,getLast?_append→xu,length→ym,length_append→zi,length_cons→zw,length_map→qd,length_nil→zC,length_set→wo,map_cons→zX,map_nil→ye,map_replicate→Qa,map_toArray→xo,mem_append→zl,mem_cons→zL,mem_cons_of_mem→qT,mem_cons_self→zN,mem_flatten→vc,mem_iff_getElem?→Yi,mem_map→qY,mem_of_getElem?→zy,mem_of_getLast?→vq,mem_range→zJ,mem_replicate→wq,mem_singleton→Zx,nil_append→zv,pairwise_cons→qu,range→zk,replicate→zd,replicate_succ→zS,replicate_succ'→xG,reverse_cons→ke,sum_replicate_nat→Xz,take_length→jx,take_of_length_le→qp,take_zero→jA
open Nat renaming add_assoc→wA,add_comm→kf,add_mul→xl,add_sub_cancel→xC,eq_zero_or_pos→qk,exists_eq_succ_of_ne_zero→zA,le_mul_of_pos_left→wY,le_mul_of_pos_right→jg,le_refl→zr,le_trans→qs,log2→ju,log2_eq_iff→J8,lt_of_not_le→vD,lt_or_ge→yI,mod_eq_of_lt→xI,mod_lt→qM,mul_assoc→Zo,mul_comm→xO,mul_le_mul→ZB,mul_le_mul_right→y9,one_mul→QK,strongRecOn→yJ,sub_self→QL,succ_mul→XX,zero_add→qQ,zero_le→qy,zero_mul→QM
open Option renaming map_some→Qb,some→yk,toList→qb
namespace Go.Proofs.YtgnppnokkdghcaaGreatDoor
section
open Go.RowKit Go.Maps
attribute [local go_sem] qt
theorem splice_g1 {X:Px} {a b i j:Nat} {sa sb:List Tr} (hX:zK X) (ha:IdIs X.S a sa) (hb:IdIs X.S b sb) (hi:i<=sa.length) (hj:j<=sb.length) (hl:(sa.take i++sb.drop j).length<=1048576) (hroom:X.S.list.length+(sa.take i++sb.drop j).length<=X.S.most) (hc:i=0∧¬ j=0∧¬ sb.length-j=0) (w:World) (h:((pA X).sep deA).ho w) :
  Calls zb 123 #[.pointer (some ⟨X.p,0,none⟩),.int .i64 a,.int .i64 (i:Nat),.int .i64 b,.int .i64 (j:Nat)] w fun e w'=>∃ (X':Px) (id:Nat),e=.returned (.tuple #[.int .i64 id,.nilIface])∧X.Ext X'∧zK X'∧IdIs X'.S id (sa.take i++sb.drop j)∧X'.S.list.length<=X.S.list.length+(sa.take i++sb.drop j).length∧St w (pA X).fp [pA X'] w':=by
 exact KQ
end
end Go.Proofs.YtgnppnokkdghcaaGreatDoor
