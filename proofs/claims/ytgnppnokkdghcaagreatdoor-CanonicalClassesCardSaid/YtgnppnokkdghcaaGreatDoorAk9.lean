/-
  Part 9 of the texts behind the statements of this seat: walks and laws Dd, Fb, De, Df, Dg, Fc, Fd, Fe, Ff, Gm, Gp, Gq, He, Ha, Hb, Dm, Dh, Ds, Dt, Hc, Hd, Hj, Hk, Hl, Hn, Gr. Conditions: as each states.
-/
import Derived.Test.YtgnppnokkdghcaaGreatDoorAk8
import Derived.LaidEqlPtr
import Derived.Laws.Concat
import Derived.Laws.IdiomStrings
import Derived.Lib.BufferRead
set_option linter.unusedSimpArgs false
set_option linter.unusedVariables false
set_option maxRecDepth 100000
set_option maxHeartbeats 80000000
open Array renaming getElem?_eq_some_iff→yX
open Bool renaming eq_false_or_eq_true→zG,false_eq_true→xH
open Go.Proofs.Tryz renaming func71→Qi,ntmps71→Zw,prog→z9
open Int renaming natCast_mul→XT,tmod_eq_emod_of_nonneg→jz
open List renaming append_nil→qO,cons→Zt,cons_append→zl,drop_succ_cons→wL,drop_zero→yx,eq_nil_of_length_eq_zero→qg,filter_cons→ZA,flatMap_cons→zu,flatMap_nil→wR,flatten_append→Ym,getElem?_append_left→qr,getElem?_append_right→yg,getElem?_cons_succ→yO,getElem?_cons_zero→Qc,getElem?_drop→yl,getElem?_map→yj,getElem?_replicate→x7,getElem?_take→wd,getLast?_append→xw,length→yo,length_append→zf,length_cons→zw,length_map→qe,length_nil→zA,map_cons→q7,map_nil→yh,map_replicate→Qd,map_toArray→xp,mem_append→zk,mem_cons→zQ,mem_cons_of_mem→qL,mem_cons_self→zM,mem_flatten→J6,mem_map→qQ,mem_of_getElem?→zv,mem_range→zJ,mem_replicate→kJ,nil_append→zr,pairwise_cons→qv,range→zj,replicate→zc,replicate_succ→zR,replicate_succ'→xB,reverse_cons→vO,sum_replicate_nat→Xz,take_length→jx,take_zero→jB
open Nat renaming add_assoc→wT,add_sub_cancel→xC,eq_zero_or_pos→qt,exists_eq_succ_of_ne_zero→zB,le_mul_of_pos_left→wU,le_mul_of_pos_right→jg,le_refl→zt,le_trans→qu,log2→jw,log2_eq_iff→J7,lt_or_ge→qY,mod_eq_of_lt→wV,mul_assoc→Qq,mul_comm→xq,mul_le_mul→ZE,mul_le_mul_right→yc,not_lt_zero→jN,strongRecOn→x6,sub_self→QO,succ_mul→XX,zero_add→qT,zero_le→qk
open Option renaming map_some→Qf,some→yn
namespace Go.Proofs.YtgnppnokkdghcaaGreatDoor
section
open Go.RowKit Go.Maps
attribute [local go_sem] qw
section
variable {ops:Array Oper} {Q:Exit->Act->World->Prop} {rest:List Oper} {a:Act} {w w0:World} {M:List Nat} {L R:List As} {o1:Oper}
theorem AtSlice.zero {α:Type} (enc:α->List Value) {t e:TypeId} (H:St w0 M L w) (hw:Region.wanted o1 (yielded ops a.tmps)=true) (ho:o1.op=.buildSlice t 0 #[]) (hte:yt t=some e) {z:Value} {k bytes:Nat} (hi:xl e=some (z,k,bytes)) (hk:∀ x,(enc x).length=k)
  (h:∀ b w',St w0 M (zb enc e k (.slice (some ⟨b,0,none⟩) 0 0) []::L) w'->wpList z9 ops Q rest (a.put o1.dst (.slice (some ⟨b,0,none⟩) 0 0)) w'):AtSlice z9 ops Q o1 t 0 #[] rest a w :=
 wpList_step fun _ hK=>by
  rw [if_pos hw];unfold Oper.wp execOp;simp only [ho,xp,yh,Sem.run_bind,run_slice0 hte hi,Result.andThen_ok,Sem.run_pure];exact hK _ _ (h _ _ ((H.alloc (.cells #[] e)).conv (by rw [qN,xV];rfl) fun hb=>kI (xs:=[]) (by rw [xi] at hb;exact hb) (by simp [maxLen]) (by simp [zY]) hk))
end
section
variable {ops:Array Oper} {Q:Exit->Act->World->Prop} {rest:List Oper} {a:Act} {w:World} {o1:Oper}
theorem YM {t e ty:TypeId} (hte:yt t=some e) {z:Value} {k bytes:Nat} (hi:xl e=some (z,k,bytes)) {b c:Nat} {ad:Option Addr} {w:World}:(Builtin.append_ #[t,t] ty #[.slice (some ⟨b,0,none⟩) 0 0,.slice ad 0 c]).run z9 w=.ok (.slice (some ⟨b,0,none⟩) 0 0) w:=by
 obtain ⟨i,h2,h3,h4,h5⟩:=yW hi;have hu:=yf hte;cases ad with
 |none=>simp [Builtin.append_,run_underlying hu,sizeOf,typeInfo,h2,Builtin.lenOf,Builtin.firstCells,loadCells,loadCellsFrom,storeCells]
 |some x=>simp [Builtin.append_,run_underlying hu,sizeOf,typeInfo,h2,Builtin.lenOf,Builtin.firstCells,loadCells,loadCellsFrom,storeCells]
theorem AtAppend.none {t e:TypeId} {x y:Operand} (hw:Region.wanted o1 (yielded ops a.tmps)=true) (ho:o1.op=.call ⟨.builtin .append,#[x,y],#[t,t]⟩) (hte:yt t=some e) {z:Value} {k bytes:Nat} (hi:xl e=some (z,k,bytes)) {b c:Nat} {ad:Option Addr} (hx:yV a x=some (.slice (some ⟨b,0,Option.none⟩) 0 0)) (hy:yV a y=some (.slice ad 0 c))
  (h:wpList z9 ops Q rest (a.put o1.dst (.slice (some ⟨b,0,Option.none⟩) 0 0)) w):AtAppend z9 ops Q o1 t x y rest a w :=
 wpList_step fun _ hK=>by
  rw [if_pos hw];unfold Oper.wp execOp;simp only [ho,resolve,invoke,builtin,Sem.run_bind,Sem.run_pure,Result.andThen_ok,xp,q7,yh,yk hx,yk hy,YM hte hi];exact hK _ _ h
end
theorem nil_leaves (text:List Nat):xo (text.map Tr.leaf):=fun t ht=>by
 obtain ⟨b,_,rfl⟩:=qQ.1 ht;exact ⟨b,rfl⟩
theorem of_zero {X:Px} {ad:Option Addr} {c:Nat} (w:World) (h:(pA X).ho w):Calls z9 22 #[.pointer (some ⟨X.p,0,none⟩),.slice ad 0 c] w fun e w'=>e=.returned (.tuple #[.int .i64 0,.nilIface])∧w'=w:=by
 have HC0:=zh (Xk h);clear h;go_enter Tryz.func22,Tryz.ntmps22;go_wp2_with (first|refine sL ?_|(refine sS ?_;clear H;intros;rename_i H)|((with_reducible refine qi ?_);refine AtLoad.cel rfl rfl rfl rfl HC0.out ?_;simp only [Act.put,puA,puB,puC]));go_ret2;exact ⟨rfl,rfl⟩
theorem of_any {X:Px} {P:we} {text:List Nat} {v:Value} (hX:zL X) (hr:RowIn P qU 1 v text) (hb:∀ x∈text,x<256) (hlen:text.length<=65536) (hroom:X.S.list.length+2*text.length<X.S.most) (w:World) (hd:((pA X).sep deA).ho w) (hp:((pA X).sep (y9 P)).ho w) :
  Calls z9 22 #[.pointer (some ⟨X.p,0,none⟩),v] w fun e w'=>∃ (X':Px) (id:Nat),e=.returned (.tuple #[.int .i64 id,.nilIface])∧X.Ext X'∧zL X'∧IdIs X'.S id (text.map Tr.leaf)∧X'.S.list.length<=X.S.list.length+2*text.length∧St w (pA X).fp [pA X'] w':=by
 rcases qt text.length with h0|h0
 ·obtain rfl:=qg h0;obtain ⟨ad,c,rfl,_⟩:=hr;rw [qx] at hd;refine (of_zero w hd.1).mono ?_;rintro e w' ⟨rfl,rfl⟩;exact ⟨X,0,rfl,.refl _,hX,.inl ⟨rfl,rfl⟩,by omega,St.one hd.1⟩
 ·obtain ⟨T,t1,t2,t3⟩:=Zd (nil_leaves text) (fun e=>by simp at e;rw [e] at h0;simp at h0) (by simp;omega);refine (of_p hX hr hb h0 hlen t1 t2 t3 w hd hp).mono ?_;rintro e w' ⟨X',q1,q2,q3,q4,q5⟩;rcases q4 with ⟨id,rfl,q6⟩|⟨_,q6⟩
  ·exact ⟨X',id,rfl,q1,q2,.inr ⟨T,q6,t1,t2⟩,q3,q5⟩
  ·have h9:X'.S.most=X.S.most:=q1.le.1;omega
end
section
open Go.RowKit Go.Maps
attribute [local go_sem] qw
abbrev kU (X:Px) (s:List Tr) (k:Nat) (M:List Nat) (w:World) (e:Ending) (w':World):Prop :=
 ∃ (X':Px) (id:Nat),e=.returned (.tuple #[.int .i64 id,.nilIface])∧X.Ext X'∧zL X'∧IdIs X'.S id s∧X'.S.list.length<=X.S.list.length+k∧St w M [pA X'] w'
theorem join_c {X:Px} {a b:Nat} {sa sb:List Tr} (hX:zL X) (ha:IdIs X.S a sa) (hb:IdIs X.S b sb) (hl:sa.length+sb.length<=1048576) (hroom:X.S.list.length+(sa.length+sb.length)<=X.S.most) (w:World) (h:PH X w) :
  Calls z9 94 #[.pointer (some ⟨X.p,0,none⟩),.int .i64 a,.int .i64 b] w (kU X (sa++sb) (sa.length+sb.length) (pA X).fp w):=by
 have h:((pA X).sep deA).ho w:=h;rw [qx] at h;obtain ⟨k1,k2,hdd⟩:=h;have H:=St.one k1;have HK:Ks w (pA X).fp [deA]:=⟨by simpa using k2,by simpa using fun b hb hm=>hdd b hm hb⟩
 generalize (pA X).fp=N at *;clear k1 k2 hdd;have HSZ:Hid (∀ w,(pA X).ho w->Calls z9 92 #[.pointer (some ⟨X.p,0,none⟩),.int .i64 a] w fun e w'=>e=.returned (.int .i64 (sa.length:Nat))∧St w [] [] w'):=zh fun w h=>vh hX ha w h
 have HSP:Hid (∀ w,((pA X).sep deA).ho w->Calls z9 123 #[.pointer (some ⟨X.p,0,none⟩),.int .i64 a,.int .i64 (sa.length:Nat),.int .i64 b,.int .i64 0] w (kU X (sa++sb) (sa.length+sb.length) (pA X).fp w)):=zh fun w h=>by
  have:=splice_c (X:=X) (a:=a) (i:=sa.length) (sa:=sa) (b:=b) (j:=0) (sb:=sb) hX ha hb (zt _) (qk _) (by simp;omega) (by simp;omega) w h;simp only [jx,yx,zf] at this;exact this
 clear hX ha hb hl hroom;go_enter Tryz.func94,Tryz.ntmps94;go_wp2_with (first|refine sL ?_|(refine sS ?_;clear H;intros;rename_i H)|(go_at_call 92;with_reducible refine zm (HSZ.out _ (H.get pk)) ?_;rintro e9 wc ⟨rfl,hb⟩;replace H:=H.grew hb.below;clear hb)|(go_at_call 123;with_reducible refine zm (HSP.out _ (H.sepK HK pk pk)) ?_;rintro e9 wc ⟨X2,id2,rfl,y1,y2,y3,y4,hb⟩;have HY:=zh (za y1 (za y2 (za y3 y4)));clear y1 y2 y3 y4;replace H:=zn ((H.pick pk).call hb);clear hb));go_ret2;exact ⟨X2,id2,rfl,HY.out.1,HY.out.2.1,HY.out.2.2.1,HY.out.2.2.2,H.picks (.cons pk .nil)⟩
end
section
open Go.RowKit Go.Maps
attribute [local go_sem] qw
section
variable {ops:Array Oper} {Q:Exit->Act->World->Prop} {rest:List Oper} {a:Act} {w w0:World} {M:List Nat} {L:List As} {o1:Oper}
theorem AtSlice.lit {t e:TypeId} {n:Nat} {ps:Array (Nat×Operand)} (H:St w0 M L w) (hw:Region.wanted o1 (yielded ops a.tmps)=true) (ho:o1.op=.buildSlice t n ps) (hte:yt t=some e) {z:Value} {k bytes:Nat} {cs:Array Value} (hi:xl e=some (z,k,bytes)) (hk:k=1) (hz:z.cells.size=1) (hn:¬ n*1 > 2 ^ 24) (hn0:¬ n*1=0)
  (hf:Instr.fill (fun i=>some (i*1,1)) ((Array.range (n*1)).map (z.cells[·%z.cells.size]!)) (ps.map fun (i,x)=>(i,a.eval x)).toList=some cs)
  (h:∀ b w',St w0 M (blk b (.cells cs e)::L) w'->wpList z9 ops Q rest (a.put o1.dst (.slice (some ⟨b,0,none⟩) n n)) w'):AtSlice z9 ops Q o1 t n ps rest a w :=
 wpList_step fun _ hK=>by
  rw [if_pos hw];obtain ⟨i,h2,h3,h4,h5⟩:=yW hi;subst hk;have hr:=run_buildSlice (P:=z9) w t e n (ps.map fun (i,x)=>(i,a.eval x)) cs i z (yf hte) h2 h3 (by rw [h4];exact hn) (by rw [h4];exact hn0) (by rw [h4];exact hf);unfold Oper.wp execOp;simp only [ho,Sem.run_bind,hr,Result.andThen_ok,Sem.run_pure];exact hK _ _ (h _ _ (H.alloc _))
end
theorem St.freeze {g:Nat} {cs:Array Value} {e:TypeId} {w0 w:World} {M:List Nat} {L:List As} (h:St w0 M (blk g (.cells cs e)::L) w):St w0 M (blk g (.cells cs e (cs.size,cs.size+1))::L) (w.freeze ⟨g,cs.size,none⟩ 1):=by
 have hg:w.heap[g]?=some (.cells cs e):=h.at Pick.here;have hs:(w.freeze ⟨g,cs.size,none⟩ 1).heap.size=w.heap.size:=(by unfold World.freeze;simp);have hlt:g<w.heap.size:=(yX.1 hg).1;refine St.turn h (A':=blk g (.cells cs e (cs.size,cs.size+1))) (fun b hb=>?_) rfl rfl rfl hs ?_ (by rw [xV,xV])
 ·have hne:g≠b:=fun e'=>hb (by simp [blk,e'])
  unfold World.freeze;simp only [Nat.succ_ne_zero,if_false];rw [Array.getElem?_modify,if_neg hne]
 ·rw [xi];unfold World.freeze;simp only [Nat.succ_ne_zero,if_false];rw [Array.getElem?_modify,if_pos rfl,hg];rfl
theorem run_conv {t:TypeId} (hte:yt t=some 5) {g n c:Nat} {cs:Array Value} {e:TypeId} {w:World} (hg:w.heap[g]?=some (.cells cs e)):(convert t t (.slice (some ⟨g,0,none⟩) n c)).run z9 w=.ok (.slice (some ⟨g,0,none⟩) n c) (w.freeze ⟨g,cs.size,none⟩ 1):=by
 have hu:=run_underlying (P:=z9) (yf hte);have hu5:z9.underlying 5=some (.int .u8):=(by kernel_rfl);have hu6:=run_underlying (P:=z9) hu5;simp [convert,hu,hu6,markStringish,shape,freeze,Sem.run,World.shape?,hg]
def AtConv (P:Program) (ops:Array Oper) (Q:Exit->Act->World->Prop) (o:Oper) (_:TypeId) (_:Operand) (rest:List Oper) (a:Act) (w:World):Prop:=wpList P ops Q (o::rest) a w
section
variable {ops:Array Oper} {Q:Exit->Act->World->Prop} {rest:List Oper} {a:Act} {w w0:World} {M:List Nat} {L R:List As} {o1:Oper} {dst:Option Tmp} {ty0:TypeId} {pos:String} {aft:Array Edge} {gd:Option (Nat×Bool)}
theorem AtConv.bytes {t e:TypeId} {x:Operand} (H:St w0 M L w) (hw:Region.wanted o1 (yielded ops a.tmps)=true) (ho:o1.op=.convert t t x) (hte:yt t=some 5) {g n c:Nat} (hx:a.eval x=.slice (some ⟨g,0,none⟩) n c) {cs:Array Value} (hp:Pick L (blk g (.cells cs e)) R)
  (h:∀ w',St w0 M (blk g (.cells cs e (cs.size,cs.size+1))::R) w'->wpList z9 ops Q rest (a.put o1.dst (.slice (some ⟨g,0,none⟩) n c)) w'):AtConv z9 ops Q o1 t x rest a w :=
 wpList_step fun _ hK=>by
  rw [if_pos hw];have H':=H.pick hp;have hg:w.heap[g]?=some (.cells cs e):=H'.at Pick.here;unfold Oper.wp execOp;simp only [ho,hx,Sem.run_bind,run_conv hte hg,Result.andThen_ok,Sem.run_pure];exact hK _ _ (h _ H'.freeze)
end
end
section
open Go.RowKit Go.Maps
attribute [local go_sem] qw
end
section
open Go.RowKit Go.Maps
attribute [local go_sem] qw
section
variable {ops:Array Oper} {Q:Exit->Act->World->Prop} {rest:List Oper} {a:Act} {w w0:World} {M:List Nat} {L R:List As} {o1:Oper} {dst:Option Tmp} {ty0:TypeId} {pos:String} {aft:Array Edge} {gd:Option (Nat×Bool)} {Rr:Value->World->Prop}
def cutA (ad:Option Addr) (c l:Nat):Option Addr:=if c=l then ad else ad.map (·.add l)
theorem run_sl {t e:TypeId} (hte:yt t=some e) {z:Value} {bytes:Nat} (hi:xl e=some (z,1,bytes)) {ad:Option Addr} {n c:Nat} (lo hi':Option Nat) {l h:Nat} (hl:lo.getD 0=l) (hh:hi'.getD n=h) (h1:l<=h) (h2:h<=c) (w:World) :
  (Instr.sliceAt t (.slice ad n c) (lo.map fun x=>.int .i64 (x:Nat)) (hi'.map fun x=>.int .i64 (x:Nat)) none).run z9 w=.ok (.slice (cutA ad c l) (h-l) (c-l)) w:=by
 obtain ⟨i,e2,e3,e4,e5⟩:=yW hi;have hu:=yf hte;have hb:(Instr.sliceBound (Value.int .i64 (h:Nat)) c .sliceAcap).run z9 w=.ok h w:=by
  unfold Instr.sliceBound;simp [asIntOf,h2]
 have hb2:(Instr.sliceBound (Value.int .i64 (l:Nat)) h .sliceB).run z9 w=.ok l w:=by
  unfold Instr.sliceBound;simp [asIntOf,h1]
 unfold cutA;cases lo with
 |none =>
  simp at hl;subst hl;cases hi' with
  |none =>
   simp at hh;subst hh;simp [Instr.sliceAt,Instr.slice,Instr.sliceBounds,run_underlying hu,sizeOf,typeInfo,e2,e4,Sem.run_bind,Result.andThen]
  |some x =>
   simp at hh;subst hh;simp [Instr.sliceAt,Instr.slice,Instr.sliceBounds,run_underlying hu,sizeOf,typeInfo,e2,e4,Sem.run_bind,Result.andThen,hb]
 |some y =>
  simp at hl;subst hl;cases hi' with
  |none =>
   simp at hh;subst hh;simp [Instr.sliceAt,Instr.slice,Instr.sliceBounds,run_underlying hu,sizeOf,typeInfo,e2,e4,Sem.run_bind,Result.andThen,hb2]
  |some x =>
   simp at hh;subst hh;simp [Instr.sliceAt,Instr.slice,Instr.sliceBounds,run_underlying hu,sizeOf,typeInfo,e2,e4,Sem.run_bind,Result.andThen,hb,hb2]
def AtSeg (P:Program) (ops:Array Oper) (Q:Exit->Act->World->Prop) (o:Oper) (_:TypeId) (_:Operand) (_ _:Option Operand) (rest:List Oper) (a:Act) (w:World):Prop:=wpList P ops Q (o::rest) a w
theorem AtSeg.row {t e:TypeId} {x:Operand} {y1 y2:Option Operand} (lo hi':Option Nat) (hw:Region.wanted o1 (yielded ops a.tmps)=true) (ho:o1.op=.slice t x y1 y2 none) (hte:yt t=some e) {z:Value} {bytes:Nat} (hi:xl e=some (z,1,bytes)) {ad:Option Addr} {n c:Nat} (hx:a.eval x=.slice ad n c) (hy1:y1.map a.eval=lo.map fun x=>.int .i64 (x:Nat)) (hy2:y2.map a.eval=hi'.map fun x=>.int .i64 (x:Nat))
  {l h m cr:Nat} (hl:lo.getD 0=l) (hh:hi'.getD n=h) (h1:l<=h) (h2:h<=c) (hm:h-l=m) (hcr:c-l=cr) {ad':Option Addr} (had:cutA ad c l=ad')
  (h9:wpList z9 ops Q rest (a.put o1.dst (.slice ad' m cr)) w):AtSeg z9 ops Q o1 t x y1 y2 rest a w :=
 wpList_step fun _ hK=>by
  rw [if_pos hw];unfold Oper.wp execOp;simp only [ho,hx,hy1,hy2,Option.map_none,Sem.run_bind,run_sl hte hi lo hi' hl hh h1 h2,Result.andThen_ok,Sem.run_pure,had,hm,hcr];exact hK _ _ h9
end
theorem flatT_get (xs:List Nat) (i:Nat):(zY qU xs)[i]?=xs[i]?.map fun x=>(.int .u8 (x:Nat):Value):=by
 have:zY qU xs=xs.map fun x=>(.int .u8 (x:Nat):Value):=by
  unfold zY;induction xs with
  |nil=>rfl
  |cons x xs ih=>rw [zu,ih];rfl
 rw [this,yj]
def TxtIn (P:we) (v:Value) (xs:List Nat):Prop:=∃ ad c,v=.slice ad xs.length c∧xs.length<=c∧RowIn P qU 1 v xs
theorem TxtIn.row {P:we} {v:Value} {xs:List Nat} (h:TxtIn P v xs):RowIn P qU 1 v xs:=by obtain ⟨_,_,_,_,h⟩:=h;exact h
theorem TxtIn.cut {P:we} {ad:Option Addr} {n c:Nat} {xs:List Nat} (h:TxtIn P (.slice ad n c) xs) (l m:Nat) (h2:l+m<=xs.length) :
  n=xs.length∧n<=c∧∃ (ad':Option Addr) (P':we),cutA ad c l=ad'∧(∀ x∈P,x∈P')∧(∀ w,(y9 P).ho w->(y9 P').ho w)∧TxtIn P' (.slice ad' m (c-l)) ((xs.drop l).take m):=by
 obtain ⟨ad0,c0,e1,hc,ad1,c1,e2,hmx,hr⟩:=h;injection e1 with q1 q2 q3
 subst q1 q2 q3;injection e2 with q1 q2 q3
 subst q1 q3;have hlen:((xs.drop l).take m).length=m:=(by simp;omega);refine ⟨rfl,hc,?_⟩;rcases qt m with rfl|hm
 ·exact ⟨_,P,rfl,fun x h=>h,fun w h=>h,⟨_,_,by rw [hlen],by omega,_,_,by rw [hlen],by omega,fun h=>by omega⟩⟩
 ·obtain ⟨g,o,rfl,hp⟩:=hr (by omega);have hcl:¬ c=l:=(by omega);have had:cutA (some ⟨g,o,none⟩) c l=some ⟨g,o+l,none⟩:=by
   unfold cutA Addr.add;rw [if_neg hcl];by_cases h0:l=0
   ·subst h0;simp
   ·simp [h0]
  refine ⟨_,(g,o+l,zY qU ((xs.drop l).take m))::P,had,fun x h=>qL _ h,fun w h=>?_,⟨_,_,by rw [hlen],by omega,_,_,by rw [hlen],by omega,fun _=>⟨g,o+l,rfl,zM⟩⟩⟩;rw [ve] at h ⊢;intro x hx;rcases zQ.1 hx with rfl|hx
  ·refine ⟨(h _ hp).1,fun j u hj=>?_⟩;have:=(h _ hp).2 (l+j) u (by
    rw [flatT_get] at hj ⊢;rw [wd] at hj;split at hj
    ·rwa [yl] at hj
    ·simp at hj)
   simpa [wT] using this
  ·exact h x hx
theorem TxtIn.mono {P Q:we} {v:Value} {xs:List Nat} (h:TxtIn P v xs) (hs:∀ x∈P,x∈Q):TxtIn Q v xs:=by
 obtain ⟨ad,c,h1,h2,h3⟩:=h;exact ⟨ad,c,h1,h2,h3.mono hs⟩
end
section
open Go.RowKit Go.Maps
attribute [local go_sem] qw
structure Pz where
 c:Bool
 f:Int
 n:Int
 t:List Nat
structure Pi where
 c:Bool
 f:Int
 n:Int
 id:Nat
structure PiOk (S:Sto) (p:Pi) (q:Pz):Prop where
 c:p.c=q.c
 f:p.f=q.f
 n:p.n=q.n
 id:IdIs S p.id (q.t.map Tr.leaf)
theorem PiOk.le {S S':Sto} {p:Pi} {q:Pz} (h:PiOk S p q) (hS:S.Ok) (hl:S.Le S'):PiOk S' p q:=⟨h.c,h.f,h.n,h.id.le hS hl⟩
def PiL (S:Sto):List Pi->List Pz->Prop
 |[],[]=>True
 |a::l,t::u=>PiOk S a t∧PiL S l u
 |_,_=>False
theorem PiL.len {S:Sto}:∀ {l:List Pi} {u:List Pz},PiL S l u->l.length=u.length
 |[],[],_=>rfl
 |a::l,t::u,h=>by simp [PiL.len h.2]
 |[],_::_,h=>h.elim
 |_::_,[],h=>h.elim
theorem PiL.get {S:Sto}:∀ {l:List Pi} {u:List Pz} {i:Nat} {a:Pi},PiL S l u->l[i]?=some a->∃ t,u[i]?=some t∧PiOk S a t
 |[],[],i,a,_,h=>by simp at h
 |b::l,t::u,0,a,h,e=>by
  simp only [Qc,yn.injEq] at e;subst e;exact ⟨t,rfl,h.1⟩
 |b::l,t::u,i+1,a,h,e=>by
  simp only [yO] at e ⊢;exact PiL.get h.2 e
 |[],_::_,_,_,h,_=>h.elim
 |_::_,[],_,_,h,_=>h.elim
theorem PiL.le {S S':Sto} (hS:S.Ok) (hl:S.Le S'):∀ {l:List Pi} {u:List Pz},PiL S l u->PiL S' l u
 |[],[],_=>trivial
 |a::l,t::u,h=>⟨h.1.le hS hl,PiL.le hS hl h.2⟩
 |[],_::_,h=>h.elim
 |_::_,[],h=>h.elim
theorem PiL.append {S:Sto}:∀ {l l':List Pi} {u u':List Pz},PiL S l u->PiL S l' u'->PiL S (l++l') (u++u')
 |[],_,[],_,_,h=>h
 |a::l,_,t::u,_,h,k=>⟨h.1,PiL.append h.2 k⟩
 |[],_,_::_,_,h,_=>h.elim
 |_::_,_,[],_,h,_=>h.elim
theorem Ko {S:Sto} {id:Nat} {s:List Tr} (h:IdIs S id s):id<=S.list.length:=by
 rcases h with ⟨_,rfl⟩|⟨T,h1,_⟩
 ·omega
 ·exact h1.2.1
end
section
open Go.RowKit Go.Maps
attribute [local go_sem] qw
end
section
open Go.RowKit Go.Maps
attribute [local go_sem] qw
end
section
open Go.RowKit Go.Maps
attribute [local go_sem] qw
def xT (l:List Nat):ByteArray:=⟨(l.map UInt8.ofNat).toArray⟩
theorem VR (a b:List Nat):xT a++xT b=xT (a++b):=by
 apply ByteArray.ext;simp [xT,ByteArray.data_append]
theorem yM (l:List Nat):(xT l).size=l.length:=by simp [xT,ByteArray.size]
theorem strB_nil:xT []=⟨#[]⟩:=rfl
theorem JU {l:List Nat} (hl:∀ x∈l,x<256):(xT l).data.toList.map UInt8.toNat=l:=by
 simp only [xT];induction l with
 |nil=>rfl
 |cons x l ih =>
  have hx:=hl x (zM ..);have:=ih fun y hy=>hl y (qL _ hy)
  simp only [q7,List.toList_toArray] at this ⊢;rw [this];congr 1
  simp [UInt8.toNat_ofNat',wV hx]
theorem strB_inj {a b:List Nat} (ha:∀ x∈a,x<256) (hb:∀ x∈b,x<256) (h:xT a=xT b):a=b:=by
 rw [← JU ha,← JU hb,h]
theorem strB_cells {l:List Nat} (hl:∀ x∈l,x<256) (cap:Nat):∀ (j:Nat) (u:Value),(zY qU l)[j]?=some u->(bytesRow (xT l) cap)[j]?=some u:=by
 intro j u hj;have hf:zY qU l=l.map fun x=>(.int .u8 (x:Nat):Value):=by
  unfold zY qU;clear hj hl;induction l with
  |nil=>rfl
  |cons x l ih=>rw [zu,q7,ih];rfl
 rw [hf,yj] at hj;cases hx:l[j]? with
 |none=>rw [hx] at hj;simp at hj
 |some x =>
  rw [hx] at hj;simp at hj;subst hj;have hjl:=yF hx;have hx2:x<256:=hl x (zv hx);unfold bytesRow;rw [Array.getElem?_append_left (by simp [xT];exact hjl)];simp only [xT,Array.getElem?_map,List.getElem?_toArray,yj,hx,Qf];simp [UInt8.toNat_ofNat',wV hx2]
section
variable {ops:Array Oper} {Q:Exit->Act->World->Prop} {rest:List Oper} {a:Act} {w w0:World} {M:List Nat} {L R:List As} {o1:Oper} {dst:Option Tmp} {ty0:TypeId} {pos:String} {aft:Array Edge} {gd:Option (Nat×Bool)}
def AtBytes (P:Program) (ops:Array Oper) (Q:Exit->Act->World->Prop) (o:Oper) (_ _:TypeId) (_:Operand) (rest:List Oper) (a:Act) (w:World):Prop:=wpList P ops Q (o::rest) a w
theorem St.ofBytes {w0 w:World} {M:List Nat} {L:List As} {l:List Nat} {cap:Nat} {fr:Nat×Nat} (H:St w0 M L w) (hl:∀ x∈l,x<256):St w0 M (y9 [(w.heap.size,0,zY qU l)]::L) (w.drew.alloc (.cells (bytesRow (xT l) cap) 5 fr)):=by
 have h1:St w0 M L w.drew:=⟨H.os,H.tape,H.output,H.size,H.keep,fun A hA=>A.loc w _ (fun _ _=>rfl) (H.ho A hA),H.own,H.dis⟩
 have h2:=h1.alloc (.cells (bytesRow (xT l) cap) 5 fr);refine h2.conv (by rw [WA,xV];rfl) fun hb=>?_
 rw [xi] at hb;rw [ve];intro x hx;simp only [zQ,List.not_mem_nil,or_false] at hx;subst hx;refine ⟨lt_of_block hb,fun j u hj=>?_⟩;show (w.drew.alloc (.cells (bytesRow (xT l) cap) 5 fr)).cell? ⟨w.drew.heap.size,0+j,none⟩=some u
 rw [cell_of_row _ _ (0+j) _ _ fr hb,qT];exact strB_cells hl cap j u hj
theorem AtBytes.go {x:Operand} (H:St w0 M L w) (hw:Region.wanted o1 (yielded ops a.tmps)=true) (ho:o1.op=.convert 9 42 x) (l:List Nat) (hx:yV a x=some (.string (xT l))) (hl:∀ x∈l,x<256) {n:Nat} (hn:l.length=n) (hm:n<=maxLen)
  (h:∀ g c w',RowIn [(g,0,zY qU l)] qU 1 (.slice (some ⟨g,0,none⟩) n c) l->St w0 M (y9 [(g,0,zY qU l)]::L) w'->wpList z9 ops Q rest (a.put o1.dst (.slice (some ⟨g,0,none⟩) n c)) w'):AtBytes z9 ops Q o1 9 42 x rest a w :=
 wpList_step fun _ hK=>by
  rw [if_pos hw];subst hn;have hr:=run_bytes_of_string (P:=z9) w 9 42 5 (xT l) (by kernel_rfl) (by kernel_rfl) (by kernel_rfl);rw [yM] at hr;unfold Oper.wp execOp;simp only [ho,yk hx,Sem.run_bind,hr,Result.andThen_ok,Sem.run_pure];exact hK _ _ (h _ _ _ ⟨_,_,rfl,hm,fun _=>⟨w.heap.size,0,rfl,by simp⟩⟩ (H.ofBytes hl))
end
attribute [irreducible] xT
attribute [local go_sem] yM
end
section
open Go.RowKit Go.Maps
attribute [local go_sem] qw yM
theorem bytes_conv {v:Value} {l:List Nat} (hl:∀ x∈l,x<256) {w:World} (h:(zb qU 5 1 v l).ho w):(convert 42 9 v).run z9 w=.ok (.string (xT l)) w:=by
 have k1:z9.underlying 42=some (.slice 5):=(by kernel_rfl);have k2:z9.underlying 5=some (.int .u8):=(by kernel_rfl);have k3:z9.underlying 9=some .string:=(by kernel_rfl);rcases qt l.length with h0|h0
 ·have:l=[]:=qg h0;subst this;obtain ⟨ad,c,rfl,_⟩:=zE h;rw [strB_nil];cases ad with
  |none=>exact Lib.run_convert_nil_bytes w _ _ _ c k1 k2 k3
  |some a =>
   have:=run_convert_bytes_back (P:=z9) w 42 9 5 a c [] k1 k2 k3 (fun j hj=>absurd hj (by simp));simpa using this
 ·obtain ⟨g,c,rfl,_,_⟩:=zZ h h0;have:=run_convert_bytes_back (P:=z9) w 42 9 5 ⟨g,0,none⟩ c (l.map UInt8.ofNat) k1 k2 k3 (fun j hj=>by
   have hj':j<l.length:=(by simpa using hj);have hx:=zg hj';have hc:=zU h kw hx (j:=0) rfl;have hb:l[j]<256:=hl _ (List.getElem_mem hj');rw [Addr.add_mid,qT];simp only [Nat.mul_one,Nat.add_zero] at hc;rw [hc];simp [UInt8.toNat_ofNat',wV hb])
  rw [qe] at this;rw [this];unfold xT;rfl
section
variable {a:Act} {ops:Array Oper} {K:Act->Prop} {rest:List Oper} {dst:Option Tmp} {ty0:TypeId} {pos:String} {aft:Array Edge} {gd:Option (Nat×Bool)} {w1:World}
def QtConv (P:Program) (ops:Array Oper) (C:World->Prop) (K:Act->Prop) (o:Oper) (_ _:TypeId) (_:Operand) (rest:List Oper) (a:Act):Prop:=wpQuiet P ops C K (o::rest) a
theorem QtConv.go {o1:Oper} {t u:TypeId} {x:Operand} (hw:Region.wanted o1 (yielded ops a.tmps)=true) (ho:o1.op=.convert t u x) {v z:Value} (hx:a.eval x=v) (hc:∀ y:Gr w1,(convert t u v).run z9 y.1=.ok z y.1)
  (h:wpQuiet z9 ops (qw w1) K rest (a.put o1.dst z)):QtConv z9 ops (qw w1) K o1 t u x rest a :=
 wpQuiet_step fun _ hK=>by
  rw [if_pos hw];refine ⟨z,fun w2 ⟨y,hy⟩=>?_,hK _ h⟩;subst hy;unfold Oper.quietAt execOp;simp only [ho,hx,Sem.run_bind,hc y,Result.andThen_ok];exact ⟨rfl,rfl⟩
end
end
section
open Go.RowKit Go.Maps
attribute [local go_sem] qw yM
def zP (q:Nat×Nat):Value×Value:=(.int .i64 q.1,.int .i64 q.2)
def KnOk (S:Sto) (K:List (Nat×Nat)):Prop:=∀ q∈K,1<=q.1∧q.1<=S.list.length∧IdIs S q.2 ((S.tr q.1).txt.map Tr.leaf)
theorem KnOk.le {S S':Sto} {K:List (Nat×Nat)} (h:KnOk S K) (hS:S.Ok) (hl:S.Le S'):KnOk S' K:=fun q hq=>by
 obtain ⟨h1,h2,h3⟩:=h q hq;refine ⟨h1,qu h2 hl.len,?_⟩;rw [hl.tr hS h1 h2];exact h3.le hS hl
theorem Kp (x:Nat) (hx:x<=1152921504606846976):∃ l,keyOf z9 26 (.int .i64 (x:Nat))=some l:=by
 have h2:z9.underlying 26=some (.int .i64):=un_26;have hw:=WY x (by omega);unfold keyOf mapKey;simp [h2,hw]
theorem XH {mp x:Nat} {K:List (Nat×Nat)} {w:World} (ok:Bool) (hx:x<=1152921504606846976) (h:(zK z9 26 mp (K.map zP)).ho w) :
  (∃ y,(x,y)∈K∧(Instr.lookup 136 (.map (some mp)) (.int .i64 (x:Nat)) ok).run z9 w=.ok (if ok then .tuple #[.int .i64 (y:Nat),.bool true] else .int .i64 (y:Nat)) w)∨((∀ q∈K,q.1≠x)∧(Instr.lookup 136 (.map (some mp)) (.int .i64 (x:Nat)) ok).run z9 w=.ok (if ok then .tuple #[.int .i64 0,.bool false] else .int .i64 0) w):=by
 obtain ⟨l,hl⟩:=Kp x hx;obtain ⟨v,b,hv,hr⟩:=kh Y1 h mt_136 hl (J2 (t:=26) rfl) ok;have hmem:∀ {u:Value},(.int .i64 (x:Nat),u)∈K.map zP->∃ y,(x,y)∈K∧u=.int .i64 (y:Nat):=fun {u} hu=>by
  obtain ⟨⟨a,c⟩,hq,he⟩:=qQ.1 hu;simp only [zP,Prod.mk.injEq,Value.int.injEq,true_and] at he;obtain ⟨e1,e2⟩:=he;have e3:a=x:=(by omega);subst e3;exact ⟨c,hq,e2.symm⟩
 have hk:∀ {y},(x,y)∈K->zP (x,y)∈K.map zP:=fun h=>qQ.2 ⟨_,h,rfl⟩
 rcases hv with ⟨rfl,h1⟩|⟨rfl,rfl,h1⟩
 ·obtain ⟨y,hy,rfl⟩:=hmem h1;exact .inl ⟨y,hy,hr⟩
 ·refine .inr ⟨fun q hq e=>?_,hr⟩;obtain ⟨a,c⟩:=q;simp only at e;subst e;exact h1 _ (hk hq) rfl
theorem cnew_c {X:Px} (w:World):Calls z9 36 #[.pointer (some ⟨X.p,0,none⟩)] w fun e w'=>∃ bm mp:Nat,e=.returned (.pointer (some ⟨bm,0,none⟩))∧St w [] [blk bm (.cells #[.pointer (some ⟨X.p,0,none⟩),.map (some mp)] 138),zK z9 26 mp (([]:List (Nat×Nat)).map zP)] w':=by
 have H:=St.nil w [];go_enter Tryz.func36,Tryz.ntmps36;go_wp2_with (first|refine sL ?_|(refine sS ?_;clear H;intros;rename_i H)|((with_reducible refine YC ?_);refine AtMakeMap.go 26 H rfl rfl ?_;clear H;intro mp _ H;simp only [Act.put,puA,puB,puC]));go_ret;exact ⟨_,mp,rfl,by simpa using H.picks (.cons pk (.cons pk .nil))⟩
theorem WG {X:Px} {bm mp x y:Nat} {K:List (Nat×Nat)} (hx:x<=1152921504606846976) (hn:∀ q∈K,q.1≠x) (w:World) (h:((blk bm (.cells #[.pointer (some ⟨X.p,0,none⟩),.map (some mp)] 138)).sep (zK z9 26 mp (K.map zP))).ho w):Calls z9 103 #[.pointer (some ⟨bm,0,none⟩),.int .i64 (x:Nat),.int .i64 (y:Nat),.nilIface] w fun e w'=>e=.returned .nilIface∧St w ((blk bm (.cells #[.pointer (some ⟨X.p,0,none⟩),.map (some mp)] 138)).sep (zK z9 26 mp (K.map zP))).fp [blk bm (.cells #[.pointer (some ⟨X.p,0,none⟩),.map (some mp)] 138),zK z9 26 mp ((K++[(x,y)]).map zP)] w':=by
 have H:=(St.one h).sep;generalize ((blk bm (.cells #[.pointer (some ⟨X.p,0,none⟩),.map (some mp)] 138)).sep (zK z9 26 mp (K.map zP))).fp=N at H ⊢;obtain ⟨l,hl⟩:=Kp x hx;have HN:Hid (∀ e∈K.map zP,e.1≠.int .i64 (x:Nat)):=zh fun e he e1=>by
  obtain ⟨q,hq,rfl⟩:=qQ.1 he;simp only [zP,Value.int.injEq,true_and] at e1;exact hn q hq (by omega)
 have HL:=zh hl;clear h hn hx hl;go_enter Tryz.func103,Tryz.ntmps103;go_wp2_with (first|refine sL ?_|(refine sS ?_;clear H;intros;rename_i H)|((with_reducible refine Wh ?_);refine AtUpdate.new Y1 mt_136 H rfl rfl rfl pk (k:=.int .i64 (x:Nat)) (v:=.int .i64 (y:Nat)) rfl rfl HL.out HN.out ?_;clear H;intro _ H;simp only [Act.put,puA,puB,puC]));go_ret;refine ⟨rfl,?_⟩;have:=H.picks (.cons (A:=blk bm (.cells #[.pointer (some ⟨X.p,0,none⟩),.map (some mp)] 138)) pk (.cons pk .nil));simpa [zP] using this
theorem tr_lt {S:Sto} (hS:S.Ok):∀ (i:Nat),i<S.list.length->∀ b∈(S.tr (i+1)).txt,b<256:=by
 intro i;induction i using x6 with
 |_ i ih =>
  intro hi b hb;cases xv hS (zg hi) with
  |letter c hc hr hw ht =>
   rw [ht] at hb;simp [Tr.txt] at hb;omega
  |pair l r y z hl hr hy hz he hw hs ht =>
   rw [ht] at hb;simp only [Tr.txt,zk] at hb;rcases hb with hb|hb
   ·exact ih l hl (by omega) b hb
   ·exact ih r hr (by omega) b hb
  |pow l k y hl hy hk he hw hs ht =>
   rw [ht] at hb;simp only [Tr.txt] at hb;obtain ⟨t,ht2,hb⟩:=J6.1 hb;rw [(kJ.1 ht2).2] at hb;exact ih l hl (by omega) b hb
theorem learn_c {X:Px} {bm mp x:Nat} {K:List (Nat×Nat)} (hX:zL X) (h1:1<=x) (h2:x<=X.S.list.length) (hn:∀ q∈K,q.1≠x) {L9:Nat} (hL9:L9<=256) (ht:(X.S.tr x).len<=L9) (hroom:X.S.list.length+2*L9<X.S.most) (hmost:X.S.most<=1048576) (w:World) (h:((pA X).sep ((blk bm (.cells #[.pointer (some ⟨X.p,0,none⟩),.map (some mp)] 138)).sep (zK z9 26 mp (K.map zP)))).ho w) (hd:(((pA X).sep ((blk bm (.cells #[.pointer (some ⟨X.p,0,none⟩),.map (some mp)] 138)).sep (zK z9 26 mp (K.map zP)))).sep deA).ho w) :
  Calls z9 71 #[.pointer (some ⟨bm,0,none⟩),.int .i64 (x:Nat)] w fun e w'=>∃ (X':Px) (y:Nat),e=.returned (.tuple #[.int .i64 0,.nilIface])∧X.Ext X'∧zL X'∧IdIs X'.S y ((X.S.tr x).txt.map Tr.leaf)∧X'.S.list.length<=X.S.list.length+2*L9∧St w ((pA X).sep ((blk bm (.cells #[.pointer (some ⟨X.p,0,none⟩),.map (some mp)] 138)).sep (zK z9 26 mp (K.map zP)))).fp [pA X',blk bm (.cells #[.pointer (some ⟨X.p,0,none⟩),.map (some mp)] 138),zK z9 26 mp ((K++[(x,y)]).map zP)] w':=by
 have H:=((St.one h).sep.pick (A:=((blk bm (.cells #[.pointer (some ⟨X.p,0,none⟩),.map (some mp)] 138)).sep (zK z9 26 mp (K.map zP)))) pk).sep;rw [qx] at hd;have HK:Ks w ((pA X).sep ((blk bm (.cells #[.pointer (some ⟨X.p,0,none⟩),.map (some mp)] 138)).sep (zK z9 26 mp (K.map zP)))).fp [deA]:=⟨by simpa using hd.2.1,by simpa using fun b hb hm=>hd.2.2 b hm hb⟩
 generalize ((pA X).sep ((blk bm (.cells #[.pointer (some ⟨X.p,0,none⟩),.map (some mp)] 138)).sep (zK z9 26 mp (K.map zP)))).fp=N at H HK ⊢;obtain ⟨t,htt⟩:∃ t,(X.S.tr x).txt=t:=⟨_,rfl⟩
 obtain ⟨n,hnn⟩:∃ n,t.length=n:=⟨_,rfl⟩
 have hln:(X.S.tr x).len=n:=(by rw [← Tr.txt_len,htt,hnn]);obtain ⟨j,hj⟩:∃ j,x=j+1:=⟨x-1,by omega⟩
 obtain ⟨en,hen⟩:∃ a,X.S.list[j]?=some a:=⟨_,zg (by omega)⟩
 have hlw:en.w.len=n:=(by rw [← hln,hj];exact (ji hX.ok j en hen).1.symm);have hlt:∀ b∈t,b<256:=(by rw [← htt,hj];exact tr_lt hX.ok j (by omega));have HS:Hid (∀ w,(pA X).ho w->Calls z9 53 #[.pointer (some ⟨X.p,0,none⟩)] w fun e w'=>e=.returned (.pointer (some ⟨X.s,0,none⟩))∧w'=w):=zh fun w h=>jJ w h
 have hW:Hid (∀ w,(pA X).ho w->Calls z9 40 #[.pointer (some ⟨X.s,0,none⟩),.int .i64 (x:Nat)] w fun e w'=>e=.returned (.tuple #[.agg #[.int .i64 (n:Nat),.int .i64 en.w.lines,.int .i64 en.w.head,.int .i64 en.w.tail,.int .u64 en.w.val,.int .u64 en.w.scale],.nilIface])∧St w [] [] w'):=zh fun w h=>by
  have:=Z6 (i:=x) (x:=en) (by rw [hj];exact hen) w (ke h);rw [← hlw];exact this
 have HE:Hid (∀ w,(pA X).ho w->Calls z9 78 #[.pointer (some ⟨X.s,0,none⟩),.int .i64 (x:Nat),.int .i64 0,.int .i64 (n:Nat)] w fun e w'=>∃ v':Value,e=.returned (.tuple #[v',.nilIface])∧St w [] [zb qU 5 1 v' t] w'):=zh fun w h=>extract_c hX.ok (.inr ⟨h1,h2,hln.symm,htt.symm⟩) (by omega) w (ke h)
 have HO:Hid (∀ (v:Value) w,((pA X).sep deA).ho w->((pA X).sep (zb qU 5 1 v t)).ho w->Calls z9 22 #[.pointer (some ⟨X.p,0,none⟩),v] w fun e w'=>∃ (X':Px) (id:Nat),e=.returned (.tuple #[.int .i64 id,.nilIface])∧X.Ext X'∧zL X'∧IdIs X'.S id (t.map Tr.leaf)∧X'.S.list.length<=X.S.list.length+2*t.length∧St w (pA X).fp [pA X'] w'):=zh fun v w h hr=>by
  rw [qx] at hr;obtain ⟨P,r1,r2,r3⟩:=rowsA_pool hr.2.1 kw;exact of_any hX r1 hlt (by omega) (by omega) w h (by rw [qx];exact ⟨hr.1,r2,fun b hb hc=>hr.2.2 b hb (r3 b hc)⟩)
 have HR:Hid (∀ (y:Nat) w,(((blk bm (.cells #[.pointer (some ⟨X.p,0,none⟩),.map (some mp)] 138)).sep (zK z9 26 mp (K.map zP)))).ho w->Calls z9 103 #[.pointer (some ⟨bm,0,none⟩),.int .i64 (x:Nat),.int .i64 (y:Nat),.nilIface] w fun e w'=>e=.returned .nilIface∧St w (((blk bm (.cells #[.pointer (some ⟨X.p,0,none⟩),.map (some mp)] 138)).sep (zK z9 26 mp (K.map zP)))).fp [blk bm (.cells #[.pointer (some ⟨X.p,0,none⟩),.map (some mp)] 138),zK z9 26 mp ((K++[(x,y)]).map zP)] w'):=zh fun y w h=>WG (by omega) hn w h
 have hnb:n<=256:=(by omega);have hnb9:n<=L9:=(by omega);have HL:Hid (t.length=n∧n<=256∧n<=L9):=zh ⟨hnn,hnb,hnb9⟩;have d1:decide ((n:Int)<=256)=true:=(by simp;omega);have d1n:decide (n<=256)=true:=(by simp;omega);rw [htt];clear hnb9 hL9 h hd hX h1 h2 hn ht hroom hmost htt hnn hln hj hen hlw hlt;go_enter Qi,Zw;go_wp2_with (first|refine sL ?_|(refine sS ?_;clear H;intros;rename_i H)|(go_at_call 53;with_reducible refine same (HS.out _ (H.get pk)) ?_)|(go_at_call 40;with_reducible refine zm (hW.out _ (H.get (A:=pA X) pk)) ?_;rintro e9 wc ⟨rfl,hb⟩;replace H:=H.grew hb.below;clear hb)|(go_at_call 78;with_reducible refine zm (HE.out _ (H.get pk)) ?_;rintro e9 wc ⟨v2,rfl,hb⟩;replace H:=zn (H.call0 hb);clear hb)|(go_at_call 22;with_reducible refine zm (HO.out v2 _ (H.sepK HK pk pk) (H.sepO pk pk)) ?_;rintro e9 wc ⟨X2,y2,rfl,y1,y3,y4,y5,hb⟩;have HZ:=zh (za y1 (za y3 (za y4 y5)));clear y1 y3 y4 y5;replace H:=zn ((H.pick pk).call hb);clear hb)|(go_at_call 103;with_reducible refine zm (HR.out y2 _ (St.ho (H.pick2 (A:=blk bm (.cells #[.pointer (some ⟨X.p,0,none⟩),.map (some mp)] 138)) (B:=zK z9 26 mp (K.map zP)) pk pk).join _ zM)) ?_;rintro e9 wc ⟨rfl,hb⟩;replace H:=zn ((H.pick2 (A:=blk bm (.cells #[.pointer (some ⟨X.p,0,none⟩),.map (some mp)] 138)) (B:=zK z9 26 mp (K.map zP)) pk pk).join.call hb);clear hb));go_ret2;have h1:=HZ.out;have h2:=HL.out;exact ⟨X2,y2,rfl,h1.1,h1.2.1,h1.2.2.1,by omega,H.picks (.cons pk (.cons pk (.cons pk .nil)))⟩
end
section
open Go.RowKit Go.Maps
attribute [local go_sem] qw yM
def OfR (X:Px) (N:List Nat) (w:World) (bm mp x b9:Nat) (K:List (Nat×Nat)) (L9:Nat) (m:Nat) (v:Value) (wr:World):Prop :=
 ∃ (X2:Px) (K2:List (Nat×Nat)),m<=2∧v=.slice (some ⟨b9,0,none⟩) (if m=0 then 0 else 1) 1∧(KnOk X2.S K2∧X.Ext X2∧zL X2∧X2.S.list.length<=X.S.list.length+2*L9∧((m=2∧X2=X∧K2=K)∨∃ y,(x,y)∈K2))∧St w N [pA X2,blk bm (.cells #[.pointer (some ⟨X.p,0,none⟩),.map (some mp)] 138),zK z9 26 mp (K2.map zP),blk b9 (.cells #[.int .i64 (x:Nat)] 26)] wr
theorem of_c {X:Px} {bm mp x:Nat} {K:List (Nat×Nat)} (hX:zL X) (h1:1<=x) (h2:x<=X.S.list.length) (hK:KnOk X.S K) {L9:Nat} (hL9:L9<=256) (ht:(X.S.tr x).len<=L9) (hroom:X.S.list.length+2*L9<X.S.most) (hmost:X.S.most<=1048576) (w:World) (h:((pA X).sep ((blk bm (.cells #[.pointer (some ⟨X.p,0,none⟩),.map (some mp)] 138)).sep (zK z9 26 mp (K.map zP)))).ho w) (hd:(((pA X).sep ((blk bm (.cells #[.pointer (some ⟨X.p,0,none⟩),.map (some mp)] 138)).sep (zK z9 26 mp (K.map zP)))).sep deA).ho w) :
  Calls z9 35 #[.pointer (some ⟨bm,0,none⟩),.int .i64 (x:Nat)] w fun e w'=>∃ (X':Px) (K':List (Nat×Nat)) (y:Nat),e=.returned (.tuple #[.int .i64 y,.nilIface])∧X.Ext X'∧zL X'∧KnOk X'.S K'∧IdIs X'.S y (((X.S.tr x).txt.map Tr.leaf))∧X'.S.list.length<=X.S.list.length+2*L9∧St w ((pA X).sep ((blk bm (.cells #[.pointer (some ⟨X.p,0,none⟩),.map (some mp)] 138)).sep (zK z9 26 mp (K.map zP)))).fp [pA X',blk bm (.cells #[.pointer (some ⟨X.p,0,none⟩),.map (some mp)] 138),zK z9 26 mp (K'.map zP)] w':=by
 have H:=((St.one h).sep.pick (A:=((blk bm (.cells #[.pointer (some ⟨X.p,0,none⟩),.map (some mp)] 138)).sep (zK z9 26 mp (K.map zP)))) pk).sep;rw [qx] at hd;have HK:Ks w ((pA X).sep ((blk bm (.cells #[.pointer (some ⟨X.p,0,none⟩),.map (some mp)] 138)).sep (zK z9 26 mp (K.map zP)))).fp [deA]:=⟨by simpa using hd.2.1,by simpa using fun b hb hm=>hd.2.2 b hm hb⟩
 have HLN:Hid (∀ w,((pA X).sep ((blk bm (.cells #[.pointer (some ⟨X.p,0,none⟩),.map (some mp)] 138)).sep (zK z9 26 mp (K.map zP)))).ho w->(((pA X).sep ((blk bm (.cells #[.pointer (some ⟨X.p,0,none⟩),.map (some mp)] 138)).sep (zK z9 26 mp (K.map zP)))).sep deA).ho w->(∀ q∈K,q.1≠x)->Calls z9 71 #[.pointer (some ⟨bm,0,none⟩),.int .i64 (x:Nat)] w fun e w'=>∃ (X':Px) (y:Nat),e=.returned (.tuple #[.int .i64 0,.nilIface])∧X.Ext X'∧zL X'∧IdIs X'.S y (((X.S.tr x).txt.map Tr.leaf))∧X'.S.list.length<=X.S.list.length+2*L9∧St w ((pA X).sep ((blk bm (.cells #[.pointer (some ⟨X.p,0,none⟩),.map (some mp)] 138)).sep (zK z9 26 mp (K.map zP)))).fp [pA X',blk bm (.cells #[.pointer (some ⟨X.p,0,none⟩),.map (some mp)] 138),zK z9 26 mp ((K++[(x,y)]).map zP)] w'):=zh fun w h hd hn=>learn_c hX h1 h2 hn hL9 ht hroom hmost w h hd
 generalize ((pA X).sep ((blk bm (.cells #[.pointer (some ⟨X.p,0,none⟩),.map (some mp)] 138)).sep (zK z9 26 mp (K.map zP)))).fp=N at H HK ⊢;have HS:Hid (∀ w,(pA X).ho w->Calls z9 53 #[.pointer (some ⟨X.p,0,none⟩)] w fun e w'=>e=.returned (.pointer (some ⟨X.s,0,none⟩))∧w'=w):=zh fun w h=>jJ w h
 have HLE:Hid (∀ w,(pA X).ho w->Calls z9 38 #[.pointer (some ⟨X.s,0,none⟩)] w fun e w'=>e=.returned (.int .i64 (X.S.list.length:Nat))∧w'=w):=zh fun w h=>Wm w (ke h)
 obtain ⟨ln,hln⟩:∃ k,X.S.list.length=k:=⟨_,rfl⟩
 rw [hln] at HLE;have HIN:Hid (zL X∧1<=x∧x<=ln∧KnOk X.S K∧X.S.list.length=ln∧ln<=1048576):=zh ⟨hX,h1,by omega,hK,hln,by omega⟩;have d1:decide ((x:Int)<0)=false:=(by simp);have d2:decide ((ln:Int)<(x:Int))=false:=(by simp;omega);have d2n:decide (ln<x)=false:=(by simp;omega);have d3:((x:Int)==0)=false:=(by simp;omega);have hxb:x<=1152921504606846976:=(by omega);clear hL9 hX h1 h2 hK ht hroom hmost h hd hln;go_enter Tryz.func35,Tryz.ntmps35;go_wp2_with (first|refine sL ?_|(refine sS ?_;clear H;intros;rename_i H)|(go_at_call 53;with_reducible refine same (HS.out _ (H.get pk)) ?_)|(go_at_call 38;with_reducible refine same (HLE.out _ (H.get pk)) ?_)|((with_reducible refine qR ?_);refine AtSlice.one H rfl rfl rfl rfl rfl rfl rfl rfl rfl ?_;clear H;intro b9 _ H;simp only [Act.put,puA,puB,puC]));go_loopg [6] 2 (fun m v6 wr=>OfR X N w bm mp x b9 K L9 m v6 wr);case atStart=>exact ⟨X,K,zt _,rfl,⟨HIN.out.2.2.2.1,.refl _,HIN.out.1,by omega,.inl ⟨rfl,rfl,rfl⟩⟩,H.picks (.cons pk (.cons pk (.cons pk (.cons pk .nil))))⟩
 case round =>
  clear H;obtain ⟨X2,K2,hm2,rfl,hrel,H⟩:=hrel;have HRL:=zh hrel;rcases qt gk with hm0|hm0
  ·subst hm0;simp only [if_true];have hy0:∃ y,(x,y)∈K2:=by
    rcases hrel.2.2.2.2 with ⟨h,_⟩|h
    ·omega
    ·exact h
   rcases XH (x:=x) false hxb (H.get (A:=zK z9 26 mp (K2.map zP)) pk) with ⟨y,hy,hlk⟩|⟨hno,_⟩
   ·simp only [xH,if_false] at hlk;have HY:=zh hy;clear hrel hy hy0;go_wp2_with (first|refine sL ?_|(refine sS ?_;clear H;intros;rename_i H));go_ret2;have h1:=HRL.out;have h3:=HIN.out;obtain ⟨k1,k2,k3⟩:=h1.1 _ HY.out;simp only at k3;rw [h1.2.1.le.tr h3.1.ok h3.2.1 (by omega)] at k3;exact ⟨X2,K2,y,rfl,h1.2.1,h1.2.2.1,h1.1,k3,h1.2.2.2.1,H.picks (.cons pk (.cons pk (.cons pk .nil)))⟩
   ·obtain ⟨y,hy⟩:=hy0;exact absurd rfl (hno _ hy)
  ·have hm1:¬ gk=0:=(by omega);simp only [hm1,if_false];rcases XH (x:=x) true hxb (H.get (A:=zK z9 26 mp (K2.map zP)) pk) with ⟨y,hy,hlk⟩|⟨hno,hlk⟩
   ·simp only [if_true] at hlk;have HY:=zh hy;clear hrel hy;go_wp2_with (first|refine sL ?_|(refine sS ?_;clear H;intros;rename_i H));go_roundg 0;case measure=>omega
    case rel=>exact ⟨X2,K2,by omega,rfl,⟨HRL.out.1,HRL.out.2.1,HRL.out.2.2.1,HRL.out.2.2.2.1,.inr ⟨y,HY.out⟩⟩,H.picks (.cons pk (.cons pk (.cons pk (.cons pk .nil))))⟩
   ·simp only [if_true] at hlk;rcases hrel.2.2.2.2 with ⟨e1,e2,e3⟩|⟨y,hy⟩
    ·subst e1;obtain rfl:=e2.symm;obtain rfl:=e3.symm;have HNO:=zh hno;clear hrel hno e2 e3;go_wp2_with (first|refine sL ?_|(refine sS ?_;clear H;intros;rename_i H)|(go_at_call 71;with_reducible refine zm (HLN.out _ ((St.join3 (H.pick3 (A:=pA X) (B:=blk bm (.cells #[.pointer (some ⟨X.p,0,none⟩),.map (some mp)] 138)) (C:=zK z9 26 mp (K.map zP)) pk pk pk)).ho _ zM) ((St.join3 (H.pick3 (A:=pA X) (B:=blk bm (.cells #[.pointer (some ⟨X.p,0,none⟩),.map (some mp)] 138)) (C:=zK z9 26 mp (K.map zP)) pk pk pk)).sepK HK .here pk) HNO.out) ?_;rintro e9 wc ⟨X3,y3,rfl,y1,y2,y4,y5,hb⟩;have HZ:=zh (za y1 (za y2 (za y4 y5)));clear y1 y2 y4 y5;replace H:=(St.join3 (H.pick3 (A:=pA X) (B:=blk bm (.cells #[.pointer (some ⟨X.p,0,none⟩),.map (some mp)] 138)) (C:=zK z9 26 mp (K.map zP)) pk pk pk)).call hb;clear hb hlk;simp only [zl,zr] at H));go_roundg 1;case measure=>omega
     case rel =>
      have h1:=HZ.out;have h3:=HIN.out;have hkn:KnOk X3.S (K++[(x,y3)]):=fun q hq=>by
       rcases zk.1 hq with hq|hq
       ·exact (h3.2.2.2.1.le h3.1.ok h1.1.le) q hq
       ·simp at hq;subst hq;refine ⟨h3.2.1,?_,?_⟩
        ·have:=h1.1.le.len;simp only;omega
        ·rw [h1.1.le.tr h3.1.ok h3.2.1 (by omega)];exact h1.2.2.1
      exact ⟨X3,K++[(x,y3)],by omega,rfl,⟨hkn,h1.1,h1.2.1,h1.2.2.2,.inr ⟨y3,by simp⟩⟩,H.picks (.cons pk (.cons pk (.cons pk (.cons pk .nil))))⟩
    ·exact absurd rfl (hno _ hy)
end
section
def vw (t:Tr):Nat:=if t.len<=256 then 2*t.len else match t with|.leaf _=>2|.pair _ _=>t.len|.pow _ _=>4*t.len
def wg:Tr->Nat
 |.leaf b=>2
 |.pair l r=>if (Tr.pair l r).len<=256 then 2*(Tr.pair l r).len else (Tr.pair l r).len+wg l+wg r
 |.pow s k=>if (Tr.pow s k).len<=256 then 2*(Tr.pow s k).len else 4*(Tr.pow s k).len+wg s
theorem jX {t:Tr} (h:t.len<=256):wg t=2*t.len:=by
 cases t with
 |leaf b=>simp [wg,Tr.len]
 |pair l r=>rw [wg,if_pos h]
 |pow s k=>rw [wg,if_pos h]
theorem ownT_cost (t:Tr):vw t<=wg t:=by
 unfold vw;split
 ·rename_i h;rw [jX h];exact zt _
 ·rename_i h;cases t with
  |leaf b=>simp [wg]
  |pair l r=>rw [wg,if_neg h];simp only;omega
  |pow s k=>rw [wg,if_neg h];simp only;omega
theorem ownT_le {t:Tr} (h:t.len<=300):vw t<=1200:=by
 unfold vw;split
 ·omega
 ·cases t <;> simp only <;> omega
theorem W8:∀ {t:Tr},t.Pow2->t.len<=300->wg t<=1500+302*(t.len-256)
 |.leaf b,_,_=>by simp only [wg];omega
 |.pair l r,h,hl=>by
  by_cases h1:(Tr.pair l r).len<=256
  ·rw [jX h1];omega
  ·rw [wg,if_neg h1];have e:(Tr.pair l r).len=l.len+r.len:=rfl;have hl1:=j8 h.1;have hr1:=j8 h.2;by_cases h2:l.len<=256
   ·rw [jX h2];by_cases h3:r.len<=256
    ·rw [jX h3];omega
    ·have:=W8 h.2 (by omega);omega
   ·have:=W8 h.1 (by omega);rw [jX (t:=r) (by omega)];omega
 |.pow s k,h,hl=>by
  by_cases h1:(Tr.pow s k).len<=256
  ·rw [jX h1];omega
  ·rw [wg,if_neg h1];have e:(Tr.pow s k).len=s.len*k:=rfl;have h2:s.len*2<=s.len*k:=Nat.mul_le_mul_left _ h.2;rw [jX (t:=s) (by omega)];omega
def YE (S:Sto) (Q:List Nat) (c:Nat):Nat:=if c=0∨c∈Q then 0 else wg (S.tr c)
def need (S:Sto) (Q:List Nat) (x:Nat):Nat :=
 if (S.tr x).len<=256 then vw (S.tr x) else match S.list[x-1]? with|some e=>vw (S.tr x)+YE S Q e.r.left+YE S Q e.r.right|none=>vw (S.tr x)
theorem Q0 {S:Sto} {Q Q':List Nat} (h:∀ c∈Q,c∈Q') (c:Nat):YE S Q' c<=YE S Q c:=by
 unfold YE;by_cases h1:c=0∨c∈Q
 ·rw [if_pos (h1.elim .inl fun h1=>.inr (h _ h1))];exact qk _
 ·rw [if_neg h1];split
  ·exact qk _
  ·exact zt _
theorem JG {S:Sto} {Q Q':List Nat} (h:∀ c∈Q,c∈Q') (x:Nat):need S Q' x<=need S Q x:=by
 unfold need;split
 ·exact zt _
 ·split
  ·rename_i e _;have:=Q0 (S:=S) h e.r.left;have:=Q0 (S:=S) h e.r.right;omega
  ·exact zt _
theorem own_need (S:Sto) (Q:List Nat) (x:Nat):vw (S.tr x)<=need S Q x:=by
 unfold need;split
 ·exact zt _
 ·split
  ·omega
  ·exact zt _
theorem Kq (S:Sto) (Q:List Nat) (c:Nat):YE S Q c<=wg (S.tr c):=by unfold YE;split <;> omega
theorem JF {S:Sto} (hS:S.Ok) (Q:List Nat) {x:Nat} (h1:1<=x) (h2:x<=S.list.length):need S Q x<=wg (S.tr x):=by
 obtain ⟨i,rfl⟩:=zB (show x≠0 by omega);unfold need;by_cases hl:(S.tr (i+1)).len<=256
 ·rw [if_pos hl];exact ownT_cost _
 ·rw [if_neg hl];have hx:S.list[i+1-1]?=some (S.list[i]'(by omega)):=(by simp);rw [hx];simp only;have h0:YE S Q 0=0:=(by simp [YE]);have hx2:S.list[i]?=some (S.list[i]'(by omega)):=(by simp);cases xv hS hx2 with
  |letter b hb hr hw ht=>rw [ht] at hl;simp [Tr.len] at hl
  |pair l r y z hl' hr hy hz he hw hs ht =>
   rw [he];have k1:=Kq S Q (l+1);have k2:=Kq S Q (r+1);rw [ht] at hl ⊢;rw [wg,if_neg hl];unfold vw;rw [if_neg hl];simp only;omega
  |pow l k y hl' hy hk he hw hs ht =>
   rw [he];have k1:=Kq S Q (l+1);rw [ht] at hl ⊢;rw [wg,if_neg hl];unfold vw;rw [if_neg hl];simp only;rw [h0];omega
def Qg (S:Sto) (x c:Nat):Prop:=1<=c∧∃ e,S.list[x-1]?=some e∧(c=e.r.left∨c=e.r.right)
theorem need_push {S:Sto} {Q:List Nat} {x c:Nat} (hl:¬ (S.tr x).len<=256) (h:Qg S x c) (hc:c ∉ Q):need S (c::Q) x+wg (S.tr c)<=need S Q x:=by
 obtain ⟨h1,e,he,h2⟩:=h;unfold need;rw [if_neg hl,if_neg hl,he];simp only;have k1:=Q0 (S:=S) (Q:=Q) (Q':=c::Q) (fun d hd=>qL _ hd) e.r.left;have k2:=Q0 (S:=S) (Q:=Q) (Q':=c::Q) (fun d hd=>qL _ hd) e.r.right;have k3:YE S (c::Q) c=0:=(by simp [YE]);have k4:YE S Q c=wg (S.tr c):=(by unfold YE;rw [if_neg (fun h=>h.elim (fun h=>by omega) fun h=>hc h)]);rcases h2 with h2|h2
 ·rw [← h2] at k1 ⊢;omega
 ·rw [← h2] at k2 ⊢;omega
def Vv (S:Sto) (Q:List Nat):Nat->List Nat->Nat
 |_,[]=>0
 |c,p::r=>need S (c::Q) p+Vv S Q p r
def Pot (S:Sto) (Q:List Nat):List Nat->Nat
 |[]=>0
 |x::r=>(if x∈Q then 0 else need S Q x)+Vv S Q x r
theorem JA {S:Sto} {Q Q':List Nat} (h:∀ c∈Q,c∈Q'):∀ (c:Nat) (r:List Nat),Vv S Q' c r<=Vv S Q c r
 |_,[]=>zt _
 |c,p::r=>by
  have h1:=JG (S:=S) (Q:=c::Q) (Q':=c::Q') (fun d hd=>by
   rcases zQ.1 hd with rfl|hd
   ·exact zM
   ·exact qL _ (h d hd)) p
  have h2:=JA (S:=S) h p r;simp only [Vv];omega
theorem pot_push {S:Sto} (hS:S.Ok) {Q:List Nat} {x c:Nat} {r:List Nat} (hx:x ∉ Q) (hl:¬ (S.tr x).len<=256) (h:Qg S x c) (hc:c ∉ Q) (hc2:c<=S.list.length):Pot S Q (c::x::r)<=Pot S Q (x::r):=by
 have h1:=need_push hl h hc;have h2:=JF hS Q h.1 hc2;simp only [Pot,Vv];rw [if_neg hx,if_neg hc];omega
theorem pot_learn {S:Sto} {Q Q':List Nat} {x:Nat} {r:List Nat} (hx:x ∉ Q) (h:∀ c∈Q,c∈Q') (hx':x∈Q'):Pot S Q' (x::r)+vw (S.tr x)<=Pot S Q (x::r):=by
 have h1:=own_need S Q x;have h2:=JA (S:=S) h x r;simp only [Pot];rw [if_neg hx,if_pos hx'];omega
theorem pot_pop {S:Sto} {Q:List Nat} {x:Nat} {r:List Nat} (hx:x∈Q):Pot S Q r<=Pot S Q (x::r):=by
 cases r with
 |nil=>simp [Pot]
 |cons p r =>
  have h1:=JG (S:=S) (Q:=x::Q) (Q':=Q) (fun d hd=>by
   rcases zQ.1 hd with rfl|hd
   ·exact hx
   ·exact hd) p
  simp only [Pot,Vv];rw [if_pos hx];split <;> omega
theorem pot_start {S:Sto} (hS:S.Ok) {Q:List Nat} {x:Nat} (h1:1<=x) (h2:x<=S.list.length):Pot S Q [x]<=wg (S.tr x):=by
 have:=JF hS Q h1 h2;simp only [Pot,Vv];split <;> omega
def kz (n:Nat) (Q:List Nat):Nat:=((zj (n+1)).filter fun i=>decide (i ∉ Q)).length
theorem WX {n x:Nat} {Q Q':List Nat} (h:∀ c∈Q,c∈Q') (hx:x<=n) (h1:x ∉ Q) (h2:x∈Q'):kz n Q'+1<=kz n Q:=by
 unfold kz;have hm:x∈zj (n+1):=zJ.2 (by omega);generalize zj (n+1)=l at hm ⊢;induction l with
 |nil=>simp at hm
 |cons y l ih =>
  have hmono:(l.filter fun i=>decide (i ∉ Q')).length<=(l.filter fun i=>decide (i ∉ Q)).length:=by
   clear ih hm;induction l with
   |nil=>simp
   |cons z l ih =>
    simp only [ZA];by_cases h3:z∈Q
    ·have:=h z h3;simp [h3,this];simpa using ih
    ·by_cases h4:z∈Q'
     ·simp [h3,h4];have:_<=_:=ih;simp at this;omega
     ·simp [h3,h4];simpa using ih
  simp only [ZA];rcases zQ.1 hm with e|hm
  ·subst e;simp [h1,h2];simpa using hmono
  ·have ih:=ih hm;by_cases h3:y∈Q
   ·have:=h y h3;simp [h3,this];simpa using ih
   ·by_cases h4:y∈Q'
    ·simp [h3,h4];simp at ih;omega
    ·simp [h3,h4];simp at ih;omega
end
section
def Qa (f:Tr->Tr->Bool):List Tr->Option Tr
 |[]=>none
 |[x]=>some x
 |x::y::r=>if f x y=true then Qa f r else Qa f (y::r)
theorem Q4 (f:Tr->Tr->Bool):∀ (a b:List Tr),(∀ x y,Qa f a=some x->b.head?=some y->f x y=false)->zH f (a++b)=zH f a++zH f b∧(b≠[]->Qa f (a++b)=Qa f b)
 |[],b,_=>⟨rfl,fun _=>rfl⟩
 |[x],[],h=>⟨rfl,fun h=>absurd rfl h⟩
 |[x],y::b,h=>by
  have:=h x y rfl rfl;exact ⟨by simp [zH,this],fun _=>by simp [Qa,this]⟩
 |x::y::r,b,h=>by
  by_cases hf:f x y=true
  ·have ih:=Q4 f r b (by simpa [Qa,hf] using h);exact ⟨by simp [zH,hf,ih.1],fun hb=>by simp [Qa,hf,ih.2 hb]⟩
  ·have ih:=Q4 f (y::r) b (by simpa [Qa,hf] using h);simp only [zl] at ih;exact ⟨by simp [zH,hf,ih.1],fun hb=>by simp [Qa,hf,ih.2 hb]⟩
theorem QD (f:Tr->Tr->Bool):∀ (a b c:List Tr) (x y:Tr),Qa f a=some x->b.head?=some y->f x y=true->zH f (a++b)≠zH f a++c
 |[],b,c,x,y,h,_,_=>by simp [Qa] at h
 |[z],[],c,x,y,h,h2,_=>by simp at h2
 |[z],u::b,c,x,y,h,h2,h3=>by
  simp [Qa] at h h2;subst h h2;intro e;simp [zH,h3] at e;exact Zo _ _ e.1
 |z::w::r,b,c,x,y,h,h2,h3=>by
  by_cases hf:f z w=true
  ·have ih:=QD f r b c x y (by simpa [Qa,hf] using h) h2 h3;intro e;simp [zH,hf] at e;exact ih e
  ·have ih:=QD f (w::r) b c x y (by simpa [Qa,hf] using h) h2 h3;intro e;simp only [zl] at ih;simp [zH,hf] at e;exact ih e
theorem powT_inj {w:Tr} {k j:Nat} (hk:1<=k) (hj:1<=j) (h:j9 (w,k+1)=j9 (w,j+1)):k=j:=by
 simp only [j9] at h;rw [if_neg (by omega),if_neg (by omega)] at h;injection h with _ h
 omega
theorem VH (x:Tr) (k:Nat):Tr.pow x k≠x:=by
 intro h;have:SizeOf.sizeOf (Tr.pow x k)=SizeOf.sizeOf x:=by rw [h]
 simp at this;omega
theorem JR:∀ (a b c:List Tr) (x:Tr),a.getLast?=some x->b.head?=some x->runs (a++b)≠runs a++c
 |[],b,c,x,h,_=>by simp at h
 |[z],[],c,x,h,h2=>by simp at h2
 |[z],u::b,c,x,h,h2=>by
  simp at h h2;subst h h2;intro e;obtain ⟨k,g,hg⟩:=wh u b;have hk:=(jp (u::b) (u,k) (by rw [hg];simp)).1;simp only [zl,zr,runs] at e;rw [qW,hg] at e;simp only [if_true,q7,qW,yh,zl,zr] at e;injection e with e _
  simp only [j9] at e;rw [if_neg (by simp at hk;omega)] at e;exact VH _ _ e
 |z::w::r,b,c,x,h,h2=>by
  have ih:=JR (w::r) b c x (by simpa using h) h2;intro e;refine ih ?_;obtain ⟨k,g,hg⟩:=wh w (r++b);obtain ⟨k',g',hg'⟩:=wh w r;have hk:=(jp (w::(r++b)) (w,k) (by rw [hg];simp)).1;have hk':=(jp (w::r) (w,k') (by rw [hg'];simp)).1;simp only [runs,zl] at e ⊢;rw [qW,hg,qW,hg'] at e;rw [hg,hg'];simp only at e hk hk';by_cases hz:z=w
  ·rw [if_pos hz,if_pos hz] at e;simp only [q7,zl,Zt.injEq] at e ⊢;exact ⟨by rw [powT_inj hk hk' e.1],e.2⟩
  ·rw [if_neg hz,if_neg hz] at e;simp only [q7,zl,Zt.injEq] at e ⊢;exact e.2
def CutP (m:Nat) (a b:List Tr):Prop:=if m%2=1 then ∀ x y,a.getLast?=some x->b.head?=some y->x≠y else ∀ x y,Qa (fits m) a=some x->b.head?=some y->fits m x y=false
theorem CutP.step {m:Nat} {a b:List Tr} (h:CutP m a b):yd m (a++b)=yd m a++yd m b:=by
 unfold CutP at h;unfold yd;split at h
 ·rename_i h1;rw [if_pos h1,if_pos h1,if_pos h1];exact ZU h
 ·rename_i h1;rw [if_neg h1,if_neg h1,if_neg h1];exact (Q4 _ a b h).1
theorem CutP.of {m:Nat} {a b c:List Tr} (h:yd m (a++b)=yd m a++c):CutP m a b:=by
 unfold yd at h;unfold CutP;split
 ·rename_i h1;rw [if_pos h1,if_pos h1] at h;intro x y hx hy e;subst e;exact JR a b c x hx hy h
 ·rename_i h1;rw [if_neg h1,if_neg h1] at h;intro x y hx hy;cases hf:fits m x y with
  |false=>rfl
  |true=>exact absurd h (QD _ a b c x y hx hy hf)
theorem CutP.more {m:Nat} {a b d:List Tr} (h:CutP m a b) (hb:b≠[]) (h2:CutP m b d):CutP m (a++b) d:=by
 unfold CutP at h h2 ⊢;split at h
 ·rename_i h1;rw [if_pos h1] at h2 ⊢;intro x y hx hy;refine h2 x y ?_ hy;rw [xw] at hx;cases hl:b.getLast? with
  |none=>rw [List.getLast?_eq_none_iff] at hl;exact absurd hl hb
  |some z=>rw [hl] at hx;simpa using hx
 ·rename_i h1;rw [if_neg h1] at h2 ⊢;intro x y hx hy;rw [(Q4 _ a b h).2 hb] at hx;exact h2 x y hx hy
theorem CutP.head {m:Nat} {a b d:List Tr} (h:CutP m a b) (hd:d.head?=b.head?):CutP m a d:=by
 unfold CutP at h ⊢;rw [hd];exact h
theorem Z5 (k:Nat) (u:List Tr):(zc (k+1) u).flatten=u++(zc k u).flatten:=by simp [zR]
theorem VQ {m:Nat} {u:List Tr} (h:CutP m u u):∀ k,yd m (zc k u).flatten=(zc k (yd m u)).flatten
 |0=>by simp [yd,runs,qW,zH]
 |1=>by simp
 |k+2=>by
  rw [Z5,Z5 (k+1) (yd m u),← VQ h (k+1)];cases hu:u with
  |nil=>simp [yd,runs,qW,zH]
  |cons x r =>
   rw [← hu];refine (h.head (d:=(zc (k+1) u).flatten) ?_).step;rw [Z5,hu];simp
theorem Jk {t:Tr} {k:Nat} (h:Canon t) (he:t.lv%2=0) (hk:2<=k) (hc:∀ l,l<t.lv->CutP (l+1) (t.lay l) (t.lay l)):Canon (.pow t k)∧(Tr.pow t k).lay 0=(zc k (t.lay 0)).flatten:=by
 have hl:∀ l,l<=t.lv->xg (zc k (t.lay 0)).flatten l=(zc k (t.lay l)).flatten:=fun l=>by
  induction l with
  |zero=>intro _;rfl
  |succ l ih =>
   intro hl;rw [show xg (zc k (t.lay 0)).flatten (l+1)=yd (l+1) (xg (zc k (t.lay 0)).flatten l) from rfl,ih (by omega),VQ (hc l (by omega)),h.step]
 have h1:=hl t.lv (zt _);rw [qH (zt _)] at h1;have h2:xg (zc k (t.lay 0)).flatten (t.lv+1)=[.pow t k]:=by
  rw [show xg (zc k (t.lay 0)).flatten (t.lv+1)=yd (t.lv+1) (xg (zc k (t.lay 0)).flatten t.lv) from rfl,h1];unfold yd;rw [if_pos (by omega)];have e:(zc k [t]).flatten=([(t,k)]:List (Tr×Nat)).flatMap fun p=>zc p.2 p.1:=by simp [List.flatten_replicate_singleton]
  unfold runs;have hg:qW ((([(t,k)]:List (Tr×Nat))).flatMap fun p=>zc p.2 p.1)=[(t,k)]:=kM (fun p hp=>by simp at hp;subst hp;show 1<=k;omega) trivial;rw [e,hg];simp only [q7,yh,j9];rw [if_neg (by omega)]
 have hls:xo (zc k (t.lay 0)).flatten:=fun x hx=>by
  obtain ⟨l,hl,hx⟩:=J6.1 hx;rw [(kJ.1 hl).2] at hx;exact h.leaves x hx
 have:=ZI hls h2;exact ⟨this.1,this.2.1⟩
theorem J9 {t:Tr} {n k:Nat} (h:Canon (.pow t n)) (hk:2<=k):Canon (.pow t k):=by
 have hn:2<=n:=h.gd.2.2;have hct:Canon t:=h.kid (j:=0) (by simp only [zT];rw [x7,if_pos (by omega)]);obtain ⟨a,ha⟩:=h.gd.1;obtain ⟨b,hb,hb2,rfl⟩:=jt ha;have hlv:t.lv=b:=wn hb;have hpl:(Tr.pow t n).lv=b+1:=wn ha;refine (Jk hct (by omega) hk fun l hl=>?_).1;have hlay:∀ l,l<=b->(Tr.pow t n).lay l=(zc n (t.lay l)).flatten:=fun l hl=>by
  simp only [Tr.lay];rw [if_neg (by omega)]
 have hs:=h.step l;rw [hlay l (by omega),hlay (l+1) (by omega)] at hs;obtain ⟨n',rfl⟩:∃ n',n=n'+2:=⟨n-2,by omega⟩
 rw [Z5,Z5 (n'+1) (t.lay (l+1)),← hct.step l] at hs;refine (CutP.of hs).head ?_;rw [Z5];cases hu:t.lay l with
 |nil=>simp
 |cons x r=>simp
theorem Vu {l:List Tr} (h:∀ t∈l,t.Pow2) (h0:k9 l=0):l=[]:=by
 cases l with
 |nil=>rfl
 |cons x l =>
  have:=wN (m:=0) (h x (by simp));simp only [k9,zu,zf] at h0;omega
theorem EndL.pre {a:Tr} {m:Nat} {d:qK} {L:List Tr} (h:EndL a m d L):∃ Z,a.lay m=L++Z:=by
 obtain ⟨p,o⟩:=d;cases o with
 |none=>obtain ⟨_,rfl⟩:=h;exact ⟨_,rfl⟩
 |some x =>
  have h:EdL a m p x L:=h;have:=h.zip.lay h.above;rw [qH h.low] at this;exact ⟨_,by rw [this,h.eq]⟩
theorem EndR.suf {a:Tr} {m:Nat} {d:qK} {R:List Tr} (h:EndR a m d R):∃ Z,a.lay m=Z++R:=by
 obtain ⟨p,o⟩:=d;cases o with
 |none=>obtain ⟨_,rfl⟩:=h;exact ⟨a.lay m,by simp⟩
 |some x =>
  have h:EdR a m p x R:=h;have:=h.zip.lay h.above;rw [qH h.low] at this;exact ⟨qj m p,by rw [this,h.eq];simp⟩
theorem Vt (a:Tr) (m:Nat):k9 (a.lay m)=(a.lay 0).length:=by
 unfold k9;rw [Zl (qk m)]
theorem SpI.both {t:Tr} {i n m:Nat} {d e:qK} (h:SpI t t (t.lay 0++t.lay 0) i n m d e []):xg (t.lay 0++t.lay 0) m=t.lay m++t.lay m:=by
 obtain ⟨L,R,h1,h2,h3,_,_⟩:=h.ex;obtain ⟨Z,hZ⟩:=h1.pre;obtain ⟨Y,hY⟩:=h2.suf;have hp:∀ u∈t.lay m,u.Pow2:=fun u hu=>wI h.ca.leaves m u (by rw [h.ca.seq];exact hu)
 have hls:xo (t.lay 0++t.lay 0):=fun u hu=>by
  rcases zk.1 hu with hu|hu <;> exact h.ca.leaves u hu
 have hf:=Yd hls 0 m;rw [qT,h3] at hf;have h4:=congrArg yo hf;have e1:=Vt t m;rw [hZ,jq] at e1;have e2:=Vt t m;rw [hY,jq] at e2;have e3:k9 (L++zV []++R)=k9 L+k9 R:=(by rw [jq,jq];simp [qI,k9]);have e4:k9 (L++zV []++R)=(t.lay 0++t.lay 0).length:=by
  unfold k9;rw [hf];rfl
 rw [zf] at e4;have z1:Z=[]:=Vu (fun u hu=>hp u (by rw [hZ];simp [hu])) (by omega);have z2:Y=[]:=Vu (fun u hu=>hp u (by rw [hY];simp [hu])) (by omega);subst z1 z2;rw [h3];simp at hZ hY;rw [← hZ,qI,qO,← hY,hZ]
theorem V2 {t:Tr} {k:Nat} (h:Canon t) (he:t.lv%2=0) (hk:2<=k) (hc:∀ l,l<=t.lv->xg (t.lay 0++t.lay 0) l=t.lay l++t.lay l):Canon (.pow t k)∧(Tr.pow t k).lay 0=(zc k (t.lay 0)).flatten:=by
 refine Jk h he hk fun l hl=>CutP.of (c:=t.lay (l+1)) ?_
 rw [← hc l (by omega),h.step,← hc (l+1) hl];rfl
end
section
open Go.RowKit Go.Maps
attribute [local go_sem] qw
theorem mrg_nil (lv:Nat):kE lv []=[]:=by
 unfold kE;split
 ·rfl
 ·split
  ·rfl
  ·simp [yK]
theorem GatOk.mle {a b:Tr} {s:List Tr} {m:Nat} {d e:qK} {M:List It} (h:GatOk a b s m d e M):M.length<=(zV M).length:=by
 by_cases he:m%2=0
 ·exact wJ (h.run he)
 ·by_cases ht:yR (m+1)=true
  ·exact vH (h.tie (by omega) ht)
  ·exact wJ ((h.one (by omega) (by simpa using ht)).sg)
def ApaRel (X:Px) (b7:Nat) (T:Tr) (n:Nat) (N:List Nat) (w:World) (mm:Nat) (v9:Value) (wr:World):Prop :=
 ∃ (m lv:Nat) (X1:Px) (cs:Array Value) (pl:Value) (fl:List Fr) (il kl:Nat) (pr:Value) (fr:List Fr) (ir kr:Nat) (mv:Value) (rs:List ItR) (d e:qK),mm=T.lv-m∧m<=T.lv∧lv=m+1∧v9=.int .i64 lv∧SpI T T (T.lay 0++T.lay 0) n n m d e []∧(X.Ext X1∧zL X1∧X1.S=X.S∧SpIn X1 cs pl fl il kl pr fr ir kr mv rs d e []∧∀ l,l<=m->xg (T.lay 0++T.lay 0) l=T.lay l++T.lay l)∧St w N [pA X1,blk b7 (.cells cs 250),zb zd 265 8 pl fl,zb zd 265 8 pr fr,zb zi 254 4 mv rs] wr
theorem apart_c {X:Px} {x:Nat} {T:Tr} (hX:zL X) (hd:Den X.S x T) (hc:Canon T) (hln:2*(T.lay 0).length<=1048576) (w:World) (h:PH X w) :
  Calls z9 130 #[.pointer (some ⟨X.p,0,none⟩),.int .i64 x] w fun e w'=>∃ (b:Bool) (X':Px),e=.returned (.bool b)∧(b=true->∀ k,2<=k->Canon (.pow T k)∧(Tr.pow T k).lay 0=(zc k (T.lay 0)).flatten)∧X.Ext X'∧zL X'∧X'.S=X.S∧St w (pA X).fp [pA X'] w':=by
 have h:((pA X).sep deA).ho w:=h;rw [qx] at h;obtain ⟨k1,k2,hdd⟩:=h;have H:=St.one k1;have HK:Ks w (pA X).fp [deA]:=⟨by simpa using k2,by simpa using fun b hb hm=>hdd b hm hb⟩
 generalize (pA X).fp=N at *;clear k1 k2 hdd;have hid:IdIs X.S x (T.lay 0):=.inr ⟨_,hd,hc,rfl⟩;have hlv:T.lv<=25339:=ZH hc (by omega);have hpos:=kL hc;obtain ⟨n,hn⟩:∃ n,(T.lay 0).length=n:=⟨_,rfl⟩
 have hTl:T.len=n:=(by rw [← xP hc.gd];exact hn);rw [hn] at hln hpos;obtain ⟨L,hL⟩:∃ L,T.lev=some L:=hc.lev;have hLv:T.lv=L:=wn hL;have HSZ:Hid (∀ w,(pA X).ho w->Calls z9 92 #[.pointer (some ⟨X.p,0,none⟩),.int .i64 x] w fun e w'=>e=.returned (.int .i64 (n:Nat))∧St w [] [] w'):=zh fun w h=>by have:=vh hX hid w h;rwa [hn] at this
 have HN1:Hid (∀ w,((pA X).sep deA).ho w->Calls z9 147 #[.pointer (some ⟨X.p,0,none⟩),.int .i64 x,.int .i64 (n:Nat),.bool false] w (XA X T false n (pA X).fp w)):=zh fun w h=>Zm (bk:=false) hX (fun _=>hd) hc.gd hlv (by omega) w h
 have HN2:Hid (∀ X2:Px,X.Ext X2->zL X2->X2.S=X.S->∀ w,((pA X2).sep deA).ho w->Calls z9 147 #[.pointer (some ⟨X.p,0,none⟩),.int .i64 x,.int .i64 (n:Nat),.bool true] w (fun e w'=>∃ (X':Px) (pv':Value) (fs':List Fr) (id' ky':Nat) (d:qK),e=.returned (.agg #[.pointer (some ⟨X.p,0,none⟩),.bool true,pv',.int .i64 id',.int .u64 ky'])∧X2.Ext X'∧zL X'∧X'.S=X2.S∧PathOf X'.S true d.1 fs'∧(match d.2 with|some x=>Den X'.S id' x∧ky'=x.key|none=>id'=0∧ky'=0)∧(true=false->EndL T 0 d ((T.lay 0).take n))∧(true=true->EndR T 0 d ((T.lay 0).drop (T.len-n)))∧St w (pA X2).fp [pA X',zb zd 265 8 pv' fs'] w')):=zh fun X2 q1 q2 q3 w h=>by
  have:=Zm (bk:=true) (n:=n) q2 (fun _=>(by rw [q3];exact hd:Den X2.S x T)) hc.gd hlv (by omega) w h;rw [q1.p] at this;refine this.mono ?_;rintro e w' ⟨X',pv',fs',id',ky',d,rfl,q⟩;exact ⟨X',pv',fs',id',ky',d,by rw [q1.p],q⟩
 have HT:Hid (∀ X2:Px,X.Ext X2->zL X2->X2.S=X.S->∀ w,((pA X2).sep deA).ho w->Calls z9 91 #[.pointer (some ⟨X.p,0,none⟩),.int .i64 x] w (jO X2 (.tuple #[.int .i64 L,.nilIface]) (pA X2).fp w)):=zh fun X2 q1 q2 q3 w h=>by
  have:=top_p q2 (by rw [q3];exact hd) w h;rw [q1.p,hL] at this;exact this
 have HIN:Hid (Canon T∧T.lv=L∧L<=25339∧(T.lay 0).length=n∧1<=n∧2*n<=1048576∧T.len=n):=zh ⟨hc,hLv,by omega,hn,hpos,hln,hTl⟩;have HST:Hid (∀ d e,EndL T 0 d ((T.lay 0).take n)->EndR T 0 e ((T.lay 0).drop (T.len-n))->SpI T T (T.lay 0++T.lay 0) n n 0 d e []):=zh fun d e h1 h2=>by
  rw [hTl,QO] at h2;have h4:=SpI.start hc hc h1 h2;rw [← hn,jx,yx,Nat.sub_zero] at h4;rw [← hn];exact h4
 have HLF:Hid (xo (T.lay 0++T.lay 0)∧(T.lay 0++T.lay 0).length<=1048576):=zh ⟨fun t ht=>(zk.1 ht).elim (hc.leaves t) (hc.leaves t),by rw [zf];omega⟩;have d6:∀ o,L%2=o->(L:Int).tmod 2=o:=fun o h=>by rw [jz (by omega)];omega
 have hL2:L<=25339:=(by omega);clear hX hd hid hc hlv hpos hTl hL hln hn;by_cases hpar:L%2=0
 case neg =>
  have tm:(L:Int).tmod 2=1:=d6 1 (by omega);have tm2:(L:Int)%2=1:=(by omega);clear d6 hpar hLv;go_enter Tryz.func130,Tryz.ntmps130;go_wp2_with (first|refine sL ?_|(refine sS ?_;clear H;intros;rename_i H)|(go_at_call 92;with_reducible refine zm (HSZ.out _ (H.get pk)) ?_;rintro e9 wc ⟨rfl,hb⟩;replace H:=H.grew hb.below;clear hb)|(first|(go_at_call 147;with_reducible refine zm (HN1.out _ (H.sepK HK pk pk)) ?_;rintro e9 wc ⟨X2,pl,fl,il,kl,dl,rfl,y1,y2,y3,y4,y5,y6,y7,hb⟩;have HYL:=zh (za y1 (za y2 (za y3 (za y4 (za y5 (za y6 y7))))));clear y1 y2 y3 y4 y5 y6 y7;replace H:=zn ((H.pick pk).call hb);clear hb;obtain ⟨al,cl,e8,_⟩:=zE (H.get (A:=zb zd 265 8 pl fl) pk);obtain ⟨nl,e7⟩:∃ l,fl.length=l:=⟨_,rfl⟩;rw [e7] at e8;clear e7;subst e8)|(go_at_call 147;with_reducible refine zm (HN2.out X2 HYL.out.1 HYL.out.2.1 HYL.out.2.2.1 _ (H.sepK HK pk pk)) ?_;rintro e9 wc ⟨X3,pr,fr,ir,kr,dr,rfl,y1,y2,y3,y4,y5,y6,y7,hb⟩;have HYR:=zh (za y1 (za y2 (za y3 (za y4 (za y5 (za y6 y7))))));clear y1 y2 y3 y4 y5 y6 y7;replace H:=zn ((H.pick pk).call hb);clear hb;obtain ⟨ar,cr,e8,_⟩:=zE (H.get (A:=zb zd 265 8 pr fr) pk);obtain ⟨nr,e7⟩:∃ l,fr.length=l:=⟨_,rfl⟩;rw [e7] at e8;clear e7;subst e8))|(go_at_call 91;with_reducible refine zm (HT.out X3 (HYL.out.1.trans HYR.out.1) HYR.out.2.1 (HYR.out.2.2.1.trans HYL.out.2.2.1) _ (H.sepK HK pk pk)) ?_;rintro e9 wc ⟨X4,y1,y2,y3,rfl,hb⟩;have HZ:=zh (za y1 (za y2 y3));clear y1 y2 y3;replace H:=zn ((H.pick pk).call hb);clear hb));go_ret;exact ⟨false,X4,rfl,(fun h=>by cases h),HYL.out.1.trans (HYR.out.1.trans HZ.out.1),HZ.out.2.1,HZ.out.2.2.trans (HYR.out.2.2.1.trans HYL.out.2.2.1),H.picks (.cons pk .nil)⟩
 have tm:(L:Int).tmod 2=0:=d6 0 hpar;have tm2:(L:Int)%2=0:=(by omega);have HPAR:=zh hpar;clear d6 hpar hLv;go_enter Tryz.func130,Tryz.ntmps130;go_wp2_with (first|refine sL ?_|(refine sS ?_;clear H;intros;rename_i H)|(go_at_call 92;with_reducible refine zm (HSZ.out _ (H.get pk)) ?_;rintro e9 wc ⟨rfl,hb⟩;replace H:=H.grew hb.below;clear hb)|(first|(go_at_call 147;with_reducible refine zm (HN1.out _ (H.sepK HK pk pk)) ?_;rintro e9 wc ⟨X2,pl,fl,il,kl,dl,rfl,y1,y2,y3,y4,y5,y6,y7,hb⟩;have HYL:=zh (za y1 (za y2 (za y3 (za y4 (za y5 (za y6 y7))))));clear y1 y2 y3 y4 y5 y6 y7;replace H:=zn ((H.pick pk).call hb);clear hb;obtain ⟨al,cl,e8,_⟩:=zE (H.get (A:=zb zd 265 8 pl fl) pk);obtain ⟨nl,e7⟩:∃ l,fl.length=l:=⟨_,rfl⟩;rw [e7] at e8;clear e7;subst e8)|(go_at_call 147;with_reducible refine zm (HN2.out X2 HYL.out.1 HYL.out.2.1 HYL.out.2.2.1 _ (H.sepK HK pk pk)) ?_;rintro e9 wc ⟨X3,pr,fr,ir,kr,dr,rfl,y1,y2,y3,y4,y5,y6,y7,hb⟩;have HYR:=zh (za y1 (za y2 (za y3 (za y4 (za y5 (za y6 y7))))));clear y1 y2 y3 y4 y5 y6 y7;replace H:=zn ((H.pick pk).call hb);clear hb;obtain ⟨ar,cr,e8,_⟩:=zE (H.get (A:=zb zd 265 8 pr fr) pk);obtain ⟨nr,e7⟩:∃ l,fr.length=l:=⟨_,rfl⟩;rw [e7] at e8;clear e7;subst e8))|(go_at_call 91;with_reducible refine zm (HT.out X3 (HYL.out.1.trans HYR.out.1) HYR.out.2.1 (HYR.out.2.2.1.trans HYL.out.2.2.1) _ (H.sepK HK pk pk)) ?_;rintro e9 wc ⟨X4,y1,y2,y3,rfl,hb⟩;have HZ:=zh (za y1 (za y2 y3));clear y1 y2 y3;replace H:=zn ((H.pick pk).call hb);clear hb));rename_i b7 _ _ _ _;go_loopg [9] (T.lv) (fun mm v9 wr=>ApaRel X b7 T n N w mm v9 wr);case atStart =>
  have hy:=HYL.out;have hz:=HYR.out;have hw:=HZ.out;have hE:=hy.1.trans (hz.1.trans hw.1);have hS4:X4.S=X.S:=hw.2.2.trans (hz.2.2.1.trans hy.2.2.1);have hsp:=HST.out dl dr (hy.2.2.2.2.2.1 (by first|rfl|trivial)) (hz.2.2.2.2.2.2 (by first|rfl|trivial));refine ⟨0,1,X4,#[.pointer (some ⟨X.p,0,none⟩),.pointer (some ⟨X.p,0,none⟩),.bool false,.slice al nl cl,.int .i64 il,.int .u64 kl,.pointer (some ⟨X.p,0,none⟩),.bool true,.slice ar nr cr,.int .i64 ir,.int .u64 kr,.slice none 0 0],.slice al nl cl,fl,il,kl,.slice ar nr cr,fr,ir,kr,.slice none 0 0,[],dl,dr,rfl,by omega,rfl,rfl,hsp,⟨hE,hw.2.1,hS4,⟨rfl,by rw [hE.p];rfl,rfl,⟨⟨by simp,by rw [hE.p];rfl,rfl,rfl,rfl,rfl⟩,by rw [hw.2.2,hz.2.2.1];exact hy.2.2.2.1,by rw [hw.2.2,hz.2.2.1];exact hy.2.2.2.2.1⟩,⟨⟨by simp,by rw [hE.p];rfl,rfl,rfl,rfl,rfl⟩,by rw [hw.2.2];exact hz.2.2.2.1,by rw [hw.2.2];exact hz.2.2.2.2.1⟩,trivial⟩,fun l hl=>(by obtain rfl:=Nat.le_zero.1 hl;rfl)⟩,(H.empty (A:=zb zi 254 4 (.slice none 0 0) []) (qp _) (by rw [qX];rfl)).picks (.cons (A:=pA X4) pk (.cons (A:=blk b7 (.cells #[.pointer (some ⟨X.p,0,none⟩),.pointer (some ⟨X.p,0,none⟩),.bool false,.slice al nl cl,.int .i64 il,.int .u64 kl,.pointer (some ⟨X.p,0,none⟩),.bool true,.slice ar nr cr,.int .i64 ir,.int .u64 kr,.slice none 0 0] 250)) pk (.cons (A:=zb zd 265 8 (.slice al nl cl) fl) pk (.cons (A:=zb zd 265 8 (.slice ar nr cr) fr) pk (.cons (A:=zb zi 254 4 (.slice none 0 0) []) pk .nil)))))⟩
 case round =>
  clear H HYL HYR HZ HN1 HN2 HT HSZ HST;obtain ⟨m,lv,X1,cs,pl,fl,il,kl,pr,fr,ir,kr,mv,rs,d,e,rfl,hm,hlv,rfl,hI,hrel,H⟩:=hrel;have HLV:=zh hlv;have HI:=zh hI;have HREL:=zh hrel;have hlvL:=HIN.out.2.1;have hlvb:lv<=25340:=(by omega);by_cases hend:m<L
  ·have d5:decide ((L:Int)<(lv:Int))=false:=(by simp;omega);have d5n:decide (L<lv)=false:=(by simp;omega);have d7:decide ((lv:Int)<=(L:Int))=true:=(by simp;omega);have d7n:decide (lv<=L)=true:=(by simp;omega);have HGA:Hid (∀ w,(((pA X1).sep ((blk b7 (.cells cs 250)).sep ((zb zd 265 8 pl fl).sep ((zb zd 265 8 pr fr).sep (zb zi 254 4 mv rs))))).sep deA).ho w->Calls z9 148 #[.pointer (some ⟨b7,0,none⟩),.int .i64 lv] w fun x w'=>∃ d1 e2 M2,GatR lv d e [] d1 e2 M2∧jC X1 b7 ((pA X1).sep ((blk b7 (.cells cs 250)).sep ((zb zd 265 8 pl fl).sep ((zb zd 265 8 pr fr).sep (zb zi 254 4 mv rs))))).fp w (.tuple #[]) d1 e2 M2 x w'):=zh fun w h=>Vk HREL.out.2.1 HREL.out.2.2.2.1 HI.out HLV.out (by omega) (by have:=HIN.out;rw [zf];omega) (by have:=HIN.out;omega) (by have:=HIN.out;omega) w h
   clear hlv hI hrel hlvL;go_wp2_with (first|refine sL ?_|(refine sS ?_;clear H;intros;rename_i H)|(go_at_call 148;with_reducible refine zm (HGA.out _ ((St.join5 (H.pick5 (A:=pA X1) (B:=blk b7 (.cells cs 250)) (C:=zb zd 265 8 pl fl) (D:=zb zd 265 8 pr fr) (E:=zb zi 254 4 mv rs) pk pk pk pk pk)).sepK HK pk pk)) ?_;rintro e9 wc ⟨d2,e2,M2,hgr,X2,cs2,pl2,fl2,il2,kl2,pr2,fr2,ir2,kr2,mv2,rs2,rfl,y1,y2,y3,y4,hb⟩;have HY2:=zh (za hgr (za y1 (za y2 (za y3 y4))));clear hgr y1 y2 y3 y4;replace H:=zn ((St.join5 (H.pick5 (A:=pA X1) (B:=blk b7 (.cells cs 250)) (C:=zb zd 265 8 pl fl) (D:=zb zd 265 8 pr fr) (E:=zb zi 254 4 mv rs) pk pk pk pk pk)).call hb);clear hb;obtain ⟨a9,c9,e9,_⟩:=zE (H.get (A:=zb zi 254 4 mv2 rs2) pk);obtain ⟨n3,hn3⟩:∃ l,rs2.length=l:=⟨_,rfl⟩;rw [hn3] at e9;have HN3:=zh hn3;clear hn3;subst e9;have D11:=zh HY2.out.2.2.2.2.c11;have hls:=HLF.out.2;have hok:=HI.out.gat HLF.out.1 (by have:=HY2.out.1;rwa [HLV.out] at this);have hn3b:n3<=1048576:=(by have h1:=hok.cnt;have h2:=HY2.out.2.2.2.2.its.len;have h3:=ZV (T.lay 0++T.lay 0) m;have h4:=HN3.out;have h5:=GatOk.mle hok;omega);have HOK:=zh (za hok hls);clear hok hls))
   ·go_ret;exact ⟨false,X2,rfl,(fun h=>by cases h),HREL.out.1.trans HY2.out.2.1,HY2.out.2.2.1,HY2.out.2.2.2.1.trans HREL.out.2.2.1,H.picks (.cons pk .nil)⟩
   ·have hz:n3=0:=(by omega);subst hz;have hs1:=HY2.out.2.2.2.2;have HS1:=zh hs1;have HUPL:Hid (∀ w,(((pA X2).sep ((blk b7 (.cells cs2 250)).sep (zb zd 265 8 pl2 fl2))).sep deA).ho w->Calls z9 152 #[.pointer (some ⟨b7,1,none⟩),.int .i64 lv] w (xY X2 false b7 1 250 cs2 (upT false lv d2) ((pA X2).sep ((blk b7 (.cells cs2 250)).sep (zb zd 265 8 pl2 fl2))).fp w (.tuple #[]))):=zh fun w h=>KT HY2.out.2.2.1 HS1.out.left HOK.out.1.z1 HIN.out.1.gd (by have:=HIN.out;omega) (by omega) w h
    clear hs1;(go_at_call 152;with_reducible refine zm (HUPL.out _ ((St.join3 (H.pick3 (A:=pA X2) (B:=blk b7 (.cells cs2 250)) (C:=zb zd 265 8 pl2 fl2) pk pk pk)).sepK HK pk pk)) ?_;rintro e9 wc ⟨X3,cs3,pl3,fl3,il3,kl3,rfl,y1,y2,y3,y4,y5,hb⟩;have HUL:=zh (za y1 (za y2 (za y3 (za y4 y5))));clear y1 y2 y3 y4 y5;replace H:=zn ((St.join3 (H.pick3 (A:=pA X2) (B:=blk b7 (.cells cs2 250)) (C:=zb zd 265 8 pl2 fl2) pk pk pk)).call hb);clear hb)
    have hs3:=HS1.out.afterL HY2.out.2.2.1.ok HUL.out.1 HUL.out.2.2.2.1 HUL.out.2.2.2.2;have HS3:=zh hs3;have HUPR:Hid (∀ w,(((pA X3).sep ((blk b7 (.cells cs3 250)).sep (zb zd 265 8 pr2 fr2))).sep deA).ho w->Calls z9 152 #[.pointer (some ⟨b7,6,none⟩),.int .i64 lv] w (xY X3 true b7 6 250 cs3 (upT true lv e2) ((pA X3).sep ((blk b7 (.cells cs3 250)).sep (zb zd 265 8 pr2 fr2))).fp w (.tuple #[]))):=zh fun w h=>KT HUL.out.2.1 HS3.out.right HOK.out.1.z2 HIN.out.1.gd (by have:=HIN.out;omega) (by omega) w h
    clear hs3;go_wp2_with (first|refine sL ?_|(refine sS ?_;clear H;intros;rename_i H)|(go_at_call 152;with_reducible refine zm (HUPR.out _ ((St.join3 (H.pick3 (A:=pA X3) (B:=blk b7 (.cells cs3 250)) (C:=zb zd 265 8 pr2 fr2) pk pk pk)).sepK HK pk pk)) ?_;rintro e9 wc ⟨X4,cs4,pr4,fr4,ir4,kr4,rfl,y1,y2,y3,y4,y5,hb⟩;have HUR:=zh (za y1 (za y2 (za y3 (za y4 y5))));clear y1 y2 y3 y4 y5;replace H:=zn ((St.join3 (H.pick3 (A:=pA X3) (B:=blk b7 (.cells cs3 250)) (C:=zb zd 265 8 pr2 fr2) pk pk pk)).call hb);clear hb));have hM2:M2=[]:=(by have h1:=HY2.out.2.2.2.2.its.len;rw [HN3.out] at h1;exact qg (by omega))
    have hr2:rs2=[]:=qg HN3.out;have h4:=HS3.out.afterR HUL.out.2.1.ok HUR.out.1 HUR.out.2.2.2.1 HUR.out.2.2.2.2;have hnx:=HI.out.next (by have:=HY2.out.1.lev;rwa [HLV.out] at this)
    rw [← HLV.out,hM2,mrg_nil] at hnx;rw [hM2] at h4;have HNX:=zh hnx;have HS4:=zh h4;clear hnx h4 hM2;go_roundg (T.lv-(m+1));case measure=>have:=HIN.out;omega
    case rel =>
     refine ⟨m+1,lv+1,X4,cs4,pl3,fl3,il3,kl3,pr4,fr4,ir4,kr4,.slice a9 0 c9,rs2,_,_,rfl,by have:=HIN.out;omega,by rw [HLV.out],by simp,by have:=HNX.out;rw [HLV.out] at this;rw [HLV.out];exact this,⟨HREL.out.1.trans (HY2.out.2.1.trans (HUL.out.1.trans HUR.out.1)),HUR.out.2.1,HUR.out.2.2.1.trans (HUL.out.2.2.1.trans (HY2.out.2.2.2.1.trans HREL.out.2.2.1)),HS4.out,fun l hl=>?_⟩,H.picks (.cons pk (.cons pk (.cons pk (.cons pk (.cons pk .nil)))))⟩;rcases qY l (m+1) with h5|h5
     ·exact HREL.out.2.2.2.2 l (by omega)
     ·obtain rfl:l=m+1:=by omega
      have h6:=HNX.out;rw [HLV.out] at h6;exact h6.both
  ·have d5:decide ((L:Int)<(lv:Int))=true:=(by simp;omega);have d5n:decide (L<lv)=true:=(by simp;omega);have d7:decide ((lv:Int)<=(L:Int))=false:=(by simp;omega);have d7n:decide (lv<=L)=false:=(by simp;omega);have hmL:m=T.lv:=(by omega);have HML:=zh hmL;clear hlv hI hrel hlvL hmL;go_wp2_with (first|refine sL ?_|(refine sS ?_;clear H;intros;rename_i H));go_ret;refine ⟨true,X1,rfl,fun _ k hk=>V2 HIN.out.1 (by rw [HIN.out.2.1];exact HPAR.out) hk fun l hl=>HREL.out.2.2.2.2 l (by rw [HML.out];exact hl),HREL.out.1,HREL.out.2.1,HREL.out.2.2.1,H.picks (.cons pk .nil)⟩
end
section
open Go.RowKit Go.Maps
attribute [local go_sem] qw
end
section
open Go.RowKit Go.Maps
attribute [local go_sem] qw
end
section
open Go.RowKit Go.Maps
attribute [local go_sem] qw
end
section
open Go.RowKit Go.Maps
attribute [local go_sem] qw
end
section
open Go.RowKit Go.Maps
attribute [local go_sem] qw
def len8:ByteArray:=⟨#[0,1,2,2,3,3,3,3,4,4,4,4,4,4,4,4,5,5,5,5,5,5,5,5,5,5,5,5,5,5,5,5,6,6,6,6,6,6,6,6,6,6,6,6,6,6,6,6,6,6,6,6,6,6,6,6,6,6,6,6,6,6,6,6,7,7,7,7,7,7,7,7,7,7,7,7,7,7,7,7,7,7,7,7,7,7,7,7,7,7,7,7,7,7,7,7,7,7,7,7,7,7,7,7,7,7,7,7,7,7,7,7,7,7,7,7,7,7,7,7,7,7,7,7,7,7,7,7,8,8,8,8,8,8,8,8,8,8,8,8,8,8,8,8,8,8,8,8,8,8,8,8,8,8,8,8,8,8,8,8,8,8,8,8,8,8,8,8,8,8,8,8,8,8,8,8,8,8,8,8,8,8,8,8,8,8,8,8,8,8,8,8,8,8,8,8,8,8,8,8,8,8,8,8,8,8,8,8,8,8,8,8,8,8,8,8,8,8,8,8,8,8,8,8,8,8,8,8,8,8,8,8,8,8,8,8,8,8,8,8,8,8,8,8,8,8,8,8,8,8,8,8,8,8,8,8]⟩
theorem Q1:len8.size=256:=by decide +kernel
theorem len8_all:∀ j:Fin 256,(len8[j.1]'(by rw [Q1];exact j.2)).toNat=(if j.1=0 then 0 else jw j.1+1):=by decide +kernel
theorem len8_eq {k:Nat} (h:k<len8.size) (h1:1<=k):(len8[k]'h).toNat=jw k+1:=by
 have:=len8_all ⟨k,by rw [Q1] at h;exact h⟩;simp only [show ¬ k=0 by omega,if_false] at this;exact this
theorem wrap_two {n m:Nat} (e:n=m) (h:m<100):(.int .i64 (RowKit.wrap64 (RowKit.wrap64 (n:Nat))):Value)=.int .i64 (m:Nat):=by
 subst e;congr 1
 simp only [RowKit.wrap64];omega
theorem wrap_eight {n m:Nat} (e:n+8=m) (h:m<100):(.int .i64 (RowKit.wrap64 (8+RowKit.wrap64 (n:Nat))):Value)=.int .i64 (m:Nat):=by
 subst e;congr 1
 simp only [RowKit.wrap64];omega
theorem log2_lt {k b:Nat} (h1:1<=k) (h:k<2 ^ b):jw k<b:=(Nat.log2_lt (by omega)).2 h
theorem log2_high {k:Nat} (h:256<=k):jw k=jw (k/256)+8:=by
 have h0:k/256≠0:=(by omega);obtain ⟨h1,h2⟩:=(J7 h0).1 rfl;refine (J7 (by omega)).2 ⟨?_,?_⟩
 ·rw [Nat.pow_add];omega
 ·rw [show jw (k/256)+8+1=(jw (k/256)+1)+8 by omega,Nat.pow_add];omega
theorem len64_c (k:Nat) (h1:1<=k) (hk:k<65536) (w:World):Calls z9 175 #[.int .u64 k] w fun e w'=>e=.returned (.int .i64 (jw k+1:Nat))∧w'=w:=by
 have d1:decide ((4294967296:Int)<=(k:Int))=false:=(by simp;omega);have d1n:decide (4294967296<=k)=false:=(by simp;omega);have d2:decide ((65536:Int)<=(k:Int))=false:=(by simp;omega);have d2n:decide (65536<=k)=false:=(by simp;omega);by_cases h8:256<=k
 ·have d3:decide ((256:Int)<=(k:Int))=true:=(by simp;omega);have d3n:decide (256<=k)=true:=(by simp;omega);go_enter Tryz.func175,Tryz.ntmps175;go_wp2_with (first|refine sL ?_|(refine sS ?_;clear H;intros;rename_i H));go_ret;have hk2:k/256<len8.size:=(by rw [Q1];omega);have hlg:=log2_lt (k:=k) (b:=16) h1 (by omega);have he:=len8_eq hk2 (by omega);have hhi:=log2_high h8;exact ⟨congrArg Ending.returned (wrap_eight (n:=(len8[k/256]'hk2).toNat) (by omega) (by omega)),rfl⟩
 ·have d3:decide ((256:Int)<=(k:Int))=false:=(by simp;omega);have d3n:decide (256<=k)=false:=(by simp;omega);go_enter Tryz.func175,Tryz.ntmps175;go_wp2_with (first|refine sL ?_|(refine sS ?_;clear H;intros;rename_i H));go_ret;have hk2:k<len8.size:=(by rw [Q1];omega);have hlg:=log2_lt (k:=k) (b:=16) h1 (by omega);exact ⟨congrArg Ending.returned (wrap_two (n:=(len8[k]'hk2).toNat) (len8_eq hk2 h1) (by omega)),rfl⟩
theorem log_c (k:Nat) (h1:1<=k) (hk:k<65536) (w:World):Calls z9 153 #[.int .i64 k] w fun e w'=>e=.returned (.int .i64 (jw k:Nat))∧w'=w:=by
 have d1:decide ((k:Int)<1)=false:=(by simp;omega);have d1n:decide (k<1)=false:=(by simp;omega);have hlg:=log2_lt (k:=k) (b:=16) h1 (by omega);obtain ⟨L,hL⟩:∃ L,jw k+1=L:=⟨_,rfl⟩
 have HL:=zh hL;have HC:Hid (∀ w,Calls z9 175 #[.int .u64 k] w fun e w'=>e=.returned (.int .i64 (L:Nat))∧w'=w):=zh fun w=>by rw [← hL];exact len64_c k h1 hk w
 have hL2:L<=17∧1<=L:=(by omega);clear hL;go_enter Tryz.func153,Tryz.ntmps153;go_wp2_with (first|refine sL ?_|(refine sS ?_;clear H;intros;rename_i H)|(go_at_call 175;with_reducible refine same (HC.out _) ?_));go_ret;have h2:=HL.out;refine ⟨congrArg (fun z:Int=>Ending.returned (.int .i64 z)) (?_:(L:Int)-1=((jw k:Nat):Int)),rfl⟩;omega
theorem and_one_w (a:Nat) (ha:a<9223372036854775808):bits .and .i64 (a:Int) 1=((a%2:Nat):Int):=by
 have h1:(BitVec.ofInt 64 (a:Int)).toNat=a:=by
  rw [BitVec.ofInt_natCast,BitVec.toNat_ofNat];exact wV (by omega)
 have h2:(BitVec.ofInt 64 (1:Int)).toNat=1:=rfl;show IntKind.i64.wrap ((BitVec.ofInt 64 (a:Int) &&& BitVec.ofInt 64 (1:Int)).toNat:Int)=_
 rw [BitVec.toNat_and,h1,h2,Nat.and_one_is_mod,IntKind.wrap_i64];omega
def jL (k:Nat) (s:List Tr):List Tr:=(zc k s).flatten
theorem VJ (s:List Tr):jL 1 s=s:=by simp [jL]
theorem Z4 (k:Nat) (s:List Tr):(jL k s).length=k*s.length:=by simp [jL,List.length_flatten,Qd,Xz]
theorem WH (j k:Nat) (s:List Tr):jL j s++jL k s=jL (j+k) s:=by
 simp only [jL,← Ym,List.replicate_append_replicate]
theorem JM (k:Nat) (s:List Tr):jL k s++s=jL (k+1) s:=by rw [← WH,VJ]
def DbRel (X:Px) (N:List Nat) (w:World) (s:List Tr) (k B:Nat) (mm:Nat) (v8 v9:Value) (wr:World):Prop :=
 ∃ (X1:Px) (id c:Nat),v8=.int .i64 (id:Nat)∧v9=.int .i64 ((mm:Int)-1)∧(mm<=B∧c=k/2 ^ mm∧X.Ext X1∧zL X1∧IdIs X1.S id (jL c s)∧X1.S.list.length+4*s.length<=X.S.list.length+4*(c*s.length))∧St w N [pA X1] wr
theorem double_c {X:Px} {a k:Nat} {s:List Tr} (hX:zL X) (ha:IdIs X.S a s) (h1:1<=k) (hk:k<65536) (hl:k*s.length<=262144) (hroom:X.S.list.length+4*(k*s.length)<=X.S.most) (w:World) (h:PH X w) :
  Calls z9 131 #[.pointer (some ⟨X.p,0,none⟩),.int .i64 a,.int .i64 (k:Nat)] w (kU X (jL k s) (4*(k*s.length)) (pA X).fp w):=by
 have h:((pA X).sep deA).ho w:=h;rw [qx] at h;obtain ⟨k1,k2,hdd⟩:=h;have H:=St.one k1;have HK:Ks w (pA X).fp [deA]:=⟨by simpa using k2,by simpa using fun b hb hm=>hdd b hm hb⟩
 generalize (pA X).fp=N at *;clear k1 k2 hdd;obtain ⟨B,hB⟩:∃ B,jw k=B:=⟨_,rfl⟩
 have hB1:=(J7 (show k≠0 by omega)).1 hB;have hB2:B<16:=(by rw [← hB];exact log2_lt h1 (by omega));have HLG:Hid (∀ w,Calls z9 153 #[.int .i64 k] w fun e w'=>e=.returned (.int .i64 (B:Nat))∧w'=w):=zh fun w=>by rw [← hB];exact log_c k h1 hk w
 have HIN:Hid (zL X∧IdIs X.S a s∧1<=k∧k<65536∧k*s.length<=262144∧X.S.list.length+4*(k*s.length)<=X.S.most∧2 ^ B<=k∧k<2 ^ (B+1)):=zh ⟨hX,ha,h1,hk,hl,hroom,hB1.1,hB1.2⟩;clear hX ha h1 hl hroom hB hB1;go_enter Tryz.func131,Tryz.ntmps131;go_wp2_with (first|refine sL ?_|(refine sS ?_;clear H;intros;rename_i H)|(go_at_call 153;with_reducible refine same (HLG.out _) ?_));go_loopg [8,9] B (fun mm v8 v9 wr=>DbRel X N w s k B mm v8 v9 wr);case atStart =>
  refine ⟨X,a,1,rfl,rfl,⟨zt _,?_,.refl _,HIN.out.1,by rw [VJ];exact HIN.out.2.1,by omega⟩,H.picks (.cons pk .nil)⟩;have h3:=HIN.out.2.2.2.2.2.2;rw [Nat.pow_succ] at h3;exact (Nat.div_eq_of_lt_le (by omega) (by omega)).symm
 case round =>
  clear H;obtain ⟨X1,id,c,rfl,rfl,hrel,H⟩:=hrel;have HRL:=zh hrel;rcases qt gk with hm0|hm0
  ·subst hm0;have hid:=hrel.2.2.2.2.1;rw [hrel.2.1,Nat.pow_zero,Nat.div_one] at hid;have hln:=hrel.2.2.2.2.2;rw [hrel.2.1,Nat.pow_zero,Nat.div_one] at hln;have HF:=zh (za hid hln);clear hrel hid hln;rw [show ((0:Nat):Int)-1 = -1 by rfl];go_wp2_with (first|refine sL ?_|(refine sS ?_;clear H;intros;rename_i H));go_ret2;exact ⟨X1,id,rfl,HRL.out.2.2.1,HRL.out.2.2.2.1,HF.out.1,by have:=HF.out.2;omega,H.picks (.cons pk .nil)⟩
  ·obtain ⟨b,rfl⟩:∃ b,gk=b+1:=⟨gk-1,by omega⟩
   rw [show ((b+1:Nat):Int)-1=(b:Nat) by omega];have hb16:b<16:=(by have:=hrel.1;omega);obtain ⟨q,hq⟩:∃ q,k/2 ^ b=q:=⟨_,rfl⟩
   have hc:c=q/2:=(by rw [hrel.2.1,Nat.pow_succ,← Nat.div_div_eq_div_mul,hq]);have hqk:q<=k:=(by rw [← hq];exact Nat.div_le_self _ _);have hqs:q*s.length<=k*s.length:=yc _ hqk;have hcs:(2*c)*s.length<=q*s.length:=yc _ (by omega);have HJ1:Hid (∀ w,((pA X1).sep deA).ho w->Calls z9 94 #[.pointer (some ⟨X.p,0,none⟩),.int .i64 id,.int .i64 id] w (kU X1 (jL (2*c) s) (2*(c*s.length)) (pA X1).fp w)):=zh fun w h=>by
    have h5:=HIN.out;have h6:=HRL.out.2.2.2.2.2;have h7:=HRL.out.2.2.1.le.1;have h8:2*(c*s.length)=(2*c)*s.length:=(by rw [Qq]);have:=join_c HRL.out.2.2.2.1 HRL.out.2.2.2.2.1 HRL.out.2.2.2.2.1 (by rw [Z4];omega) (by rw [Z4];omega) w h;rw [HRL.out.2.2.1.p,WH,Z4] at this;rw [show 2*c=c+c by omega,show 2*(c*s.length)=c*s.length+c*s.length by omega];exact this
   have hqi:(k:Int)/2 ^ b=(q:Nat):=(by rw [← hq];simp);have hand:=and_one_w q (by omega);have HJ2:Hid (∀ (X2:Px) (id2:Nat),X1.Ext X2->zL X2->IdIs X2.S id2 (jL (2*c) s)->X2.S.list.length<=X1.S.list.length+2*(c*s.length)->q%2=1->∀ w,((pA X2).sep deA).ho w->Calls z9 94 #[.pointer (some ⟨X.p,0,none⟩),.int .i64 id2,.int .i64 a] w (kU X2 (jL q s) ((2*c)*s.length+s.length) (pA X2).fp w)):=zh fun X2 id2 q1 q2 q3 q4 q5 w h=>by
    have h5:=HIN.out;have h6:=HRL.out.2.2.2.2.2;have h7:=(HRL.out.2.2.1.trans q1).le.1;have h8:2*(c*s.length)=(2*c)*s.length:=(by rw [Qq]);have h9:(2*c)*s.length+s.length=q*s.length:=(by rw [← XX];congr 1;omega);have:=join_c q2 q3 (HIN.out.2.1.le HIN.out.1.ok (HRL.out.2.2.1.trans q1).le) (by rw [Z4];omega) (by rw [Z4];omega) w h;rw [(HRL.out.2.2.1.trans q1).p,JM,Z4,show 2*c+1=q by omega] at this;exact this
   have HQ:=zh (za hq (za hc (za hqs (za hcs hqk))));clear hrel hc hqs hcs hqk;rcases Nat.mod_two_eq_zero_or_one q with hr|hr
   ·rw [hr] at hand;have hand0:bits .and .i64 (q:Int) 1=0:=hand;have HR:=zh hr;clear hand hr HJ2 hq;go_wp2_with (first|refine sL ?_|(refine sS ?_;clear H;intros;rename_i H)|(go_at_call 94;with_reducible refine zm (HJ1.out _ (H.sepK HK pk pk)) ?_;rintro e9 wc ⟨X2,id2,rfl,y1,y2,y3,y4,hb⟩;have HY:=zh (za y1 (za y2 (za y3 y4)));clear y1 y2 y3 y4;replace H:=zn ((H.pick pk).call hb);clear hb));go_roundg b;case measure=>omega
    case rel =>
     have h5:=HRL.out;have h6:=HQ.out;have h7:=HY.out;have h8:=HR.out;have h9:2*c=q:=(by omega);have hA:(2*c)*s.length=q*s.length:=(by rw [h9]);have hB:2*(c*s.length)=(2*c)*s.length:=(by rw [Qq]);exact ⟨X2,id2,q,rfl,rfl,⟨by omega,h6.1.symm,h5.2.2.1.trans h7.1,h7.2.1,by rw [← h9];exact h7.2.2.1,by omega⟩,H.picks (.cons pk .nil)⟩
   ·rw [hr] at hand;have hand0:bits .and .i64 (q:Int) 1=1:=hand;have HR:=zh hr;clear hand hr hq;go_wp2_with (first|refine sL ?_|(refine sS ?_;clear H;intros;rename_i H)|first|(go_at_call 94;with_reducible refine zm (HJ1.out _ (H.sepK HK pk pk)) ?_;rintro e9 wc ⟨X2,id2,rfl,y1,y2,y3,y4,hb⟩;have HY:=zh (za y1 (za y2 (za y3 y4)));clear y1 y2 y3 y4;replace H:=zn ((H.pick pk).call hb);clear hb)|(go_at_call 94;with_reducible refine zm (HJ2.out X2 id2 HY.out.1 HY.out.2.1 HY.out.2.2.1 HY.out.2.2.2 HR.out _ (H.sepK HK pk pk)) ?_;rintro e9 wc ⟨X3,id3,rfl,y1,y2,y3,y4,hb⟩;have HZ:=zh (za y1 (za y2 (za y3 y4)));clear y1 y2 y3 y4;replace H:=zn ((H.pick pk).call hb);clear hb));go_roundg b;case measure=>omega
    case rel =>
     have h5:=HRL.out;have h6:=HQ.out;have h7:=HY.out;have h8:=HR.out;have h10:=HZ.out;have hA:(2*c)*s.length+s.length=q*s.length:=(by rw [← XX];congr 1;omega);have hB:2*(c*s.length)=(2*c)*s.length:=(by rw [Qq]);exact ⟨X3,id3,q,rfl,rfl,⟨by omega,h6.1.symm,h5.2.2.1.trans (h7.1.trans h10.1),h10.2.1,h10.2.2.1,by omega⟩,H.picks (.cons pk .nil)⟩
end
section
open Go.RowKit Go.Maps
attribute [local go_sem] qw
attribute [local go_sem] StStep jh yJ in
theorem repeat_c {X:Px} {a k:Nat} {s:List Tr} (hX:zL X) (ha:IdIs X.S a s) (hne:s≠[]) (h2:2<=k) (hk:k<65536) (hl:k*s.length<=262144) (hroom:X.S.list.length+4*(k*s.length)<=X.S.most) (w:World) (h:PH X w) :
  Calls z9 104 #[.pointer (some ⟨X.p,0,none⟩),.int .i64 a,.int .i64 (k:Nat)] w (kU X (jL k s) (4*(k*s.length)) (pA X).fp w):=by
 have h:((pA X).sep deA).ho w:=h;rw [qx] at h;obtain ⟨k1,k2,hdd⟩:=h;have H:=St.one k1;have HK:Ks w (pA X).fp [deA]:=⟨by simpa using k2,by simpa using fun b hb hm=>hdd b hm hb⟩
 generalize (pA X).fp=N at *;clear k1 k2 hdd;obtain ⟨T,hd,hc,hT⟩:∃ T,Den X.S a T∧Canon T∧T.lay 0=s:=by
  rcases ha with ⟨h,_⟩|h
  ·exact absurd h hne
  ·exact h
 obtain ⟨n,hn⟩:∃ n,s.length=n:=⟨_,rfl⟩
 have hn1:1<=n:=(by rw [← hn,← hT];exact kL hc);have hkn:k<=k*n:=jg _ hn1;have hnk:n*2<=n*k:=Nat.mul_le_mul_left _ h2;have hcomm:n*k=k*n:=xq _ _;rw [hn] at hl hroom ⊢;have hTl:T.len=n:=(by rw [← xP hc.gd,hT];exact hn);obtain ⟨i,en,hi,hx,hte⟩:=wu hd;obtain ⟨kd,lt,lf,rg,tm,hen,hcase⟩:∃ kd lt lf rg tm:Nat,en.r=⟨kd,lt,lf,rg,tm⟩∧((kd=3∧∃ t,T=.pow t tm∧Den X.S lf t)∨kd≠3):=by
  cases xv hX.ok hx with
  |letter b hb hr hw ht'=>exact ⟨_,_,_,_,_,hr,.inr (by omega)⟩
  |pair l r y z _ _ _ _ he _ _ ht'=>exact ⟨_,_,_,_,_,he,.inr (by omega)⟩
  |pow l j y hl' hy hj he hw hs ht'=>exact ⟨_,_,_,_,_,he,.inl ⟨rfl,_,by rw [← hte,ht'],Kc hy⟩⟩
 obtain ⟨L,hL⟩:∃ n,X.S.list.length=n:=⟨_,rfl⟩
 obtain ⟨tp,htp,htop⟩:=Yg hX ha;have HT:=zh htop;have HXX:=zh hX;have HST:Hid (∀ X2:Px,X.Ext X2->∀ w,(pA X2).ho w->Calls z9 53 #[.pointer (some ⟨X.p,0,none⟩)] w fun e w'=>e=.returned (.pointer (some ⟨X.s,0,none⟩))∧w'=w):=zh fun X2 q w h=>by have:=jJ w h;rwa [q.p,q.s] at this
 have HLE:Hid (∀ w,(pA X).ho w->Calls z9 38 #[.pointer (some ⟨X.s,0,none⟩)] w fun e w'=>e=.returned (.int .i64 (L:Nat))∧w'=w):=zh fun w h=>by have:=Wm w (ke h);rwa [hL] at this
 have HSZ:Hid (∀ X2:Px,X.Ext X2->zL X2->X2.S=X.S->∀ w,(pA X2).ho w->Calls z9 92 #[.pointer (some ⟨X.p,0,none⟩),.int .i64 a] w fun e w'=>e=.returned (.int .i64 (n:Nat))∧St w [] [] w'):=zh fun X2 q1 q2 q3 w h=>by have:=vh q2 (by rw [q3];exact ha) w h;rwa [q1.p,hn] at this
 have HMU:Hid (∀ w,Calls z9 101 #[.int .i64 (n:Nat),.int .i64 (k:Nat)] w fun e w'=>e=.returned (.tuple #[.int .i64 (n*k:Nat),.nilIface])∧w'=w):=zh fun w=>Y4 n k w (by first|omega|(simp only [yH];omega)) (by first|omega|(simp only [yH];omega)) (by first|omega|(simp only [yH];omega))
 have HRU:Hid (∀ X2:Px,X.Ext X2->X2.S=X.S->∀ w,(pA X2).ho w->Calls z9 68 #[.pointer (some ⟨X.s,0,none⟩),.int .i64 a] w fun e w'=>e=.returned (.tuple #[.agg #[.int .i64 kd,.int .u8 lt,.int .i64 lf,.int .i64 rg,.int .i64 tm],.nilIface])∧St w [] [] w'):=zh fun X2 q1 q3 w h=>by
  have:=YL (S:=X2.S) (i:=i) (x:=en) (by rw [q3];exact hx) (a:Int) (by omega) w (ke h);rw [hen,q1.s] at this;exact this
 have HAP:Hid (∀ X2:Px,X.Ext X2->zL X2->X2.S=X.S->∀ w,((pA X2).sep deA).ho w->Calls z9 130 #[.pointer (some ⟨X.p,0,none⟩),.int .i64 a] w fun e w'=>∃ (b:Bool) (X':Px),e=.returned (.bool b)∧(b=true->∀ k,2<=k->Canon (.pow T k)∧(Tr.pow T k).lay 0=(zc k (T.lay 0)).flatten)∧X2.Ext X'∧zL X'∧X'.S=X2.S∧St w (pA X2).fp [pA X'] w'):=zh fun X2 q1 q2 q3 w h=>by
  have:=apart_c q2 (by rw [q3];exact hd:Den X2.S a T) hc (by rw [hT,hn];omega) w h;rwa [q1.p] at this
 have HPW:Hid (∀ X2:Px,X.Ext X2->zL X2->X2.S=X.S->Canon (.pow T k)∧(Tr.pow T k).lay 0=(zc k (T.lay 0)).flatten->∀ w,(pA X2).ho w->Calls z9 70 #[.pointer (some ⟨X.s,0,none⟩),.int .i64 a,.int .i64 (k:Nat)] w fun e w'=>∃ (X':Px) (id:Nat),e=.returned (.tuple #[.int .i64 id,.nilIface])∧X2.Ext X'∧zL X'∧IdIs X'.S id (jL k s)∧X'.S.list.length<=X2.S.list.length+1∧St w (pA X2).fp [pA X'] w'):=zh fun X2 q1 q2 q3 qc w h=>by
  have:=XM (k:=k) (by rw [q3];exact hd:Den X2.S a T) h2 (by omega) (by rw [hTl];simp only [yH];omega) q2 w h;rw [q1.s] at this;refine this.mono ?_;rintro e w' ⟨X',id,c,rfl,m1,m2,m3,m4,m5⟩;rcases m4 with ⟨rfl,m4⟩|⟨_,_,_,m4⟩
  ·exact ⟨X',id,rfl,m1,m2,.inr ⟨_,m4,qc.1,by rw [qc.2,hT];rfl⟩,m3,m5⟩
  ·have:=q1.le.1;rw [q3] at m4;omega
 have HDB:Hid (∀ X2:Px,X.Ext X2->zL X2->X2.S=X.S->∀ w,((pA X2).sep deA).ho w->Calls z9 131 #[.pointer (some ⟨X.p,0,none⟩),.int .i64 a,.int .i64 (k:Nat)] w (kU X2 (jL k s) (4*(k*n)) (pA X2).fp w)):=zh fun X2 q1 q2 q3 w h=>by
  have h7:=q1.le.1;have:=double_c (X:=X2) (a:=a) (k:=k) (s:=s) q2 (by rw [q3];exact ha) (by omega) hk (by rw [hn];exact hl) (by rw [hn,q3];exact hroom) w h;rwa [q1.p,hn] at this
 have d1:decide ((a:Int)<0)=false:=(by simp);have d2:decide ((L:Int)<(a:Int))=false:=(by have:=hd.2.1;simp;omega);have d2n:decide (L<a)=false:=(by have:=hd.2.1;simp;omega);have d3:decide ((k:Int)<0)=false:=(by simp);have d4:((a:Int)==0)=false:=(by have:=hd.1;simp;omega);have d5:((k:Int)==0)=false:=(by simp;omega);have d6:((k:Int)==1)=false:=(by simp;omega);have d7:decide ((32768:Int)<(tp:Int))=false:=(by simp;omega);have d7n:decide (32768<tp)=false:=(by simp;omega);have HTN:Hid (Den X.S a T∧Canon T∧T.lay 0=s∧T.len=n∧1<=n∧2<=k∧k*n<=262144∧X.S.list.length+4*(k*n)<=X.S.most∧k<=k*n):=zh ⟨hd,hc,hT,hTl,hn1,h2,hl,hroom,hkn⟩;rcases hcase with ⟨rfl,t,hTt,hlf⟩|hkd
 ·have hnt:t.len*tm=n:=(by rw [← hTl,hTt];rfl);have htm2:2<=tm:=(by have:=hc.gd.2;rw [hTt] at this;exact this.2);have hctk:Canon (.pow t (tm*k)):=by
   rw [hTt] at hc;exact J9 hc (qu htm2 (jg _ (by omega)))
  have hpos:1<=t.len:=by
   rcases qt t.len with h0|h0
   ·rw [h0] at hnt;omega
   ·exact h0
  have htmn:tm<=n:=(by rw [← hnt];exact wU _ hpos);have htk:tm*k<=n*k:=yc _ htmn;have htmk:tm<=tm*k:=jg _ (by omega);have hlay:(Tr.pow t (tm*k)).lay 0=jL k s:=by
   rw [VG hctk.gd];have hp:=VG (s:=t) (k:=tm) (by rw [← hTt];exact hc.gd);rw [← hT,hTt,hp];clear htk hctk;show jL (tm*k) (t.lay 0)=jL k (jL tm (t.lay 0))
   clear HT HST HLE HSZ HMU HRU HAP HPW HDB HTN hroom hl hkn hnk hcomm hk h2 d3 d5 d6 htmk;induction k with
   |zero=>simp [jL]
   |succ k ih=>rw [← JM,← ih,WH,Nat.mul_succ]
  obtain ⟨tk,htkk⟩:∃ x,tm*k=x:=⟨_,rfl⟩
  have HPM:Hid (∀ X2:Px,X.Ext X2->zL X2->X2.S=X.S->∀ w,(pA X2).ho w->Calls z9 70 #[.pointer (some ⟨X.s,0,none⟩),.int .i64 lf,.int .i64 (tk:Nat)] w fun e w'=>∃ (X':Px) (id:Nat),e=.returned (.tuple #[.int .i64 id,.nilIface])∧X2.Ext X'∧zL X'∧IdIs X'.S id (jL k s)∧X'.S.list.length<=X2.S.list.length+1∧St w (pA X2).fp [pA X'] w'):=zh fun X2 q1 q2 q3 w h=>by
   have hlen:t.len*tk<=yH:=(by rw [← htkk,← Qq,hnt];simp only [yH];omega);have:=XM (k:=tk) (by rw [q3];exact hlf:Den X2.S lf t) (by omega) (by omega) hlen q2 w h;rw [q1.s] at this;refine this.mono ?_;rintro e w' ⟨X',id,c,rfl,m1,m2,m3,m4,m5⟩;rcases m4 with ⟨rfl,m4⟩|⟨_,_,_,m4⟩
   ·exact ⟨X',id,rfl,m1,m2,.inr ⟨_,m4,by rw [← htkk];exact hctk,by rw [← htkk];exact hlay⟩,m3,m5⟩
   ·have:=q1.le.1;rw [q3] at m4;omega
  have HTK2:Hid (IntKind.i64.wrap ((tm:Int)*(k:Int))=(tk:Nat)):=zh (by
   rw [← XT,htkk,IntKind.wrap_i64];omega)
  have HTK3:Hid (tk<=262144):=zh (by omega);clear hX ha hd hc hT hTl hx hte hen hL hroom hl hkn hnk hcomm hn hTt hlf hnt htm2 hctk hpos htmn htk htmk hlay htkk hi htop;go_enter Tryz.func104,Tryz.ntmps104;go_wp2_with (first|refine sL ?_|(refine sS ?_;clear H;intros;rename_i H)|(go_at_call 53;first|(with_reducible refine same (HST.out X (.refl _) _ (H.get pk)) ?_)|(with_reducible refine same (HST.out X2 HY.out.1 _ (H.get pk)) ?_)|(with_reducible refine same (HST.out X3 (HY.out.1.trans HZ.out.1) _ (H.get pk)) ?_))|(go_at_call 38;with_reducible refine same (HLE.out _ (H.get pk)) ?_)|(go_at_call 91;with_reducible refine zm (HT.out X _ (.refl _) HXX.out rfl (H.sepK HK pk pk)) ?_;rintro e9 wc ⟨X2,y1,y2,y3,rfl,hb⟩;have HY:=zh (za y1 (za y2 y3));clear y1 y2 y3;replace H:=zn ((H.pick pk).call hb);clear hb)|(go_at_call 92;with_reducible refine zm (HSZ.out X2 HY.out.1 HY.out.2.1 HY.out.2.2 _ (H.get pk)) ?_;rintro e9 wc ⟨rfl,hb⟩;replace H:=H.grew hb.below;clear hb)|(go_at_call 101;with_reducible refine same (HMU.out _) ?_)|(go_at_call 68;with_reducible refine zm (HRU.out X2 HY.out.1 HY.out.2.2 _ (H.get pk)) ?_;rintro e9 wc ⟨rfl,hb⟩;replace H:=H.grew hb.below;clear hb));have HSTx:=zh (HST.out X2 HY.out.1);rename_i br w1 wr K9 a9;replace H:St w N [pA X2,blk br (.cells #[.int .i64 3,.int .u8 lt,.int .i64 lf,.int .i64 rg,.int .i64 tm] 131)] wr:=H.picks (.cons (A:=pA X2) pk (.cons (A:=blk br (.cells #[.int .i64 3,.int .u8 lt,.int .i64 lf,.int .i64 rg,.int .i64 tm] 131)) pk .nil));refine zN 13 [⟨[],fun v _=>v=.pointer (some ⟨X.p,0,none⟩)⟩,⟨[0],fun v _=>v=.pointer (some ⟨X.s,0,none⟩)⟩,⟨[],fun v _=>v=.pointer (some ⟨br,2,none⟩)⟩,⟨[2],fun v _=>v=.int .i64 lf⟩,⟨[],fun v _=>v=.pointer (some ⟨br,4,none⟩)⟩,⟨[4],fun v _=>v=.int .i64 tm⟩,⟨[],fun v _=>v=.int .i64 k⟩,⟨[5,6],fun v _=>v=.int .i64 (tk:Nat)⟩,⟨[1,3,7],fun v _=>∃ id:Nat,v=.tuple #[.int .i64 id,.nilIface]⟩,⟨[8],fun v ds=>∃ id:Nat,ds=[.tuple #[.int .i64 id,.nilIface]]∧v=.int .i64 id⟩,⟨[8],fun v ds=>∃ id:Nat,ds=[.tuple #[.int .i64 id,.nilIface]]∧v=.nilIface⟩,⟨[9],fun v ds=>ds=[v]⟩,⟨[10],fun v ds=>ds=[v]⟩] [8] [[0],[0],[0],[0],[0],[0],[0],[0],[0],[1],[1],[1],[1]] [fun _ wx=>St w N [pA X2,blk br (.cells #[.int .i64 3,.int .u8 lt,.int .i64 lf,.int .i64 rg,.int .i64 tm] 131)] wx,fun vals wx=>∃ (X5:Px) (id:Nat),vals 8=.tuple #[.int .i64 id,.nilIface]∧(X2.Ext X5∧zL X5∧IdIs X5.S id (jL k s)∧X5.S.list.length<=X2.S.list.length+1)∧St w N [pA X5,blk br (.cells #[.int .i64 3,.int .u8 lt,.int .i64 lf,.int .i64 rg,.int .i64 tm] 131)] wx]
   [[],[(0,78)],[],[(2,80)],[],[(4,82)],[],[(5,83),(6,84)],[(1,79),(3,81),(7,85)],[(8,86)],[(8,86)],[(9,87)],[(10,88)]] [(0,78),(1,79),(2,80),(3,81),(4,82),(5,83),(6,84),(7,85),(8,86),(9,87),(10,88),(11,6),(12,7)] (by kernel_rfl) (by kernel_rfl) H.drew ⟨⟨qo,trivial⟩,⟨?_,trivial⟩,⟨qo,trivial⟩,⟨?_,trivial⟩,⟨qo,trivial⟩,⟨?_,trivial⟩,⟨qo,trivial⟩,⟨?_,trivial⟩,⟨?_,trivial⟩,⟨?_,trivial⟩,⟨?_,trivial⟩,⟨?_,trivial⟩,⟨?_,trivial⟩,trivial⟩ ?_
  ·intro vals wx hd HC;simp only [GF] at hd;have H:=HC;simp only [CA] at H;simp only [PS,hd];go_simp;with_reducible refine zm (HSTx.out _ (H.get pk)) ?_
   rintro e wz ⟨rfl,rfl⟩;exact ⟨_,rfl,rfl,HC⟩
  ·intro vals wx hd HC;simp only [GF] at hd;have H:=HC;simp only [CA] at H;simp only [PS,hd];refine StStep.celC rfl rfl rfl rfl (zW (H.get (A:=blk br (.cells #[.int .i64 3,.int .u8 lt,.int .i64 lf,.int .i64 rg,.int .i64 tm] 131)) pk) rfl) ⟨rfl,HC⟩
  ·intro vals wx hd HC;simp only [GF] at hd;have H:=HC;simp only [CA] at H;simp only [PS,hd];refine StStep.celC rfl rfl rfl rfl (zW (H.get (A:=blk br (.cells #[.int .i64 3,.int .u8 lt,.int .i64 lf,.int .i64 rg,.int .i64 tm] 131)) pk) rfl) ⟨rfl,HC⟩
  ·intro vals wx hd HC;simp only [GF] at hd;have H:=HC;simp only [CA] at H;simp only [PS,hd];go_simp;first|exact HC|exact ⟨rfl,HC⟩|exact ⟨HTK2.out,HC⟩|(rw [HTK2.out];exact ⟨rfl,HC⟩)
  ·intro vals wx hd HC;simp only [GF] at hd;obtain ⟨h1,h3,h7⟩:=hd;have H:=HC;simp only [CA] at H;simp only [PS,h1,h3,h7];clear h1 h3 h7 HC;go_simp;with_reducible refine zm (HPM.out X2 HY.out.1 HY.out.2.1 HY.out.2.2 _ (H.get pk)) ?_
   rintro e wz ⟨X5,id5,rfl,y1,y2,y3,y4,hb⟩;have H2:=(H.pick pk).call hb;exact ⟨_,rfl,⟨_,rfl⟩,X5,id5,rfl,⟨y1,y2,y3,y4⟩,by simpa using H2⟩
  ·intro vals wx hd HC;simp only [GF] at hd;have h8:=hd;clear hd;have H:=HC;simp only [CA] at H;obtain ⟨X5,id5,hv8,hj5,H⟩:=H;simp only [PS];have e8:vals 8=.tuple #[.int .i64 id5,.nilIface]:=hv8;simp only [e8];clear h8;go_simp;first|exact ⟨⟨id5,by simp [e8],rfl⟩,HC⟩|exact ⟨⟨id5,rfl⟩,HC⟩|exact ⟨rfl,HC⟩|exact HC|exact ⟨⟨⟨id5,rfl⟩,rfl⟩,HC⟩|exact ⟨⟨id5,rfl,rfl⟩,HC⟩|fail "Z9"
  ·intro vals wx hd HC;simp only [GF] at hd;have h8:=hd;clear hd;have H:=HC;simp only [CA] at H;obtain ⟨X5,id5,hv8,hj5,H⟩:=H;simp only [PS];have e8:vals 8=.tuple #[.int .i64 id5,.nilIface]:=hv8;simp only [e8];clear h8;go_simp;first|exact ⟨⟨id5,by simp [e8],rfl⟩,HC⟩|exact ⟨⟨id5,rfl⟩,HC⟩|exact ⟨rfl,HC⟩|exact HC|exact ⟨⟨⟨id5,rfl⟩,rfl⟩,HC⟩|exact ⟨⟨id5,rfl,rfl⟩,HC⟩|fail "Z9"
  ·intro vals wx hd HC;simp only [GF] at hd;have h9:=hd;clear hd;have H:=HC;simp only [CA] at H;obtain ⟨X5,id5,hv8,hj5,H⟩:=H;simp only [PS];clear h9;go_simp;first|exact HC|exact ⟨rfl,HC⟩
  ·intro vals wx hd HC;simp only [GF] at hd;have h10:=hd;clear hd;have H:=HC;simp only [CA] at H;obtain ⟨X5,id5,hv8,hj5,H⟩:=H;simp only [PS];clear h10;go_simp;first|exact HC|exact ⟨rfl,HC⟩
  intro vals wx hd HC;have h8:=hd.2.2.2.2.2.2.2.2.1;have h9:=hd.2.2.2.2.2.2.2.2.2.1;have h10:=hd.2.2.2.2.2.2.2.2.2.2.1;have h11:=hd.2.2.2.2.2.2.2.2.2.2.2.1;have h12:=hd.2.2.2.2.2.2.2.2.2.2.2.2.1;simp only [CA] at HC;obtain ⟨X5,id5,hv8,hj5,H⟩:=HC;simp only [GF] at hd;simp only [PS,hd];clear hd;have e11:vals 11=.int .i64 id5:=by
   obtain ⟨q,q1,q2⟩:=(h9:∃ id:Nat,[vals 8]=[.tuple #[.int .i64 id,.nilIface]]∧vals 9=.int .i64 id)
   replace q1:[vals 8]=[Value.tuple #[.int .i64 q,.nilIface]]:=q1;rw [hv8] at q1;simp only [Zt.injEq,and_true,Value.tuple.injEq,Array.mk.injEq,Value.int.injEq,true_and] at q1;rw [X8 (show [vals 9]=[vals 11] from h11),q2,q1]
  have e12:vals 12=.nilIface:=by
   obtain ⟨q,q1,q2⟩:=(h10:∃ id:Nat,[vals 8]=[.tuple #[.int .i64 id,.nilIface]]∧vals 10=.nilIface)
   rw [X8 (show [vals 10]=[vals 12] from h12),q2]
  simp only [hv8,e11,e12];go_wp2_with (first|refine sL ?_|(refine sS ?_;clear H;intros;rename_i H));go_ret2;exact ⟨X5,id5,rfl,HY.out.1.trans hj5.1,hj5.2.1,hj5.2.2.1,by have h1:=hj5.2.2.2;rw [HY.out.2.2] at h1;have:=HTN.out;omega,H.picks (.cons pk .nil)⟩
 ·have d8:((kd:Int)==3)=false:=(by simp;omega);clear hX ha hd hc hT hTl hx hte hen hL hroom hl hkn hnk hcomm hn hi htop hkd;go_enter Tryz.func104,Tryz.ntmps104;go_wp2_with (first|refine sL ?_|(refine sS ?_;clear H;intros;rename_i H)|(go_at_call 53;first|(with_reducible refine same (HST.out X (.refl _) _ (H.get pk)) ?_)|(with_reducible refine same (HST.out X2 HY.out.1 _ (H.get pk)) ?_)|(with_reducible refine same (HST.out X3 (HY.out.1.trans HZ.out.1) _ (H.get pk)) ?_))|(go_at_call 38;with_reducible refine same (HLE.out _ (H.get pk)) ?_)|(go_at_call 91;with_reducible refine zm (HT.out X _ (.refl _) HXX.out rfl (H.sepK HK pk pk)) ?_;rintro e9 wc ⟨X2,y1,y2,y3,rfl,hb⟩;have HY:=zh (za y1 (za y2 y3));clear y1 y2 y3;replace H:=zn ((H.pick pk).call hb);clear hb)|(go_at_call 92;with_reducible refine zm (HSZ.out X2 HY.out.1 HY.out.2.1 HY.out.2.2 _ (H.get pk)) ?_;rintro e9 wc ⟨rfl,hb⟩;replace H:=H.grew hb.below;clear hb)|(go_at_call 101;with_reducible refine same (HMU.out _) ?_)|(go_at_call 68;with_reducible refine zm (HRU.out X2 HY.out.1 HY.out.2.2 _ (H.get pk)) ?_;rintro e9 wc ⟨rfl,hb⟩;replace H:=H.grew hb.below;clear hb)|(go_at_call 130;with_reducible refine zm (HAP.out X2 HY.out.1 HY.out.2.1 HY.out.2.2 _ (H.sepK HK pk pk)) ?_;rintro e9 wc ⟨ap,X3,rfl,y0,y1,y2,y3,hb⟩;have HZ:=zh (za y1 (za y2 (za y3 y0)));clear y1 y2 y3 y0;replace H:=zn ((H.pick pk).call hb);clear hb))
  ·have hap:ap=true:=(by assumption);have HQC:=zh (HZ.out.2.2.2 hap k HTN.out.2.2.2.2.2.1);go_at_call 70;with_reducible refine zm (HPW.out X3 (HY.out.1.trans HZ.out.1) HZ.out.2.1 (HZ.out.2.2.1.trans HY.out.2.2) HQC.out _ (H.get pk)) ?_;rintro e9 wc ⟨X4,id4,rfl,y1,y2,y3,y4,hb⟩;have HW:=zh (za y1 (za y2 (za y3 y4)));clear y1 y2 y3 y4;replace H:=zn ((H.pick pk).call hb);clear hb
   go_wp2_with (first|refine sL ?_|(refine sS ?_;clear H;intros;rename_i H));go_ret2;exact ⟨X4,id4,rfl,HY.out.1.trans (HZ.out.1.trans HW.out.1),HW.out.2.1,HW.out.2.2.1,by have h1:=HW.out.2.2.2;rw [HZ.out.2.2.1,HY.out.2.2] at h1;have:=HTN.out;omega,H.picks (.cons pk .nil)⟩
  ·go_at_call 131;with_reducible refine zm (HDB.out X3 (HY.out.1.trans HZ.out.1) HZ.out.2.1 (HZ.out.2.2.1.trans HY.out.2.2) _ (H.sepK HK pk pk)) ?_;rintro e9 wc ⟨X4,id4,rfl,y1,y2,y3,y4,hb⟩;have HW:=zh (za y1 (za y2 (za y3 y4)));clear y1 y2 y3 y4;replace H:=zn ((H.pick pk).call hb);clear hb
   go_wp2_with (first|refine sL ?_|(refine sS ?_;clear H;intros;rename_i H));go_ret2;exact ⟨X4,id4,rfl,HY.out.1.trans (HZ.out.1.trans HW.out.1),HW.out.2.1,HW.out.2.2.1,by have h1:=HW.out.2.2.2;rw [HZ.out.2.2.1,HY.out.2.2] at h1;exact h1,H.picks (.cons pk .nil)⟩
end
section
open Go.RowKit Go.Maps
attribute [local go_sem] qw
def JnRel (N:List Nat) (X:Px) (w:World) (mm:Nat) (v:Value) (wr:World):Prop :=
 ∃ (X1:Px),((v=.int .i64 0∧mm=2)∨(v=.int .i64 1∧mm=1)∨(v=.int .i64 2∧mm=0))∧(X.Ext X1∧zL X1∧X1.S=X.S)∧St w N [pA X1] wr
theorem joinE_c {X:Px} {a b:Nat} {sa sb:List Tr} (hX:zL X) (ha:IdIs X.S a sa) (hb:IdIs X.S b sb) (hl:sa.length+sb.length<=1048576) (hroom:X.S.list.length+(sa.length+sb.length)<=X.S.most) (w:World) (h:PH X w) :
  Calls z9 105 #[.pointer (some ⟨X.p,0,none⟩),.int .i64 a,.int .i64 b] w (kU X (sa++sb) (sa.length+sb.length) (pA X).fp w):=by
 have h:((pA X).sep deA).ho w:=h;rw [qx] at h;obtain ⟨k1,k2,hdd⟩:=h;have H:=St.one k1;have HK:Ks w (pA X).fp [deA]:=⟨by simpa using k2,by simpa using fun b hb hm=>hdd b hm hb⟩
 generalize (pA X).fp=N at *;clear k1 k2 hdd;have hLa:=Ko ha;have hLb:=Ko hb;obtain ⟨L,hL⟩:∃ n,X.S.list.length=n:=⟨_,rfl⟩
 rw [hL] at hLa hLb;obtain ⟨la,hla,htpa⟩:=Yg hX ha;obtain ⟨lb,hlb,htpb⟩:=Yg hX hb;have HTA:=zh htpa;have HTB:=zh htpb;have HST:Hid (∀ X2:Px,X.Ext X2->∀ w,(pA X2).ho w->Calls z9 53 #[.pointer (some ⟨X.p,0,none⟩)] w fun e w'=>e=.returned (.pointer (some ⟨X.s,0,none⟩))∧w'=w):=zh fun X2 q w h=>by have:=jJ w h;rwa [q.p,q.s] at this
 have HLE:Hid (∀ X2:Px,X.Ext X2->X2.S=X.S->∀ w,(pA X2).ho w->Calls z9 38 #[.pointer (some ⟨X.s,0,none⟩)] w fun e w'=>e=.returned (.int .i64 (L:Nat))∧w'=w):=zh fun X2 q e w h=>by have:=Wm w (ke h);rwa [e,hL,q.s] at this
 obtain ⟨na,hna⟩:∃ n,sa.length=n:=⟨_,rfl⟩
 obtain ⟨nb,hnb⟩:∃ n,sb.length=n:=⟨_,rfl⟩
 obtain ⟨sm,hsm⟩:∃ n,na+nb=n:=⟨_,rfl⟩
 rw [hna,hnb,hsm] at hl hroom ⊢;have HSA:Hid (∀ X1:Px,X.Ext X1->zL X1->X1.S=X.S->∀ w,(pA X1).ho w->Calls z9 92 #[.pointer (some ⟨X.p,0,none⟩),.int .i64 a] w fun e w'=>e=.returned (.int .i64 (na:Nat))∧St w [] [] w'):=zh fun X1 q1 q2 q3 w h=>by have:=vh q2 (by rw [q3];exact ha) w h;rwa [q1.p,hna] at this
 have HSB:Hid (∀ X1:Px,X.Ext X1->zL X1->X1.S=X.S->∀ w,(pA X1).ho w->Calls z9 92 #[.pointer (some ⟨X.p,0,none⟩),.int .i64 b] w fun e w'=>e=.returned (.int .i64 (nb:Nat))∧St w [] [] w'):=zh fun X1 q1 q2 q3 w h=>by have:=vh q2 (by rw [q3];exact hb) w h;rwa [q1.p,hnb] at this
 have HAD:Hid (∀ w,Calls z9 61 #[.int .i64 (na:Nat),.int .i64 (nb:Nat)] w fun e w'=>e=.returned (.tuple #[.int .i64 (sm:Nat),.nilIface])∧w'=w):=zh fun w=>by rw [← hsm];exact QV na nb w (show na+nb<=1152921504606846976 by omega)
 have HJO:Hid (∀ X1:Px,X.Ext X1->zL X1->X1.S=X.S->∀ w,((pA X1).sep deA).ho w->Calls z9 94 #[.pointer (some ⟨X.p,0,none⟩),.int .i64 a,.int .i64 b] w (kU X1 (sa++sb) sm (pA X1).fp w)):=zh fun X1 q1 q2 q3 w h=>by
  have:=join_c (X:=X1) (a:=a) (b:=b) (sa:=sa) (sb:=sb) q2 (by rw [q3];exact ha) (by rw [q3];exact hb) (by rw [hna,hnb,hsm];exact hl) (by rw [hna,hnb,hsm,q3];exact hroom) w h;rwa [q1.p,hna,hnb,hsm] at this
 have d1:decide ((a:Int)<0)=false:=(by simp);have d2:decide ((b:Int)<0)=false:=(by simp);have d3:decide ((L:Int)<(a:Int))=false:=(by simp;omega);have d3n:decide (L<a)=false:=(by simp;omega);have d4:decide ((L:Int)<(b:Int))=false:=(by simp;omega);have d4n:decide (L<b)=false:=(by simp;omega);have hix0:∀ wr:World,(Instr.index 226 (.agg #[.int .i64 a,.int .i64 b]) (.int .i64 0)).run z9 wr=.ok (.int .i64 a) wr:=fun wr=>by kernel_rfl
 have hix1:∀ wr:World,(Instr.index 226 (.agg #[.int .i64 a,.int .i64 b]) (.int .i64 1)).run z9 wr=.ok (.int .i64 b) wr:=fun wr=>by kernel_rfl
 have HXX:=zh hX;clear hX ha hb hl hroom htpa htpb hla hlb hLa hLb hL hna hnb hsm;go_enter Tryz.func105,Tryz.ntmps105;go_wp2_with (first|refine sL ?_|(refine sS ?_;clear H;intros;rename_i H)|(go_at_call 53;with_reducible refine same (HST.out X (.refl _) _ (H.get pk)) ?_));go_loopg [23] 2 (fun mm v wr=>JnRel N X w mm v wr);case atStart=>exact ⟨X,.inl ⟨rfl,rfl⟩,⟨.refl _,HXX.out,rfl⟩,H.picks (.cons pk .nil)⟩
 case round =>
  clear H;obtain ⟨X1,hk,hx1,H⟩:=hrel;have HX1:=zh hx1;clear hx1;rcases hk with ⟨rfl,rfl⟩|⟨rfl,rfl⟩|⟨rfl,rfl⟩
  ·go_wp2_with (first|refine sL ?_|(refine sS ?_;clear H;intros;rename_i H)|(go_at_call 53;with_reducible refine same (HST.out X1 HX1.out.1 _ (H.get pk)) ?_)|(go_at_call 38;with_reducible refine same (HLE.out X1 HX1.out.1 HX1.out.2.2 _ (H.get pk)) ?_));go_roundg 1;case measure=>omega
   case rel=>exact ⟨X1,.inr (.inl ⟨rfl,rfl⟩),HX1.out,H⟩
  ·go_wp2_with (first|refine sL ?_|(refine sS ?_;clear H;intros;rename_i H)|(go_at_call 53;with_reducible refine same (HST.out X1 HX1.out.1 _ (H.get pk)) ?_)|(go_at_call 38;with_reducible refine same (HLE.out X1 HX1.out.1 HX1.out.2.2 _ (H.get pk)) ?_));go_roundg 0;case measure=>omega
   case rel=>exact ⟨X1,.inr (.inr ⟨rfl,rfl⟩),HX1.out,H⟩
  ·go_wp2_with (first|refine sL ?_|(refine sS ?_;clear H;intros;rename_i H));go_loopg [40] 2 (fun mm v wr=>JnRel N X w mm v wr);case atStart=>exact ⟨X1,.inl ⟨rfl,rfl⟩,HX1.out,H⟩
   case round =>
    clear H HX1;obtain ⟨X1,hk,hx1,H⟩:=hrel;have HX1:=zh hx1;clear hx1;rcases hk with ⟨rfl,rfl⟩|⟨rfl,rfl⟩|⟨rfl,rfl⟩
    ·go_wp2_with (first|refine sL ?_|(refine sS ?_;clear H;intros;rename_i H)|(go_at_call 91;with_reducible refine zm (HTA.out X1 _ HX1.out.1 HX1.out.2.1 HX1.out.2.2 (H.sepK HK pk pk)) ?_;rintro e9 wc ⟨X2,y1,y2,y3,rfl,hb⟩;have HY:=zh (za y1 (za y2 y3));clear y1 y2 y3;replace H:=zn ((H.pick pk).call hb);clear hb));go_roundg 1;case measure=>omega
     case rel=>exact ⟨X2,.inr (.inl ⟨rfl,rfl⟩),⟨HX1.out.1.trans HY.out.1,HY.out.2.1,HY.out.2.2.trans HX1.out.2.2⟩,H.picks (.cons pk .nil)⟩
    ·go_wp2_with (first|refine sL ?_|(refine sS ?_;clear H;intros;rename_i H)|(go_at_call 91;with_reducible refine zm (HTB.out X1 _ HX1.out.1 HX1.out.2.1 HX1.out.2.2 (H.sepK HK pk pk)) ?_;rintro e9 wc ⟨X2,y1,y2,y3,rfl,hb⟩;have HY:=zh (za y1 (za y2 y3));clear y1 y2 y3;replace H:=zn ((H.pick pk).call hb);clear hb));go_roundg 0;case measure=>omega
     case rel=>exact ⟨X2,.inr (.inr ⟨rfl,rfl⟩),⟨HX1.out.1.trans HY.out.1,HY.out.2.1,HY.out.2.2.trans HX1.out.2.2⟩,H.picks (.cons pk .nil)⟩
    ·go_wp2_with (first|refine sL ?_|(refine sS ?_;clear H;intros;rename_i H)|(go_at_call 92;(first|(with_reducible refine zm (HSA.out X1 HX1.out.1 HX1.out.2.1 HX1.out.2.2 _ (H.get pk)) ?_)|(with_reducible refine zm (HSB.out X1 HX1.out.1 HX1.out.2.1 HX1.out.2.2 _ (H.get pk)) ?_));rintro e9 wc ⟨rfl,hb⟩;replace H:=H.grew hb.below;clear hb)|(go_at_call 61;with_reducible refine same (HAD.out _) ?_)|(go_at_call 94;with_reducible refine zm (HJO.out X1 HX1.out.1 HX1.out.2.1 HX1.out.2.2 _ (H.sepK HK pk pk)) ?_;rintro e9 wc ⟨X2,id2,rfl,y1,y2,y3,y4,hb⟩;have HY:=zh (za y1 (za y2 (za y3 y4)));clear y1 y2 y3 y4;replace H:=zn ((H.pick pk).call hb);clear hb));go_ret2;exact ⟨X2,id2,rfl,HX1.out.1.trans HY.out.1,HY.out.2.1,HY.out.2.2.1,by have:=HY.out.2.2.2;rwa [HX1.out.2.2] at this,H.picks (.cons pk .nil)⟩
end
section
open Go.RowKit Go.Maps
attribute [local go_sem] qw yM
section
variable {P:Program} {ops:Array Oper} {a:Act} {w:World} {o:Oper} {Rr:Value->World->Prop}
theorem StStep.lookC {ty:TypeId} {x y:Operand} {ok:Bool} {vm vk v:Value} (hw:Region.wanted o (yielded ops a.tmps)=true) (ho:o.op=.lookup ty x y ok) (hx:a.eval x=vm) (hy:a.eval y=vk) (hl:(Instr.lookup ty vm vk ok).run P w=.ok v w) (h:Rr v w):StStep P ops o a w Rr :=
 StStep.val hw (by
  unfold execOp;simp only [ho,hx,hy,Sem.run_bind,hl,Result.andThen_ok];rfl) h
end
theorem kn_in {S:Sto} {mp x y:Nat} {K:List (Nat×Nat)} (hS:S.Ok) (hx:x<=1152921504606846976) (hK:KnOk S K) (hy:(x,y)∈K) (ok:Bool) (w:World) (h:(zK z9 26 mp (K.map zP)).ho w):(Instr.lookup 136 (.map (some mp)) (.int .i64 (x:Nat)) ok).run z9 w=.ok (if ok then .tuple #[.int .i64 (y:Nat),.bool true] else .int .i64 (y:Nat)) w:=by
 rcases XH ok hx h with ⟨z,hz,hr⟩|⟨hno,_⟩
 ·have:=(hK _ hy).2.2.uniq hS (hK _ hz).2.2;simp only at this;rw [this];exact hr
 ·exact absurd rfl (hno _ hy)
theorem kn_out {mp x:Nat} {K:List (Nat×Nat)} (hx:x<=1152921504606846976) (hno:∀ q∈K,q.1≠x) (ok:Bool) (w:World) (h:(zK z9 26 mp (K.map zP)).ho w):(Instr.lookup 136 (.map (some mp)) (.int .i64 (x:Nat)) ok).run z9 w=.ok (if ok then .tuple #[.int .i64 0,.bool false] else .int .i64 0) w:=by
 rcases XH ok hx h with ⟨z,hz,hr⟩|⟨_,hr⟩
 ·exact absurd rfl (hno _ hz)
 ·exact hr
theorem kn_dec (x:Nat) (K:List (Nat×Nat)):(∃ y,(x,y)∈K)∨∀ q∈K,q.1≠x:=by
 by_cases h:∃ y,(x,y)∈K
 ·exact .inl h
 ·refine .inr fun q hq e=>h ⟨q.2,?_⟩
  subst e;exact hq
theorem rep_txt (k:Nat) (l:List Nat):((zc k l).flatten).map Tr.leaf=jL k (l.map Tr.leaf):=by
 simp [jL,List.map_flatten,Qd]
attribute [local go_sem] StStep jh yJ in
theorem learn_g {X:Px} {bm mp x:Nat} {K:List (Nat×Nat)} (hX:zL X) (h1:1<=x) (h2:x<=X.S.list.length) (hK:KnOk X.S K) (hn:∀ q∈K,q.1≠x) (ht:(X.S.tr x).len<=300) (hroom:X.S.list.length+1300<X.S.most) (hmost:X.S.most<=1048576) (w:World) (h:((pA X).sep ((blk bm (.cells #[.pointer (some ⟨X.p,0,none⟩),.map (some mp)] 138)).sep (zK z9 26 mp (K.map zP)))).ho w) (hd:(((pA X).sep ((blk bm (.cells #[.pointer (some ⟨X.p,0,none⟩),.map (some mp)] 138)).sep (zK z9 26 mp (K.map zP)))).sep deA).ho w) :
  Calls z9 71 #[.pointer (some ⟨bm,0,none⟩),.int .i64 (x:Nat)] w fun e w'=>∃ (X':Px) (K':List (Nat×Nat)) (c:Nat),e=.returned (.tuple #[.int .i64 c,.nilIface])∧((c=0∧∃ y,K'=K++[(x,y)]∧IdIs X'.S y ((X.S.tr x).txt.map Tr.leaf))∨(X'=X∧K'=K∧Qg X.S x c∧¬ (X.S.tr x).len<=256∧∀ q∈K,q.1≠c))∧X.Ext X'∧zL X'∧X'.S.list.length<=X.S.list.length+vw (X.S.tr x)∧St w ((pA X).sep ((blk bm (.cells #[.pointer (some ⟨X.p,0,none⟩),.map (some mp)] 138)).sep (zK z9 26 mp (K.map zP)))).fp [pA X',blk bm (.cells #[.pointer (some ⟨X.p,0,none⟩),.map (some mp)] 138),zK z9 26 mp (K'.map zP)] w':=by
 by_cases hlow:(X.S.tr x).len<=256
 ·refine (learn_c (L9:=(X.S.tr x).len) hX h1 h2 hn hlow (zt _) (by omega) hmost w h hd).mono ?_;rintro e w' ⟨X',y,rfl,q1,q2,q3,q4,q5⟩;exact ⟨X',_,0,rfl,.inl ⟨rfl,y,rfl,q3⟩,q1,q2,by unfold vw;rw [if_pos hlow];exact q4,q5⟩
 have H:=((St.one h).sep.pick (A:=(((blk bm (.cells #[.pointer (some ⟨X.p,0,none⟩),.map (some mp)] 138)).sep (zK z9 26 mp (K.map zP))))) pk).sep;rw [qx] at hd;have HK:Ks w ((pA X).sep ((blk bm (.cells #[.pointer (some ⟨X.p,0,none⟩),.map (some mp)] 138)).sep (zK z9 26 mp (K.map zP)))).fp [deA]:=⟨by simpa using hd.2.1,by simpa using fun b hb hm=>hd.2.2 b hm hb⟩
 generalize ((pA X).sep ((blk bm (.cells #[.pointer (some ⟨X.p,0,none⟩),.map (some mp)] 138)).sep (zK z9 26 mp (K.map zP)))).fp=N at H HK ⊢;obtain ⟨n,hnn⟩:∃ n,(X.S.tr x).len=n:=⟨_,rfl⟩
 obtain ⟨j,hj⟩:∃ j,x=j+1:=⟨x-1,by omega⟩
 obtain ⟨en,hen⟩:∃ a,X.S.list[j]?=some a:=⟨_,zg (by omega)⟩
 have hlw:en.w.len=n:=(by rw [← hnn,hj];exact (ji hX.ok j en hen).1.symm);have HS:Hid (∀ w,(pA X).ho w->Calls z9 53 #[.pointer (some ⟨X.p,0,none⟩)] w fun e w'=>e=.returned (.pointer (some ⟨X.s,0,none⟩))∧w'=w):=zh fun w h=>jJ w h
 have hW:Hid (∀ w,(pA X).ho w->Calls z9 40 #[.pointer (some ⟨X.s,0,none⟩),.int .i64 (x:Nat)] w fun e w'=>e=.returned (.tuple #[.agg #[.int .i64 (n:Nat),.int .i64 en.w.lines,.int .i64 en.w.head,.int .i64 en.w.tail,.int .u64 en.w.val,.int .u64 en.w.scale],.nilIface])∧St w [] [] w'):=zh fun w h=>by
  have:=Z6 (i:=x) (x:=en) (by rw [hj];exact hen) w (ke h);rw [← hlw];exact this
 have HR:Hid (∀ (y:Nat) w,(((blk bm (.cells #[.pointer (some ⟨X.p,0,none⟩),.map (some mp)] 138)).sep (zK z9 26 mp (K.map zP)))).ho w->Calls z9 103 #[.pointer (some ⟨bm,0,none⟩),.int .i64 (x:Nat),.int .i64 (y:Nat),.nilIface] w fun e w'=>e=.returned .nilIface∧St w (((blk bm (.cells #[.pointer (some ⟨X.p,0,none⟩),.map (some mp)] 138)).sep (zK z9 26 mp (K.map zP)))).fp [blk bm (.cells #[.pointer (some ⟨X.p,0,none⟩),.map (some mp)] 138),zK z9 26 mp ((K++[(x,y)]).map zP)] w'):=zh fun y w h=>WG (by omega) hn w h
 have d1:decide ((n:Int)<=256)=false:=(by simp;omega);have d1n:decide (n<=256)=false:=(by simp;omega);have HLOW:=zh hlow;have hx1:X.S.list[x-1]?=some en:=(by rw [hj];exact hen);have hxb:X.S.list.length<=1048576:=(by omega);have HRUL:∀ (kd lt lf rg tm:Nat),en.r=⟨kd,lt,lf,rg,tm⟩->∀ w,(pA X).ho w->Calls z9 68 #[.pointer (some ⟨X.s,0,none⟩),.int .i64 x] w fun e w'=>e=.returned (.tuple #[.agg #[.int .i64 kd,.int .u8 lt,.int .i64 lf,.int .i64 rg,.int .i64 tm],.nilIface])∧St w [] [] w':=fun kd lt lf rg tm he w h=>by
  have:=YL (S:=X.S) (i:=j) (x:=en) hen (x:Int) (by omega) w (ke h);rw [he] at this;exact this
 have HRO:Hid (X.S.list.length+1300<X.S.most):=zh hroom;have HXX:=zh hX;have HTN:=zh (za ht hnn);clear hnn;obtain ⟨kd,lt,lf,rg,tm,her,hlf,hcase⟩:∃ kd lt lf rg tm:Nat,en.r=⟨kd,lt,lf,rg,tm⟩∧(1<=lf∧lf<x)∧((kd=3∧2<=tm∧X.S.tr x=.pow (X.S.tr lf) tm)∨(kd=2∧1<=rg∧rg<x∧X.S.tr x=.pair (X.S.tr lf) (X.S.tr rg))):=by
  cases xv hX.ok hen with
  |letter b hb hr hw ht'=>exfalso;rw [hj,ht'] at hlow;simp [Tr.len] at hlow
  |pair l r y z hl hr _ _ he _ _ ht'=>exact ⟨_,_,_,_,_,he,by omega,.inr ⟨rfl,by omega,by omega,by rw [hj];exact ht'⟩⟩
  |pow l k y hl hy hk he hw hs ht'=>exact ⟨_,_,_,_,_,he,by omega,.inl ⟨rfl,hk,by rw [hj];exact ht'⟩⟩
 have HRU:=zh (HRUL kd lt lf rg tm her);have HLF:=zh hlf;have hlb:lf<=1152921504606846976:=(by omega);rcases kn_dec lf K with ⟨y1,hy1⟩|hno
 case inr =>
  have HL1:Hid (∀ w,(zK z9 26 mp (K.map zP)).ho w->(Instr.lookup 136 (.map (some mp)) (.int .i64 (lf:Nat)) true).run z9 w=.ok (.tuple #[.int .i64 0,.bool false]) w):=zh fun w h=>kn_out hlb hno true w h
  have HRF:Hid (Qg X.S x lf∧∀ q∈K,q.1≠lf):=zh ⟨⟨hlf.1,en,hx1,by rw [her];exact .inl rfl⟩,hno⟩;clear hX h1 h2 hK hn ht hroom hmost h hd hj hen hlw hx1 hxb HRUL her hlf hcase hno hlb hlow;go_enter Qi,Zw;go_wp2_with (first|refine sL ?_|(refine sS ?_;clear H;intros;rename_i H)|(go_at_call 53;with_reducible refine same (HS.out _ (H.get pk)) ?_)|(go_at_call 40;with_reducible refine zm (hW.out _ (H.get (A:=pA X) pk)) ?_;rintro e9 wc ⟨rfl,hb⟩;replace H:=H.grew hb.below;clear hb)|(go_at_call 68;with_reducible refine zm (HRU.out _ (H.get pk)) ?_;rintro e9 wc ⟨rfl,hb⟩;replace H:=H.grew hb.below;clear hb));rename_i br _ _ _ _;replace H:St w N [pA X,blk bm (.cells #[.pointer (some ⟨X.p,0,none⟩),.map (some mp)] 138),zK z9 26 mp (K.map zP),blk br (.cells #[.int .i64 kd,.int .u8 lt,.int .i64 lf,.int .i64 rg,.int .i64 tm] 131)] _:=H.picks (.cons (A:=pA X) pk (.cons (A:=blk bm (.cells #[.pointer (some ⟨X.p,0,none⟩),.map (some mp)] 138)) pk (.cons (A:=zK z9 26 mp (K.map zP)) pk (.cons (A:=blk br (.cells #[.int .i64 kd,.int .u8 lt,.int .i64 lf,.int .i64 rg,.int .i64 tm] 131)) pk .nil))));refine zN 12 [⟨[],fun v _=>v=.pointer (some ⟨bm,0,none⟩)⟩,⟨[0],fun v _=>v=.pointer (some ⟨bm,0,none⟩)⟩,⟨[1],fun v _=>v=.pointer (some ⟨bm,1,none⟩)⟩,⟨[2],fun v _=>v=.map (some mp)⟩,⟨[],fun v _=>v=.pointer (some ⟨br,2,none⟩)⟩,⟨[4],fun v _=>v=.int .i64 lf⟩,⟨[3,5],fun v _=>v=.tuple #[.int .i64 0,.bool false]⟩,⟨[6],fun v _=>v=.tuple #[.int .i64 0,.bool false]⟩,⟨[7],fun v _=>v=.int .i64 0⟩,⟨[7],fun v _=>v=.bool false⟩,⟨[8],fun v _=>v=.int .i64 0⟩,⟨[9],fun v _=>v=.bool false⟩] [] [[0],[0],[0],[0],[0],[0],[0],[0],[0],[0],[0],[0]] [fun _ wx=>St w N [pA X,blk bm (.cells #[.pointer (some ⟨X.p,0,none⟩),.map (some mp)] 138),zK z9 26 mp (K.map zP),blk br (.cells #[.int .i64 kd,.int .u8 lt,.int .i64 lf,.int .i64 rg,.int .i64 tm] 131)] wx]
   [[],[(0,71)],[(1,72)],[(2,73)],[],[(4,75)],[(3,74),(5,76)],[(6,77)],[(7,70)],[(7,70)],[(8,78)],[(9,79)]] [(0,71),(1,72),(2,73),(3,74),(4,75),(5,76),(6,77),(7,70),(8,78),(9,79),(10,13),(11,14)] (by kernel_rfl) (by kernel_rfl) H.drew ⟨⟨qo,trivial⟩,⟨qo,trivial⟩,⟨qo,trivial⟩,⟨?_,trivial⟩,⟨qo,trivial⟩,⟨?_,trivial⟩,⟨?_,trivial⟩,⟨qo,trivial⟩,⟨qo,trivial⟩,⟨qo,trivial⟩,⟨qo,trivial⟩,⟨qo,trivial⟩,trivial⟩ ?_
  ·intro vals wx hd HC;simp only [GF] at hd;have H:=HC;simp only [CA] at H;simp only [PS,hd];refine StStep.celC rfl rfl rfl rfl (zW (H.get (A:=blk bm (.cells #[.pointer (some ⟨X.p,0,none⟩),.map (some mp)] 138)) pk) rfl) ⟨rfl,HC⟩
  ·intro vals wx hd HC;simp only [GF] at hd;have H:=HC;simp only [CA] at H;simp only [PS,hd];refine StStep.celC rfl rfl rfl rfl (zW (H.get (A:=blk br (.cells #[.int .i64 kd,.int .u8 lt,.int .i64 lf,.int .i64 rg,.int .i64 tm] 131)) pk) rfl) ⟨rfl,HC⟩
  ·intro vals wx hd HC;simp only [GF] at hd;have H:=HC;simp only [CA] at H;simp only [PS,hd];refine StStep.lookC rfl rfl rfl rfl (HL1.out _ (H.get pk)) ⟨rfl,HC⟩
  intro vals wx hd HC;simp only [CA] at HC;have H:=HC;clear HC;simp only [GF] at hd;simp only [PS,hd];clear hd;go_wp2_with (first|refine sL ?_|(refine sS ?_;clear H;intros;rename_i H));go_ret2;exact ⟨X,K,lf,rfl,.inr ⟨rfl,rfl,HRF.out.1,HLOW.out,HRF.out.2⟩,.refl _,HXX.out,Nat.le_add_right _ _,H.picks (.cons pk (.cons pk (.cons pk .nil)))⟩
 have HL1:Hid (∀ w,(zK z9 26 mp (K.map zP)).ho w->(Instr.lookup 136 (.map (some mp)) (.int .i64 (lf:Nat)) true).run z9 w=.ok (.tuple #[.int .i64 (y1:Nat),.bool true]) w):=zh fun w h=>kn_in hX.ok hlb hK hy1 true w h
 have hid1:=(hK _ hy1).2.2;simp only at hid1;rcases hcase with ⟨rfl,htm,htr⟩|⟨rfl,hr1,hr2,htr⟩
 ·have hlen:(X.S.tr lf).len*tm=n:=(by rw [← HTN.out.2,htr];rfl);have hHN:=HTN.out;have hpos:1<=(X.S.tr lf).len:=by
   rcases qt (X.S.tr lf).len with h0|h0
   ·rw [h0] at hlen;omega
   ·exact h0
  have htmn:tm<=n:=(by rw [← hlen];exact wU _ hpos);have hsl:((X.S.tr lf).txt.map Tr.leaf).length=(X.S.tr lf).len:=(by rw [qe,Tr.txt_len]);have htx:(X.S.tr x).txt.map Tr.leaf=jL tm ((X.S.tr lf).txt.map Tr.leaf):=(by rw [htr];exact rep_txt _ _);have hcm:tm*(X.S.tr lf).len=n:=(by rw [xq];exact hlen);have hown:vw (X.S.tr x)=4*n:=by
   unfold vw;rw [if_neg hlow,hHN.2,htr]
  have HRP:Hid (∀ w,((pA X).sep deA).ho w->Calls z9 104 #[.pointer (some ⟨X.p,0,none⟩),.int .i64 (y1:Nat),.int .i64 (tm:Nat)] w (kU X ((X.S.tr x).txt.map Tr.leaf) (vw (X.S.tr x)) (pA X).fp w)):=zh fun w h=>by
   have:=repeat_c (a:=y1) (k:=tm) hX hid1 (fun e=>by rw [e] at hsl;simp at hsl;omega) htm (by omega) (by rw [hsl,hcm];omega) (by rw [hsl,hcm];omega) w h;rw [hsl,hcm,← htx] at this;rw [hown];exact this
  clear hX h1 h2 hK hn ht hroom hmost h hd hj hen hlw hx1 hxb HRUL her hlf hlb hlow hid1 hy1 htm htr hlen hHN hpos htmn hsl htx hcm hown;go_enter Qi,Zw;go_wp2_with (first|refine sL ?_|(refine sS ?_;clear H;intros;rename_i H)|(go_at_call 53;with_reducible refine same (HS.out _ (H.get pk)) ?_)|(go_at_call 40;with_reducible refine zm (hW.out _ (H.get (A:=pA X) pk)) ?_;rintro e9 wc ⟨rfl,hb⟩;replace H:=H.grew hb.below;clear hb)|(go_at_call 68;with_reducible refine zm (HRU.out _ (H.get pk)) ?_;rintro e9 wc ⟨rfl,hb⟩;replace H:=H.grew hb.below;clear hb));rename_i br _ _ _ _;replace H:St w N [pA X,blk bm (.cells #[.pointer (some ⟨X.p,0,none⟩),.map (some mp)] 138),zK z9 26 mp (K.map zP),blk br (.cells #[.int .i64 3,.int .u8 lt,.int .i64 lf,.int .i64 rg,.int .i64 tm] 131)] _:=H.picks (.cons (A:=pA X) pk (.cons (A:=blk bm (.cells #[.pointer (some ⟨X.p,0,none⟩),.map (some mp)] 138)) pk (.cons (A:=zK z9 26 mp (K.map zP)) pk (.cons (A:=blk br (.cells #[.int .i64 3,.int .u8 lt,.int .i64 lf,.int .i64 rg,.int .i64 tm] 131)) pk .nil))));refine zN 12 [⟨[],fun v _=>v=.pointer (some ⟨bm,0,none⟩)⟩,⟨[0],fun v _=>v=.pointer (some ⟨bm,0,none⟩)⟩,⟨[1],fun v _=>v=.pointer (some ⟨bm,1,none⟩)⟩,⟨[2],fun v _=>v=.map (some mp)⟩,⟨[],fun v _=>v=.pointer (some ⟨br,2,none⟩)⟩,⟨[4],fun v _=>v=.int .i64 lf⟩,⟨[3,5],fun v _=>v=.tuple #[.int .i64 (y1:Nat),.bool true]⟩,⟨[6],fun v _=>v=.tuple #[.int .i64 (y1:Nat),.bool true]⟩,⟨[7],fun v _=>v=.int .i64 (y1:Nat)⟩,⟨[7],fun v _=>v=.bool true⟩,⟨[8],fun v _=>v=.int .i64 (y1:Nat)⟩,⟨[9],fun v _=>v=.bool true⟩] [] [[0],[0],[0],[0],[0],[0],[0],[0],[0],[0],[0],[0]] [fun _ wx=>St w N [pA X,blk bm (.cells #[.pointer (some ⟨X.p,0,none⟩),.map (some mp)] 138),zK z9 26 mp (K.map zP),blk br (.cells #[.int .i64 3,.int .u8 lt,.int .i64 lf,.int .i64 rg,.int .i64 tm] 131)] wx]
   [[],[(0,71)],[(1,72)],[(2,73)],[],[(4,75)],[(3,74),(5,76)],[(6,77)],[(7,70)],[(7,70)],[(8,78)],[(9,79)]] [(0,71),(1,72),(2,73),(3,74),(4,75),(5,76),(6,77),(7,70),(8,78),(9,79),(10,13),(11,14)] (by kernel_rfl) (by kernel_rfl) H.drew ⟨⟨qo,trivial⟩,⟨qo,trivial⟩,⟨qo,trivial⟩,⟨?_,trivial⟩,⟨qo,trivial⟩,⟨?_,trivial⟩,⟨?_,trivial⟩,⟨qo,trivial⟩,⟨qo,trivial⟩,⟨qo,trivial⟩,⟨qo,trivial⟩,⟨qo,trivial⟩,trivial⟩ ?_
  ·intro vals wx hd HC;simp only [GF] at hd;have H:=HC;simp only [CA] at H;simp only [PS,hd];refine StStep.celC rfl rfl rfl rfl (zW (H.get (A:=blk bm (.cells #[.pointer (some ⟨X.p,0,none⟩),.map (some mp)] 138)) pk) rfl) ⟨rfl,HC⟩
  ·intro vals wx hd HC;simp only [GF] at hd;have H:=HC;simp only [CA] at H;simp only [PS,hd];refine StStep.celC rfl rfl rfl rfl (zW (H.get (A:=blk br (.cells #[.int .i64 3,.int .u8 lt,.int .i64 lf,.int .i64 rg,.int .i64 tm] 131)) pk) rfl) ⟨rfl,HC⟩
  ·intro vals wx hd HC;simp only [GF] at hd;have H:=HC;simp only [CA] at H;simp only [PS,hd];refine StStep.lookC rfl rfl rfl rfl (HL1.out _ (H.get pk)) ⟨rfl,HC⟩
  intro vals wx hd HC;simp only [CA] at HC;have H:=HC;clear HC;simp only [GF] at hd;simp only [PS,hd];clear hd;go_wp2_with (first|refine sL ?_|(refine sS ?_;clear H;intros;rename_i H));replace H:St w N [pA X,blk bm (.cells #[.pointer (some ⟨X.p,0,none⟩),.map (some mp)] 138),zK z9 26 mp (K.map zP),blk br (.cells #[.int .i64 3,.int .u8 lt,.int .i64 lf,.int .i64 rg,.int .i64 tm] 131)] _:=H.picks (.cons (A:=pA X) pk (.cons (A:=blk bm (.cells #[.pointer (some ⟨X.p,0,none⟩),.map (some mp)] 138)) pk (.cons (A:=zK z9 26 mp (K.map zP)) pk (.cons (A:=blk br (.cells #[.int .i64 3,.int .u8 lt,.int .i64 lf,.int .i64 rg,.int .i64 tm] 131)) pk .nil))));refine zN 13 [⟨[],fun v _=>v=.pointer (some ⟨bm,0,none⟩)⟩,⟨[0],fun v _=>v=.pointer (some ⟨bm,0,none⟩)⟩,⟨[1],fun v _=>v=.pointer (some ⟨bm,0,none⟩)⟩,⟨[2],fun v _=>v=.pointer (some ⟨X.p,0,none⟩)⟩,⟨[],fun v _=>v=.int .i64 (y1:Nat)⟩,⟨[],fun v _=>v=.pointer (some ⟨br,4,none⟩)⟩,⟨[5],fun v _=>v=.int .i64 tm⟩,⟨[3,4,6],fun v _=>∃ id:Nat,v=.tuple #[.int .i64 id,.nilIface]⟩,⟨[7],fun v ds=>ds=[v]⟩,⟨[8],fun v ds=>∃ id:Nat,ds=[.tuple #[.int .i64 id,.nilIface]]∧v=.int .i64 id⟩,⟨[8],fun v ds=>∃ id:Nat,ds=[.tuple #[.int .i64 id,.nilIface]]∧v=.nilIface⟩,⟨[9],fun v ds=>ds=[v]⟩,⟨[10],fun v ds=>ds=[v]⟩] [7] [[0],[0],[0],[0],[0],[0],[0],[0],[1],[1],[1],[1],[1]] [fun _ wx=>St w N [pA X,blk bm (.cells #[.pointer (some ⟨X.p,0,none⟩),.map (some mp)] 138),zK z9 26 mp (K.map zP),blk br (.cells #[.int .i64 3,.int .u8 lt,.int .i64 lf,.int .i64 rg,.int .i64 tm] 131)] wx,fun vals wx=>∃ (X5:Px) (id:Nat),vals 7=.tuple #[.int .i64 id,.nilIface]∧(X.Ext X5∧zL X5∧IdIs X5.S id ((X.S.tr x).txt.map Tr.leaf)∧X5.S.list.length<=X.S.list.length+vw (X.S.tr x))∧St w N [pA X5,blk bm (.cells #[.pointer (some ⟨X.p,0,none⟩),.map (some mp)] 138),zK z9 26 mp (K.map zP),blk br (.cells #[.int .i64 3,.int .u8 lt,.int .i64 lf,.int .i64 rg,.int .i64 tm] 131)] wx]
   [[],[(0,88)],[(1,89)],[(2,90)],[],[],[(5,93)],[(3,91),(4,92),(6,94)],[(7,95)],[(8,87)],[(8,87)],[(9,96)],[(10,97)]] [(0,88),(1,89),(2,90),(3,91),(4,92),(5,93),(6,94),(7,95),(8,87),(9,96),(10,97),(11,15),(12,16)] (by kernel_rfl) (by kernel_rfl) H.drew ⟨⟨qo,trivial⟩,⟨qo,trivial⟩,⟨qo,trivial⟩,⟨?_,trivial⟩,⟨qo,trivial⟩,⟨qo,trivial⟩,⟨?_,trivial⟩,⟨?_,trivial⟩,⟨?_,trivial⟩,⟨?_,trivial⟩,⟨?_,trivial⟩,⟨?_,trivial⟩,⟨?_,trivial⟩,trivial⟩ ?_
  ·intro vals wx hd HC;simp only [GF] at hd;have H:=HC;simp only [CA] at H;simp only [PS,hd];refine StStep.celC rfl rfl rfl rfl (zW (H.get (A:=blk bm (.cells #[.pointer (some ⟨X.p,0,none⟩),.map (some mp)] 138)) pk) rfl) ⟨rfl,HC⟩
  ·intro vals wx hd HC;simp only [GF] at hd;have H:=HC;simp only [CA] at H;simp only [PS,hd];refine StStep.celC rfl rfl rfl rfl (zW (H.get (A:=blk br (.cells #[.int .i64 3,.int .u8 lt,.int .i64 lf,.int .i64 rg,.int .i64 tm] 131)) pk) rfl) ⟨rfl,HC⟩
  ·intro vals wx hd HC;simp only [GF] at hd;obtain ⟨h3,h4,h6⟩:=hd;have H:=HC;simp only [CA] at H;simp only [PS,h3,h4,h6];clear h3 h4 h6 HC;go_simp;with_reducible refine zm (HRP.out _ (H.sepK HK pk pk)) ?_
   rintro e wz ⟨X5,id5,rfl,y1,y2,y3,y4,hb⟩;have H2:=(H.pick pk).call hb;exact ⟨_,rfl,⟨_,rfl⟩,X5,id5,rfl,⟨y1,y2,y3,y4⟩,by simpa using H2⟩
  ·intro vals wx hd HC;simp only [GF] at hd;have h7:=hd;clear hd;have H:=HC;simp only [CA] at H;obtain ⟨X5,id5,hv7,hj5,H⟩:=H;simp only [PS];clear h7;go_simp;first|exact HC|exact ⟨rfl,HC⟩
  ·intro vals wx hd HC;simp only [GF] at hd;have h8:=hd;clear hd;have H:=HC;simp only [CA] at H;obtain ⟨X5,id5,hv7,hj5,H⟩:=H;simp only [PS];have e8:vals 8=.tuple #[.int .i64 id5,.nilIface]:=(by rw [← hv7];exact X8 (show [vals 7]=[vals 8] from h8));simp only [e8];clear h8;go_simp;first|exact ⟨⟨id5,by simp [e8],rfl⟩,HC⟩|exact ⟨⟨id5,rfl⟩,HC⟩|exact ⟨rfl,HC⟩|exact HC|exact ⟨⟨⟨id5,rfl⟩,rfl⟩,HC⟩|exact ⟨⟨id5,rfl,rfl⟩,HC⟩|fail "Z9"
  ·intro vals wx hd HC;simp only [GF] at hd;have h8:=hd;clear hd;have H:=HC;simp only [CA] at H;obtain ⟨X5,id5,hv7,hj5,H⟩:=H;simp only [PS];have e8:vals 8=.tuple #[.int .i64 id5,.nilIface]:=(by rw [← hv7];exact X8 (show [vals 7]=[vals 8] from h8));simp only [e8];clear h8;go_simp;first|exact ⟨⟨id5,by simp [e8],rfl⟩,HC⟩|exact ⟨⟨id5,rfl⟩,HC⟩|exact ⟨rfl,HC⟩|exact HC|exact ⟨⟨⟨id5,rfl⟩,rfl⟩,HC⟩|exact ⟨⟨id5,rfl,rfl⟩,HC⟩|fail "Z9"
  ·intro vals wx hd HC;simp only [GF] at hd;have h9:=hd;clear hd;have H:=HC;simp only [CA] at H;obtain ⟨X5,id5,hv7,hj5,H⟩:=H;simp only [PS];clear h9;go_simp;first|exact HC|exact ⟨rfl,HC⟩
  ·intro vals wx hd HC;simp only [GF] at hd;have h10:=hd;clear hd;have H:=HC;simp only [CA] at H;obtain ⟨X5,id5,hv7,hj5,H⟩:=H;simp only [PS];clear h10;go_simp;first|exact HC|exact ⟨rfl,HC⟩
  intro vals wx hd HC;have h7:=hd.2.2.2.2.2.2.2.1;have h8:=hd.2.2.2.2.2.2.2.2.1;have h9:=hd.2.2.2.2.2.2.2.2.2.1;have h10:=hd.2.2.2.2.2.2.2.2.2.2.1;have h11:=hd.2.2.2.2.2.2.2.2.2.2.2.1;have h12:=hd.2.2.2.2.2.2.2.2.2.2.2.2.1;simp only [CA] at HC;obtain ⟨X5,id5,hv7,hj5,H⟩:=HC;simp only [GF] at hd;simp only [PS,hd];clear hd;have e8:vals 8=.tuple #[.int .i64 id5,.nilIface]:=(by rw [← hv7];exact X8 (show [vals 7]=[vals 8] from h8));have e11:vals 11=.int .i64 id5:=by
   obtain ⟨q,q1,q2⟩:=(h9:∃ id:Nat,[vals 8]=[.tuple #[.int .i64 id,.nilIface]]∧vals 9=.int .i64 id)
   replace q1:[vals 8]=[Value.tuple #[.int .i64 q,.nilIface]]:=q1;rw [e8] at q1;simp only [Zt.injEq,and_true,Value.tuple.injEq,Array.mk.injEq,Value.int.injEq,true_and] at q1;rw [X8 (show [vals 9]=[vals 11] from h11),q2,q1]
  have e12:vals 12=.nilIface:=by
   obtain ⟨q,q1,q2⟩:=(h10:∃ id:Nat,[vals 8]=[.tuple #[.int .i64 id,.nilIface]]∧vals 10=.nilIface)
   rw [X8 (show [vals 10]=[vals 12] from h12),q2]
  simp only [hv7,e8,e11,e12];have HY:=zh hj5;clear hv7 e8 e11 e12 h7 h8 h9 h10 h11 h12 hj5;go_wp2_with (first|refine sL ?_|(refine sS ?_;clear H;intros;rename_i H)|(go_at_call 103;with_reducible refine zm (HR.out id5 _ (St.ho (H.pick2 (A:=blk bm (.cells #[.pointer (some ⟨X.p,0,none⟩),.map (some mp)] 138)) (B:=zK z9 26 mp (K.map zP)) pk pk).join _ zM)) ?_;rintro e9 wc ⟨rfl,hb⟩;replace H:=zn ((H.pick2 (A:=blk bm (.cells #[.pointer (some ⟨X.p,0,none⟩),.map (some mp)] 138)) (B:=zK z9 26 mp (K.map zP)) pk pk).join.call hb);clear hb));go_ret2;exact ⟨X5,K++[(x,id5)],0,rfl,.inl ⟨rfl,id5,rfl,HY.out.2.2.1⟩,HY.out.1,HY.out.2.1,HY.out.2.2.2,H.picks (.cons pk (.cons pk (.cons pk .nil)))⟩
 ·have hrb:rg<=1152921504606846976:=(by omega);have HRG:=zh (za hr1 hr2);rcases kn_dec rg K with ⟨y2,hy2⟩|hno
  case inr =>
   have HL2:Hid (∀ w,(zK z9 26 mp (K.map zP)).ho w->(Instr.lookup 136 (.map (some mp)) (.int .i64 (rg:Nat)) true).run z9 w=.ok (.tuple #[.int .i64 0,.bool false]) w):=zh fun w h=>kn_out hrb hno true w h
   have HRF:Hid (Qg X.S x rg∧∀ q∈K,q.1≠rg):=zh ⟨⟨hr1,en,hx1,by rw [her];exact .inr rfl⟩,hno⟩;clear hX h1 h2 hK hn ht hroom hmost h hd hj hen hlw hx1 hxb HRUL her hlf hno hlb hlow hid1 hy1 htr hr1 hr2 hrb;go_enter Qi,Zw;go_wp2_with (first|refine sL ?_|(refine sS ?_;clear H;intros;rename_i H)|(go_at_call 53;with_reducible refine same (HS.out _ (H.get pk)) ?_)|(go_at_call 40;with_reducible refine zm (hW.out _ (H.get (A:=pA X) pk)) ?_;rintro e9 wc ⟨rfl,hb⟩;replace H:=H.grew hb.below;clear hb)|(go_at_call 68;with_reducible refine zm (HRU.out _ (H.get pk)) ?_;rintro e9 wc ⟨rfl,hb⟩;replace H:=H.grew hb.below;clear hb));rename_i br _ _ _ _;replace H:St w N [pA X,blk bm (.cells #[.pointer (some ⟨X.p,0,none⟩),.map (some mp)] 138),zK z9 26 mp (K.map zP),blk br (.cells #[.int .i64 2,.int .u8 lt,.int .i64 lf,.int .i64 rg,.int .i64 tm] 131)] _:=H.picks (.cons (A:=pA X) pk (.cons (A:=blk bm (.cells #[.pointer (some ⟨X.p,0,none⟩),.map (some mp)] 138)) pk (.cons (A:=zK z9 26 mp (K.map zP)) pk (.cons (A:=blk br (.cells #[.int .i64 2,.int .u8 lt,.int .i64 lf,.int .i64 rg,.int .i64 tm] 131)) pk .nil))));refine zN 12 [⟨[],fun v _=>v=.pointer (some ⟨bm,0,none⟩)⟩,⟨[0],fun v _=>v=.pointer (some ⟨bm,0,none⟩)⟩,⟨[1],fun v _=>v=.pointer (some ⟨bm,1,none⟩)⟩,⟨[2],fun v _=>v=.map (some mp)⟩,⟨[],fun v _=>v=.pointer (some ⟨br,2,none⟩)⟩,⟨[4],fun v _=>v=.int .i64 lf⟩,⟨[3,5],fun v _=>v=.tuple #[.int .i64 (y1:Nat),.bool true]⟩,⟨[6],fun v _=>v=.tuple #[.int .i64 (y1:Nat),.bool true]⟩,⟨[7],fun v _=>v=.int .i64 (y1:Nat)⟩,⟨[7],fun v _=>v=.bool true⟩,⟨[8],fun v _=>v=.int .i64 (y1:Nat)⟩,⟨[9],fun v _=>v=.bool true⟩] [] [[0],[0],[0],[0],[0],[0],[0],[0],[0],[0],[0],[0]] [fun _ wx=>St w N [pA X,blk bm (.cells #[.pointer (some ⟨X.p,0,none⟩),.map (some mp)] 138),zK z9 26 mp (K.map zP),blk br (.cells #[.int .i64 2,.int .u8 lt,.int .i64 lf,.int .i64 rg,.int .i64 tm] 131)] wx]
    [[],[(0,71)],[(1,72)],[(2,73)],[],[(4,75)],[(3,74),(5,76)],[(6,77)],[(7,70)],[(7,70)],[(8,78)],[(9,79)]] [(0,71),(1,72),(2,73),(3,74),(4,75),(5,76),(6,77),(7,70),(8,78),(9,79),(10,13),(11,14)] (by kernel_rfl) (by kernel_rfl) H.drew ⟨⟨qo,trivial⟩,⟨qo,trivial⟩,⟨qo,trivial⟩,⟨?_,trivial⟩,⟨qo,trivial⟩,⟨?_,trivial⟩,⟨?_,trivial⟩,⟨qo,trivial⟩,⟨qo,trivial⟩,⟨qo,trivial⟩,⟨qo,trivial⟩,⟨qo,trivial⟩,trivial⟩ ?_
   ·intro vals wx hd HC;simp only [GF] at hd;have H:=HC;simp only [CA] at H;simp only [PS,hd];refine StStep.celC rfl rfl rfl rfl (zW (H.get (A:=blk bm (.cells #[.pointer (some ⟨X.p,0,none⟩),.map (some mp)] 138)) pk) rfl) ⟨rfl,HC⟩
   ·intro vals wx hd HC;simp only [GF] at hd;have H:=HC;simp only [CA] at H;simp only [PS,hd];refine StStep.celC rfl rfl rfl rfl (zW (H.get (A:=blk br (.cells #[.int .i64 2,.int .u8 lt,.int .i64 lf,.int .i64 rg,.int .i64 tm] 131)) pk) rfl) ⟨rfl,HC⟩
   ·intro vals wx hd HC;simp only [GF] at hd;have H:=HC;simp only [CA] at H;simp only [PS,hd];refine StStep.lookC rfl rfl rfl rfl (HL1.out _ (H.get pk)) ⟨rfl,HC⟩
   intro vals wx hd HC;simp only [CA] at HC;have H:=HC;clear HC;simp only [GF] at hd;simp only [PS,hd];clear hd;go_wp2_with (first|refine sL ?_|(refine sS ?_;clear H;intros;rename_i H));replace H:St w N [pA X,blk bm (.cells #[.pointer (some ⟨X.p,0,none⟩),.map (some mp)] 138),zK z9 26 mp (K.map zP),blk br (.cells #[.int .i64 2,.int .u8 lt,.int .i64 lf,.int .i64 rg,.int .i64 tm] 131)] _:=H.picks (.cons (A:=pA X) pk (.cons (A:=blk bm (.cells #[.pointer (some ⟨X.p,0,none⟩),.map (some mp)] 138)) pk (.cons (A:=zK z9 26 mp (K.map zP)) pk (.cons (A:=blk br (.cells #[.int .i64 2,.int .u8 lt,.int .i64 lf,.int .i64 rg,.int .i64 tm] 131)) pk .nil))));refine zN 12 [⟨[],fun v _=>v=.pointer (some ⟨bm,0,none⟩)⟩,⟨[0],fun v _=>v=.pointer (some ⟨bm,0,none⟩)⟩,⟨[1],fun v _=>v=.pointer (some ⟨bm,1,none⟩)⟩,⟨[2],fun v _=>v=.map (some mp)⟩,⟨[],fun v _=>v=.pointer (some ⟨br,3,none⟩)⟩,⟨[4],fun v _=>v=.int .i64 rg⟩,⟨[3,5],fun v _=>v=.tuple #[.int .i64 0,.bool false]⟩,⟨[6],fun v _=>v=.tuple #[.int .i64 0,.bool false]⟩,⟨[7],fun v _=>v=.int .i64 0⟩,⟨[7],fun v _=>v=.bool false⟩,⟨[8],fun v _=>v=.int .i64 0⟩,⟨[9],fun v _=>v=.bool false⟩] [] [[0],[0],[0],[0],[0],[0],[0],[0],[0],[0],[0],[0]] [fun _ wx=>St w N [pA X,blk bm (.cells #[.pointer (some ⟨X.p,0,none⟩),.map (some mp)] 138),zK z9 26 mp (K.map zP),blk br (.cells #[.int .i64 2,.int .u8 lt,.int .i64 lf,.int .i64 rg,.int .i64 tm] 131)] wx]
    [[],[(0,104)],[(1,105)],[(2,106)],[],[(4,108)],[(3,107),(5,109)],[(6,110)],[(7,103)],[(7,103)],[(8,111)],[(9,112)]] [(0,104),(1,105),(2,106),(3,107),(4,108),(5,109),(6,110),(7,103),(8,111),(9,112),(10,17),(11,14)] (by kernel_rfl) (by kernel_rfl) H.drew ⟨⟨qo,trivial⟩,⟨qo,trivial⟩,⟨qo,trivial⟩,⟨?_,trivial⟩,⟨qo,trivial⟩,⟨?_,trivial⟩,⟨?_,trivial⟩,⟨qo,trivial⟩,⟨qo,trivial⟩,⟨qo,trivial⟩,⟨qo,trivial⟩,⟨qo,trivial⟩,trivial⟩ ?_
   ·intro vals wx hd HC;simp only [GF] at hd;have H:=HC;simp only [CA] at H;simp only [PS,hd];refine StStep.celC rfl rfl rfl rfl (zW (H.get (A:=blk bm (.cells #[.pointer (some ⟨X.p,0,none⟩),.map (some mp)] 138)) pk) rfl) ⟨rfl,HC⟩
   ·intro vals wx hd HC;simp only [GF] at hd;have H:=HC;simp only [CA] at H;simp only [PS,hd];refine StStep.celC rfl rfl rfl rfl (zW (H.get (A:=blk br (.cells #[.int .i64 2,.int .u8 lt,.int .i64 lf,.int .i64 rg,.int .i64 tm] 131)) pk) rfl) ⟨rfl,HC⟩
   ·intro vals wx hd HC;simp only [GF] at hd;have H:=HC;simp only [CA] at H;simp only [PS,hd];refine StStep.lookC rfl rfl rfl rfl (HL2.out _ (H.get pk)) ⟨rfl,HC⟩
   intro vals wx hd HC;simp only [CA] at HC;have H:=HC;clear HC;simp only [GF] at hd;simp only [PS,hd];clear hd;go_wp2_with (first|refine sL ?_|(refine sS ?_;clear H;intros;rename_i H));go_ret2;exact ⟨X,K,rg,rfl,.inr ⟨rfl,rfl,HRF.out.1,HLOW.out,HRF.out.2⟩,.refl _,HXX.out,Nat.le_add_right _ _,H.picks (.cons pk (.cons pk (.cons pk .nil)))⟩
  have HL2:Hid (∀ w,(zK z9 26 mp (K.map zP)).ho w->(Instr.lookup 136 (.map (some mp)) (.int .i64 (rg:Nat)) true).run z9 w=.ok (.tuple #[.int .i64 (y2:Nat),.bool true]) w):=zh fun w h=>kn_in hX.ok hrb hK hy2 true w h
  have hid2:=(hK _ hy2).2.2;simp only at hid2;have hHN:=HTN.out;have hsl:((X.S.tr lf).txt.map Tr.leaf).length=(X.S.tr lf).len:=(by rw [qe,Tr.txt_len]);have hsr:((X.S.tr rg).txt.map Tr.leaf).length=(X.S.tr rg).len:=(by rw [qe,Tr.txt_len]);have hlen:(X.S.tr lf).len+(X.S.tr rg).len=n:=(by rw [← hHN.2,htr];rfl);have htx:(X.S.tr x).txt.map Tr.leaf=(X.S.tr lf).txt.map Tr.leaf++(X.S.tr rg).txt.map Tr.leaf:=(by rw [htr];simp [Tr.txt]);have hown:vw (X.S.tr x)=n:=by
   unfold vw;rw [if_neg hlow,htr];simp only;rw [← htr,hHN.2]
  have HJN:Hid (∀ w,((pA X).sep deA).ho w->Calls z9 105 #[.pointer (some ⟨X.p,0,none⟩),.int .i64 (y1:Nat),.int .i64 (y2:Nat)] w (kU X ((X.S.tr x).txt.map Tr.leaf) (vw (X.S.tr x)) (pA X).fp w)):=zh fun w h=>by
   have:=joinE_c (a:=y1) (b:=y2) hX hid1 hid2 (by rw [hsl,hsr];omega) (by rw [hsl,hsr];omega) w h;rw [hsl,hsr,hlen,← htx] at this;rw [hown];exact this
  clear hX h1 h2 hK hn ht hroom hmost h hd hj hen hlw hx1 hxb HRUL her hlf hlb hlow hid1 hid2 hy1 hy2 htr hlen hHN hsl hsr htx hown hr1 hr2 hrb;go_enter Qi,Zw;go_wp2_with (first|refine sL ?_|(refine sS ?_;clear H;intros;rename_i H)|(go_at_call 53;with_reducible refine same (HS.out _ (H.get pk)) ?_)|(go_at_call 40;with_reducible refine zm (hW.out _ (H.get (A:=pA X) pk)) ?_;rintro e9 wc ⟨rfl,hb⟩;replace H:=H.grew hb.below;clear hb)|(go_at_call 68;with_reducible refine zm (HRU.out _ (H.get pk)) ?_;rintro e9 wc ⟨rfl,hb⟩;replace H:=H.grew hb.below;clear hb));rename_i br _ _ _ _;replace H:St w N [pA X,blk bm (.cells #[.pointer (some ⟨X.p,0,none⟩),.map (some mp)] 138),zK z9 26 mp (K.map zP),blk br (.cells #[.int .i64 2,.int .u8 lt,.int .i64 lf,.int .i64 rg,.int .i64 tm] 131)] _:=H.picks (.cons (A:=pA X) pk (.cons (A:=blk bm (.cells #[.pointer (some ⟨X.p,0,none⟩),.map (some mp)] 138)) pk (.cons (A:=zK z9 26 mp (K.map zP)) pk (.cons (A:=blk br (.cells #[.int .i64 2,.int .u8 lt,.int .i64 lf,.int .i64 rg,.int .i64 tm] 131)) pk .nil))));refine zN 12 [⟨[],fun v _=>v=.pointer (some ⟨bm,0,none⟩)⟩,⟨[0],fun v _=>v=.pointer (some ⟨bm,0,none⟩)⟩,⟨[1],fun v _=>v=.pointer (some ⟨bm,1,none⟩)⟩,⟨[2],fun v _=>v=.map (some mp)⟩,⟨[],fun v _=>v=.pointer (some ⟨br,2,none⟩)⟩,⟨[4],fun v _=>v=.int .i64 lf⟩,⟨[3,5],fun v _=>v=.tuple #[.int .i64 (y1:Nat),.bool true]⟩,⟨[6],fun v _=>v=.tuple #[.int .i64 (y1:Nat),.bool true]⟩,⟨[7],fun v _=>v=.int .i64 (y1:Nat)⟩,⟨[7],fun v _=>v=.bool true⟩,⟨[8],fun v _=>v=.int .i64 (y1:Nat)⟩,⟨[9],fun v _=>v=.bool true⟩] [] [[0],[0],[0],[0],[0],[0],[0],[0],[0],[0],[0],[0]] [fun _ wx=>St w N [pA X,blk bm (.cells #[.pointer (some ⟨X.p,0,none⟩),.map (some mp)] 138),zK z9 26 mp (K.map zP),blk br (.cells #[.int .i64 2,.int .u8 lt,.int .i64 lf,.int .i64 rg,.int .i64 tm] 131)] wx]
   [[],[(0,71)],[(1,72)],[(2,73)],[],[(4,75)],[(3,74),(5,76)],[(6,77)],[(7,70)],[(7,70)],[(8,78)],[(9,79)]] [(0,71),(1,72),(2,73),(3,74),(4,75),(5,76),(6,77),(7,70),(8,78),(9,79),(10,13),(11,14)] (by kernel_rfl) (by kernel_rfl) H.drew ⟨⟨qo,trivial⟩,⟨qo,trivial⟩,⟨qo,trivial⟩,⟨?_,trivial⟩,⟨qo,trivial⟩,⟨?_,trivial⟩,⟨?_,trivial⟩,⟨qo,trivial⟩,⟨qo,trivial⟩,⟨qo,trivial⟩,⟨qo,trivial⟩,⟨qo,trivial⟩,trivial⟩ ?_
  ·intro vals wx hd HC;simp only [GF] at hd;have H:=HC;simp only [CA] at H;simp only [PS,hd];refine StStep.celC rfl rfl rfl rfl (zW (H.get (A:=blk bm (.cells #[.pointer (some ⟨X.p,0,none⟩),.map (some mp)] 138)) pk) rfl) ⟨rfl,HC⟩
  ·intro vals wx hd HC;simp only [GF] at hd;have H:=HC;simp only [CA] at H;simp only [PS,hd];refine StStep.celC rfl rfl rfl rfl (zW (H.get (A:=blk br (.cells #[.int .i64 2,.int .u8 lt,.int .i64 lf,.int .i64 rg,.int .i64 tm] 131)) pk) rfl) ⟨rfl,HC⟩
  ·intro vals wx hd HC;simp only [GF] at hd;have H:=HC;simp only [CA] at H;simp only [PS,hd];refine StStep.lookC rfl rfl rfl rfl (HL1.out _ (H.get pk)) ⟨rfl,HC⟩
  intro vals wx hd HC;simp only [CA] at HC;have H:=HC;clear HC;simp only [GF] at hd;simp only [PS,hd];clear hd;go_wp2_with (first|refine sL ?_|(refine sS ?_;clear H;intros;rename_i H));replace H:St w N [pA X,blk bm (.cells #[.pointer (some ⟨X.p,0,none⟩),.map (some mp)] 138),zK z9 26 mp (K.map zP),blk br (.cells #[.int .i64 2,.int .u8 lt,.int .i64 lf,.int .i64 rg,.int .i64 tm] 131)] _:=H.picks (.cons (A:=pA X) pk (.cons (A:=blk bm (.cells #[.pointer (some ⟨X.p,0,none⟩),.map (some mp)] 138)) pk (.cons (A:=zK z9 26 mp (K.map zP)) pk (.cons (A:=blk br (.cells #[.int .i64 2,.int .u8 lt,.int .i64 lf,.int .i64 rg,.int .i64 tm] 131)) pk .nil))));refine zN 12 [⟨[],fun v _=>v=.pointer (some ⟨bm,0,none⟩)⟩,⟨[0],fun v _=>v=.pointer (some ⟨bm,0,none⟩)⟩,⟨[1],fun v _=>v=.pointer (some ⟨bm,1,none⟩)⟩,⟨[2],fun v _=>v=.map (some mp)⟩,⟨[],fun v _=>v=.pointer (some ⟨br,3,none⟩)⟩,⟨[4],fun v _=>v=.int .i64 rg⟩,⟨[3,5],fun v _=>v=.tuple #[.int .i64 (y2:Nat),.bool true]⟩,⟨[6],fun v _=>v=.tuple #[.int .i64 (y2:Nat),.bool true]⟩,⟨[7],fun v _=>v=.int .i64 (y2:Nat)⟩,⟨[7],fun v _=>v=.bool true⟩,⟨[8],fun v _=>v=.int .i64 (y2:Nat)⟩,⟨[9],fun v _=>v=.bool true⟩] [] [[0],[0],[0],[0],[0],[0],[0],[0],[0],[0],[0],[0]] [fun _ wx=>St w N [pA X,blk bm (.cells #[.pointer (some ⟨X.p,0,none⟩),.map (some mp)] 138),zK z9 26 mp (K.map zP),blk br (.cells #[.int .i64 2,.int .u8 lt,.int .i64 lf,.int .i64 rg,.int .i64 tm] 131)] wx]
   [[],[(0,104)],[(1,105)],[(2,106)],[],[(4,108)],[(3,107),(5,109)],[(6,110)],[(7,103)],[(7,103)],[(8,111)],[(9,112)]] [(0,104),(1,105),(2,106),(3,107),(4,108),(5,109),(6,110),(7,103),(8,111),(9,112),(10,17),(11,14)] (by kernel_rfl) (by kernel_rfl) H.drew ⟨⟨qo,trivial⟩,⟨qo,trivial⟩,⟨qo,trivial⟩,⟨?_,trivial⟩,⟨qo,trivial⟩,⟨?_,trivial⟩,⟨?_,trivial⟩,⟨qo,trivial⟩,⟨qo,trivial⟩,⟨qo,trivial⟩,⟨qo,trivial⟩,⟨qo,trivial⟩,trivial⟩ ?_
  ·intro vals wx hd HC;simp only [GF] at hd;have H:=HC;simp only [CA] at H;simp only [PS,hd];refine StStep.celC rfl rfl rfl rfl (zW (H.get (A:=blk bm (.cells #[.pointer (some ⟨X.p,0,none⟩),.map (some mp)] 138)) pk) rfl) ⟨rfl,HC⟩
  ·intro vals wx hd HC;simp only [GF] at hd;have H:=HC;simp only [CA] at H;simp only [PS,hd];refine StStep.celC rfl rfl rfl rfl (zW (H.get (A:=blk br (.cells #[.int .i64 2,.int .u8 lt,.int .i64 lf,.int .i64 rg,.int .i64 tm] 131)) pk) rfl) ⟨rfl,HC⟩
  ·intro vals wx hd HC;simp only [GF] at hd;have H:=HC;simp only [CA] at H;simp only [PS,hd];refine StStep.lookC rfl rfl rfl rfl (HL2.out _ (H.get pk)) ⟨rfl,HC⟩
  intro vals wx hd HC;simp only [CA] at HC;have H:=HC;clear HC;simp only [GF] at hd;simp only [PS,hd];clear hd;go_wp2_with (first|refine sL ?_|(refine sS ?_;clear H;intros;rename_i H)|(go_at_call 105;with_reducible refine zm (HJN.out _ (H.sepK HK pk pk)) ?_;rintro e9 wc ⟨X5,id5,rfl,y1,y2,y3,y4,hb⟩;have HY:=zh (za y1 (za y2 (za y3 y4)));clear y1 y2 y3 y4;replace H:=zn ((H.pick pk).call hb);clear hb)|(go_at_call 103;with_reducible refine zm (HR.out id5 _ (St.ho (H.pick2 (A:=blk bm (.cells #[.pointer (some ⟨X.p,0,none⟩),.map (some mp)] 138)) (B:=zK z9 26 mp (K.map zP)) pk pk).join _ zM)) ?_;rintro e9 wc ⟨rfl,hb⟩;replace H:=zn ((H.pick2 (A:=blk bm (.cells #[.pointer (some ⟨X.p,0,none⟩),.map (some mp)] 138)) (B:=zK z9 26 mp (K.map zP)) pk pk).join.call hb);clear hb));go_ret2;exact ⟨X5,K++[(x,id5)],0,rfl,.inl ⟨rfl,id5,rfl,HY.out.2.2.1⟩,HY.out.1,HY.out.2.1,HY.out.2.2.2,H.picks (.cons pk (.cons pk (.cons pk .nil)))⟩
end
section
open Go.RowKit Go.Maps
attribute [local go_sem] qw yM
theorem asc_len:∀ {l:List Nat} {lo x:Nat},lo<=x->l.Pairwise (· < ·)->(∀ p∈l,lo<p∧p<=x)->l.length+lo<=x
 |[],lo,x,h,_,_=>by simpa using h
 |p::l,lo,x,h,hp,hr=>by
  have h1:=hr p (by simp);have hp2:=qv.1 hp;have:=asc_len (l:=l) (lo:=p) (x:=x) h1.2 hp2.2 fun q hq=>⟨hp2.1 q hq,(hr q (by simp [hq])).2⟩
  simp only [zw];omega
def kys (K:List (Nat×Nat)):List Nat:=K.map (·.1)
theorem kys_in {K:List (Nat×Nat)} {x:Nat}:x∈kys K↔∃ y,(x,y)∈K:=by
 unfold kys;constructor
 ·intro h;obtain ⟨q,hq,e⟩:=qQ.1 h;exact ⟨q.2,by rw [← e];exact hq⟩
 ·rintro ⟨y,h⟩;exact qQ.2 ⟨_,h,rfl⟩
theorem kys_no {K:List (Nat×Nat)} {x:Nat} (h:∀ q∈K,q.1≠x):x ∉ kys K:=fun hx=>by
 obtain ⟨y,hy⟩:=kys_in.1 hx;exact h _ hy rfl
theorem kys_no' {K:List (Nat×Nat)} {x:Nat} (h:x ∉ kys K):∀ q∈K,q.1≠x:=fun q hq e=>h (kys_in.2 ⟨q.2,by rw [← e];exact hq⟩)
theorem kys_mono {K K':List (Nat×Nat)} (h:∀ q∈K,q∈K'):∀ c∈kys K,c∈kys K':=fun c hc=>by
 obtain ⟨y,hy⟩:=kys_in.1 hc;exact kys_in.2 ⟨y,h _ hy⟩
theorem ref_lt {S:Sto} (hS:S.Ok) {p c:Nat} (h1:1<=p) (h2:p<=S.list.length) (h:Qg S p c):c<p∧(S.tr c).len<=(S.tr p).len:=by
 obtain ⟨hc,e,he,h3⟩:=h;obtain ⟨i,rfl⟩:∃ i,p=i+1:=⟨p-1,by omega⟩
 rw [xC] at he;cases xv hS he with
 |letter b hb hr hw ht=>rw [hr] at h3;simp at h3;omega
 |pair l r y z hl hr hy hz hx hw hs ht =>
  rw [hx] at h3;simp only at h3;have e2:(S.tr (i+1)).len=(S.tr (l+1)).len+(S.tr (r+1)).len:=(by rw [ht];rfl);rcases h3 with rfl|rfl <;> exact ⟨by omega,by omega⟩
 |pow l k y hl hy hk hx hw hs ht =>
  rw [hx] at h3;simp only at h3;have e2:(S.tr (i+1)).len=(S.tr (l+1)).len*k:=(by rw [ht];rfl);rcases h3 with rfl|rfl
  ·exact ⟨by omega,by rw [e2];exact jg _ (by omega)⟩
  ·omega
theorem ref_back {S S':Sto} (hl:S.Le S') {p c:Nat} (h1:1<=p) (h2:p<=S.list.length) (h:Qg S' p c):Qg S p c:=by
 obtain ⟨hc,e,he,h3⟩:=h;refine ⟨hc,e,?_,h3⟩;obtain ⟨_,l,e2⟩:=hl;rw [e2,qr (by omega)] at he;exact he
structure OfFx (X:Px) (x n0:Nat) (K:List (Nat×Nat)) (X2:Px) (K2:List (Nat×Nat)) (st:List Nat):Prop where
 asc:st.Pairwise (· < ·)
 rng:∀ p∈st,1<=p∧p<=x∧(X.S.tr p).len<=300
 unk:∀ p∈st.tail,p ∉ kys K2
 top:x∈st∨x∈kys K2
 kn:KnOk X2.S K2
 ext:X.Ext X2
 ok:zL X2
 inc:∀ q∈K,q∈K2
 pot:X2.S.list.length+Pot X.S (kys K2) st<=X.S.list.length+wg (X.S.tr x)
 acc:X2.S.list.length+1200*kz n0 (kys K2)<=X.S.list.length+1200*kz n0 (kys K)
def stM (x:Nat) (Q st:List Nat):Nat:=3*kz x Q+(match st with|p::_=>if p∈Q then 2 else 0|[]=>0)+(x+2-st.length)
section
variable {X X2 X3:Px} {x n0 p c y:Nat} {K K2:List (Nat×Nat)} {st r:List Nat}
theorem OfFx.len (h:OfFx X x n0 K X2 K2 st):st.length<=x:=by
 have:=asc_len (qk x) h.asc fun p hp=>⟨(h.rng p hp).1,(h.rng p hp).2.1⟩
 omega
theorem OfFx.start (hX:zL X) (h1:1<=x) (h2:x<=X.S.list.length) (ht:(X.S.tr x).len<=300) (hK:KnOk X.S K):OfFx X x n0 K X K [x] :=
 ⟨by simp,by simpa using ⟨h1,ht⟩,by simp,.inl (by simp),hK,.refl _,hX,fun q hq=>hq,by have:=pot_start hX.ok (Q:=kys K) h1 h2;omega,zt _⟩
theorem OfFx.pop (h:OfFx X x n0 K X2 K2 (p::r)) (hp:p∈kys K2):OfFx X x n0 K X2 K2 r∧stM x (kys K2) r<stM x (kys K2) (p::r):=by
 have hl:=h.len;refine ⟨⟨(qv.1 h.asc).2,fun q hq=>h.rng q (by simp [hq]),fun q hq=>h.unk q (by simp only [List.tail_cons];exact List.mem_of_mem_tail hq),?_,h.kn,h.ext,h.ok,h.inc,by have:=h.pot;have:=pot_pop (S:=X.S) (Q:=kys K2) (r:=r) hp;omega,h.acc⟩,?_⟩
 ·rcases h.top with h1|h1
  ·rcases zQ.1 h1 with rfl|h1
   ·exact .inr hp
   ·exact .inl h1
  ·exact .inr h1
 ·unfold stM;have hr:(match r with|q::_=>if q∈kys K2 then 2 else 0|[]=>0)=0:=by
   cases r with
   |nil=>rfl
   |cons q r=>simp only;rw [if_neg (h.unk q (by simp))]
  rw [hr];simp only [zw] at hl ⊢;rw [if_pos hp];omega
theorem OfFx.push (hX:zL X) (h2:x<=X.S.list.length) (h:OfFx X x n0 K X2 K2 (p::r)) (hp:p ∉ kys K2) (hl:¬ (X.S.tr p).len<=256) (hr:Qg X.S p c) (hc:c ∉ kys K2):OfFx X x n0 K X2 K2 (c::p::r)∧stM x (kys K2) (c::p::r)<stM x (kys K2) (p::r):=by
 have hlen:=h.len;have hpr:=h.rng p (by simp);have hlt:=ref_lt hX.ok hpr.1 (by omega) hr;have hps:=qv.1 h.asc;refine ⟨⟨qv.2 ⟨fun q hq=>?_,h.asc⟩,fun q hq=>?_,fun q hq=>?_,?_,h.kn,h.ext,h.ok,h.inc,?_,h.acc⟩,?_⟩
 ·rcases zQ.1 hq with rfl|hq
  ·exact hlt.1
  ·have:=hps.1 q hq;omega
 ·rcases zQ.1 hq with rfl|hq
  ·exact ⟨hr.1,by omega,by omega⟩
  ·exact h.rng q hq
 ·simp only [List.tail_cons] at hq;rcases zQ.1 hq with rfl|hq
  ·exact hp
  ·exact h.unk q (by simpa using hq)
 ·rcases h.top with h1|h1
  ·exact .inl (qL _ h1)
  ·exact .inr h1
 ·have h3:=h.pot;have h4:=pot_push hX.ok (r:=r) hp hl hr hc (by omega);omega
 ·unfold stM;simp only [zw] at hlen ⊢;rw [if_neg hp,if_neg hc];omega
theorem OfFx.learn (hX:zL X) (h2:x<=X.S.list.length) (hx0:x<=n0) (h:OfFx X x n0 K X2 K2 (p::r)) (hp:p ∉ kys K2) (hE:X2.Ext X3) (hO:zL X3) (hid:IdIs X3.S y ((X2.S.tr p).txt.map Tr.leaf)) (hsz:X3.S.list.length<=X2.S.list.length+vw (X2.S.tr p)):OfFx X x n0 K X3 (K2++[(p,y)]) (p::r)∧stM x (kys (K2++[(p,y)])) (p::r)<stM x (kys K2) (p::r):=by
 have hlen:=h.len;have hpr:=h.rng p (by simp);have hinc:∀ c∈kys K2,c∈kys (K2++[(p,y)]):=kys_mono fun q hq=>zk.2 (.inl hq)
 have hin:p∈kys (K2++[(p,y)]):=kys_in.2 ⟨y,by simp⟩;have htr:X2.S.tr p=X.S.tr p:=h.ext.le.tr hX.ok hpr.1 (by omega);have htr3:X3.S.tr p=X2.S.tr p:=hE.le.tr h.ok.ok hpr.1 (by have:=h.ext.le.len;omega);rw [htr] at hsz;have hps:=qv.1 h.asc;have hu1:=WX (n:=x) hinc hpr.2.1 hp hin;have hu2:=WX (n:=n0) hinc (by omega) hp hin;refine ⟨⟨h.asc,h.rng,fun q hq=>?_,?_,fun q hq=>?_,h.ext.trans hE,hO,fun q hq=>zk.2 (.inl (h.inc q hq)),?_,?_⟩,?_⟩
 ·simp only [List.tail_cons] at hq;intro hk;obtain ⟨z,hz⟩:=kys_in.1 hk;rcases zk.1 hz with hz|hz
  ·exact h.unk q (by simpa using hq) (kys_in.2 ⟨z,hz⟩)
  ·simp at hz;have:=hps.1 q hq;omega
 ·rcases h.top with h1|h1
  ·exact .inl h1
  ·exact .inr (hinc _ h1)
 ·rcases zk.1 hq with hq|hq
  ·exact h.kn.le h.ok.ok hE.le q hq
  ·simp at hq;subst hq;refine ⟨hpr.1,by have:=h.ext.le.len;have:=hE.le.len;simp only;omega,?_⟩;rw [htr3];exact hid
 ·have h3:=h.pot;have h4:=pot_learn (S:=X.S) (r:=r) hp hinc hin;omega
 ·have h3:=h.acc;have h5:=ownT_le hpr.2.2;omega
 ·unfold stM;simp only;rw [if_pos hin,if_neg hp];omega
end
def OfRelG (X:Px) (x n0:Nat) (K:List (Nat×Nat)) (N:List Nat) (w:World) (bm mp:Nat) (m:Nat) (v6:Value) (wr:World):Prop :=
 ∃ (X2:Px) (K2:List (Nat×Nat)) (st:List Nat),m=stM x (kys K2) st∧OfFx X x n0 K X2 K2 st∧St w N [pA X2,blk bm (.cells #[.pointer (some ⟨X.p,0,none⟩),.map (some mp)] 138),zK z9 26 mp (K2.map zP),zb zX 26 1 v6 st.reverse] wr
abbrev OfGPost (X:Px) (x n0:Nat) (K:List (Nat×Nat)) (bm mp:Nat) (N:List Nat) (w:World) (e:Ending) (w':World):Prop :=
 ∃ (X':Px) (K':List (Nat×Nat)) (y:Nat),e=.returned (.tuple #[.int .i64 y,.nilIface])∧X.Ext X'∧zL X'∧KnOk X'.S K'∧IdIs X'.S y ((X.S.tr x).txt.map Tr.leaf)∧(∀ q∈K,q∈K')∧X'.S.list.length<=X.S.list.length+wg (X.S.tr x)∧X'.S.list.length+1200*kz n0 (kys K')<=X.S.list.length+1200*kz n0 (kys K)∧St w N [pA X',blk bm (.cells #[.pointer (some ⟨X.p,0,none⟩),.map (some mp)] 138),zK z9 26 mp (K'.map zP)] w'
theorem of_g {X:Px} {bm mp x n0:Nat} {K:List (Nat×Nat)} (hX:zL X) (h1:1<=x) (h2:x<=X.S.list.length) (hx0:x<=n0) (hK:KnOk X.S K) (ht:(X.S.tr x).len<=300) (hroom:X.S.list.length+wg (X.S.tr x)+1300<X.S.most) (hmost:X.S.most<=1048576) (w:World) (h:((pA X).sep ((blk bm (.cells #[.pointer (some ⟨X.p,0,none⟩),.map (some mp)] 138)).sep (zK z9 26 mp (K.map zP)))).ho w) (hd:(((pA X).sep ((blk bm (.cells #[.pointer (some ⟨X.p,0,none⟩),.map (some mp)] 138)).sep (zK z9 26 mp (K.map zP)))).sep deA).ho w) :
  Calls z9 35 #[.pointer (some ⟨bm,0,none⟩),.int .i64 (x:Nat)] w (OfGPost X x n0 K bm mp ((pA X).sep ((blk bm (.cells #[.pointer (some ⟨X.p,0,none⟩),.map (some mp)] 138)).sep (zK z9 26 mp (K.map zP)))).fp w):=by
 have H:=((St.one h).sep.pick (A:=(blk bm (.cells #[.pointer (some ⟨X.p,0,none⟩),.map (some mp)] 138)).sep (zK z9 26 mp (K.map zP))) pk).sep;rw [qx] at hd;have HK:Ks w ((pA X).sep ((blk bm (.cells #[.pointer (some ⟨X.p,0,none⟩),.map (some mp)] 138)).sep (zK z9 26 mp (K.map zP)))).fp [deA]:=⟨by simpa using hd.2.1,by simpa using fun b hb hm=>hd.2.2 b hm hb⟩
 generalize ((pA X).sep ((blk bm (.cells #[.pointer (some ⟨X.p,0,none⟩),.map (some mp)] 138)).sep (zK z9 26 mp (K.map zP)))).fp=N at H HK ⊢;have HLN:Hid (∀ (X2:Px) (K2:List (Nat×Nat)) (p:Nat) (r:List Nat),OfFx X x n0 K X2 K2 (p::r)->p ∉ kys K2->∀ w,((pA X2).sep ((blk bm (.cells #[.pointer (some ⟨X.p,0,none⟩),.map (some mp)] 138)).sep (zK z9 26 mp (K2.map zP)))).ho w->(((pA X2).sep ((blk bm (.cells #[.pointer (some ⟨X.p,0,none⟩),.map (some mp)] 138)).sep (zK z9 26 mp (K2.map zP)))).sep deA).ho w->Calls z9 71 #[.pointer (some ⟨bm,0,none⟩),.int .i64 (p:Nat)] w fun e w'=>∃ (X':Px) (K':List (Nat×Nat)) (c:Nat),e=.returned (.tuple #[.int .i64 c,.nilIface])∧((c=0∧∃ y,K'=K2++[(p,y)]∧IdIs X'.S y ((X2.S.tr p).txt.map Tr.leaf))∨(X'=X2∧K'=K2∧Qg X2.S p c∧¬ (X2.S.tr p).len<=256∧∀ q∈K2,q.1≠c))∧X2.Ext X'∧zL X'∧X'.S.list.length<=X2.S.list.length+vw (X2.S.tr p)∧St w ((pA X2).sep ((blk bm (.cells #[.pointer (some ⟨X.p,0,none⟩),.map (some mp)] 138)).sep (zK z9 26 mp (K2.map zP)))).fp [pA X',blk bm (.cells #[.pointer (some ⟨X.p,0,none⟩),.map (some mp)] 138),zK z9 26 mp (K'.map zP)] w'):=zh fun X2 K2 p r q1 q2 w h hd=>by
  have hpr:=q1.rng p (by simp);have htr:X2.S.tr p=X.S.tr p:=q1.ext.le.tr hX.ok hpr.1 (by omega);have hp:=q1.pot;have hm:=q1.ext.le.1;have hle:=q1.ext.le.len;have:=learn_g (X:=X2) (bm:=bm) (mp:=mp) (x:=p) (K:=K2) q1.ok hpr.1 (by omega) q1.kn (kys_no' q2) (by rw [htr];exact hpr.2.2) (by omega) (by omega) w (by rw [q1.ext.p];exact h) (by rw [q1.ext.p];exact hd);rw [q1.ext.p] at this;exact this
 have HS:Hid (∀ w,(pA X).ho w->Calls z9 53 #[.pointer (some ⟨X.p,0,none⟩)] w fun e w'=>e=.returned (.pointer (some ⟨X.s,0,none⟩))∧w'=w):=zh fun w h=>jJ w h
 have HLE:Hid (∀ w,(pA X).ho w->Calls z9 38 #[.pointer (some ⟨X.s,0,none⟩)] w fun e w'=>e=.returned (.int .i64 (X.S.list.length:Nat))∧w'=w):=zh fun w h=>Wm w (ke h)
 obtain ⟨ln,hln⟩:∃ k,X.S.list.length=k:=⟨_,rfl⟩
 rw [hln] at HLE;have HIN:Hid (zL X∧1<=x∧x<=X.S.list.length∧x<=n0∧X.S.list.length<=1048576):=zh ⟨hX,h1,h2,hx0,by omega⟩;have HST:Hid (OfFx X x n0 K X K [x]):=zh (.start hX h1 h2 ht hK);have d1:decide ((x:Int)<0)=false:=(by simp);have d2:decide ((ln:Int)<(x:Int))=false:=(by simp;omega);have d2n:decide (ln<x)=false:=(by simp;omega);have d3:((x:Int)==0)=false:=(by simp;omega);have hxb:x<=1048576:=(by omega);clear hX h1 h2 hK ht hroom hmost h hd hln hx0;go_enter Tryz.func35,Tryz.ntmps35;go_wp2_with (first|refine sL ?_|(refine sS ?_;clear H;intros;rename_i H)|(go_at_call 53;with_reducible refine same (HS.out _ (H.get pk)) ?_)|(go_at_call 38;with_reducible refine same (HLE.out _ (H.get pk)) ?_)|((with_reducible refine qR ?_);refine AtSlice.one H rfl rfl rfl rfl rfl rfl rfl rfl rfl ?_;clear H;intro b9 _ H;simp only [Act.put,puA,puB,puC]));replace H:=ZG (enc:=zX) (k:=1) (n:=1) (c:=1) (xs:=[x]) qy (H.pick (A:=blk b9 (.cells #[.int .i64 (x:Nat)] 26)) pk) (zt _) (by simp [maxLen]) rfl rfl rfl;go_loopg [6] (stM x (kys K) [x]) (fun m v6 wr=>OfRelG X x n0 K N w bm mp m v6 wr);case atStart=>exact ⟨X,K,[x],rfl,HST.out,H.picks (.cons pk (.cons pk (.cons pk (.cons pk .nil))))⟩
 case round =>
  clear H;obtain ⟨X2,K2,st,rfl,hfx,H⟩:=hrel;have HFX:=zh hfx;cases st with
  |nil =>
   obtain ⟨ad,cp,rfl,_⟩:=zE (H.get (A:=zb zX 26 1 _ ([]:List Nat).reverse) pk);have hx2:x∈kys K2:=by
    rcases hfx.top with h|h
    ·simp at h
    ·exact h
   obtain ⟨y,hy⟩:=kys_in.1 hx2;have hlk:=kn_in hfx.ok.ok (by omega) hfx.kn hy false _ (H.get (A:=zK z9 26 mp (K2.map zP)) pk);simp only [xH,if_false] at hlk;have HY:=zh hy;simp only [List.reverse_nil,zA] at H ⊢;clear hfx hx2 hy;go_wp2_with (first|refine sL ?_|(refine sS ?_;clear H;intros;rename_i H));go_ret2;have h3:=HFX.out;have h4:=HIN.out;obtain ⟨k1,k2,k3⟩:=h3.kn _ HY.out;simp only at k3;rw [h3.ext.le.tr h4.1.ok h4.2.1 h4.2.2.1] at k3;exact ⟨X2,K2,y,rfl,h3.ext,h3.ok,h3.kn,k3,h3.inc,by have:=h3.pot;omega,h3.acc,H.picks (.cons pk (.cons pk (.cons pk .nil)))⟩
  |cons p r =>
   have hpr:=hfx.rng p (by simp);have hlen:=hfx.len;rw [vO] at H;obtain ⟨k,hk⟩:∃ k,r.length=k:=⟨_,rfl⟩
   have hrl:(r.reverse++[p]).length=k+1:=(by simp [hk]);obtain ⟨g,cp,e1,hc1,hc2⟩:=zZ (H.get (A:=zb zX 26 1 _ (r.reverse++[p])) pk) (by simp);rw [hrl] at e1 hc1;subst e1;have hk9:k<=1048576:=(by simp only [zw,hk] at hlen;omega);have HC:Hid (∀ w,(zb zX 26 1 (.slice (some ⟨g,0,none⟩) (k+1) cp) (r.reverse++[p])).ho w->w.cell? ⟨g,k,none⟩=some (.int .i64 (p:Nat))):=zh fun w h=>by
    have:=zU h qy (i:=k) (x:=p) (by rw [yg (by simp [hk])];simp [hk]) (j:=0) rfl;simpa using this
   have HRL:=zh (za hrl hk);rcases kn_dec p K2 with ⟨y,hy⟩|hno
   ·have hlk:=kn_in hfx.ok.ok (by omega) hfx.kn hy true _ (H.get (A:=zK z9 26 mp (K2.map zP)) pk);simp only [if_true] at hlk;have HPOP:=zh (hfx.pop (kys_in.2 ⟨y,hy⟩));clear hfx hy hrl hlen hpr;go_wp2_with (first|refine sL ?_|(refine sS ?_;clear H;intros;rename_i H));replace H:=(H.pick (A:=zb zX 26 1 (.slice (some ⟨g,0,none⟩) (k+1) cp) (r.reverse++[p])) pk).cut qy (n:=k) (by rw [List.length_reverse];exact hk);go_roundg (stM x (kys K2) r);case measure=>exact HPOP.out.2
    case rel=>exact ⟨X2,K2,r,rfl,HPOP.out.1,H.picks (.cons pk (.cons pk (.cons pk (.cons pk .nil))))⟩
   ·have hlk:=kn_out (x:=p) (by omega) hno true _ (H.get (A:=zK z9 26 mp (K2.map zP)) pk);simp only [if_true] at hlk;have HNO:=zh (kys_no hno);clear hfx hno hrl hlen;go_wp2_with (first|refine sL ?_|(refine sS ?_;clear H;intros;rename_i H));refine zm (HLN.out X2 K2 p r HFX.out HNO.out _ ((St.join3 (H.pick3 (A:=pA X2) (B:=blk bm (.cells #[.pointer (some ⟨X.p,0,none⟩),.map (some mp)] 138)) (C:=zK z9 26 mp (K2.map zP)) pk pk pk)).ho _ zM) ((St.join3 (H.pick3 (A:=pA X2) (B:=blk bm (.cells #[.pointer (some ⟨X.p,0,none⟩),.map (some mp)] 138)) (C:=zK z9 26 mp (K2.map zP)) pk pk pk)).sepK HK .here pk)) ?_;rintro e9 wc ⟨X3,K3,c,rfl,y0,y1,y2,y3,hb⟩;replace H:=(St.join3 (H.pick3 (A:=pA X2) (B:=blk bm (.cells #[.pointer (some ⟨X.p,0,none⟩),.map (some mp)] 138)) (C:=zK z9 26 mp (K2.map zP)) pk pk pk)).call hb;clear hb hlk;simp only [zl,zr] at H;rcases y0 with ⟨rfl,y,rfl,hid⟩|⟨rfl,rfl,hrf,hlo,hnc⟩
    ·have HLR:=zh (HFX.out.learn HIN.out.1 HIN.out.2.2.1 HIN.out.2.2.2.1 HNO.out y1 y2 hid y3);clear y1 y2 y3 hid;go_wp2_with (first|refine sL ?_|(refine sS ?_;clear H;intros;rename_i H));go_roundg (stM x (kys (K2++[(p,y)])) (p::r));case measure=>exact HLR.out.2
     case rel=>exact ⟨X3,K2++[(p,y)],p::r,rfl,HLR.out.1,by rw [vO];exact H.picks (.cons pk (.cons pk (.cons pk (.cons pk .nil))))⟩
    ·have hpr2:=HFX.out.rng p (by simp);have htr:X3.S.tr p=X.S.tr p:=HFX.out.ext.le.tr HIN.out.1.ok hpr2.1 (by have:=HIN.out;omega);have hrf2:=ref_back HFX.out.ext.le hpr2.1 (by have:=HIN.out;omega) hrf;rw [htr] at hlo;have HPU:=zh (HFX.out.push HIN.out.1 HIN.out.2.2.1 HNO.out hlo hrf2 (kys_no hnc));have d9:((c:Int)==0)=false:=(by have:=hrf.1;simp;omega);have d9b:((c:Int) != 0)=true:=(by simp;have:=hrf.1;omega);clear y1 y2 y3 hrf hlo hnc htr hrf2 hpr2;go_wp2_with (first|refine sL ?_|(refine sS ?_;clear H;intros;rename_i H)|((with_reducible refine qR ?_);refine AtSlice.one H rfl rfl rfl rfl rfl rfl rfl rfl rfl ?_;clear H;intro b8 _ H;simp only [Act.put,puA,puB,puC])|((with_reducible refine qG ?_);refine AtAppend.go (enc:=zX) H rfl rfl rfl rfl rfl (by decide) (by decide) rfl (xs:=r.reverse++[p]) pk rfl (H.at pk) [c] rfl (by simp [zY,zX]) qy xO (by simp;omega) ?_;clear H;intro ad9 cp9 _ H;simp only [Act.put,puA,puB,puC]));go_roundg (stM x (kys K3) (c::p::r));case measure=>exact HPU.out.2
     case rel =>
      rw [HRL.out.1] at H;exact ⟨X3,K3,c::p::r,rfl,HPU.out.1,by rw [vO,vO];exact H.picks (.cons pk (.cons pk (.cons pk (.cons pk .nil))))⟩
end
section
open Go.RowKit Go.Maps
attribute [local go_sem] qw yM VR
structure Gz where
 kd:Int
 lt:Nat
 lf:Int
 rg:Int
 tm:Int
def Qj (q:Gz):List Value:=[.int .i64 q.kd,.int .u8 q.lt,.int .i64 q.lf,.int .i64 q.rg,.int .i64 q.tm]
theorem Yw (q:Gz):(Qj q).length=5:=rfl
def yN (l:List Nat):List Value:=[.string (xT l)]
theorem jD (l:List Nat):(yN l).length=1:=rfl
theorem Wb (l:List Nat):∀ u∈yN l,u.oneCell'=true:=fun u hu=>by simp [yN] at hu;subst hu;rfl
def TxR (ts:List (List Nat)) (i:Nat) (q:Gz) (t:List Nat):Prop :=
 (q.kd=1∧q.lf=0∧q.rg=0∧q.tm=0∧t=[q.lt]) ∨
 (∃ (l r:Nat) (a b:List Nat),q.kd=2∧q.lt=0∧q.tm=0∧q.lf=(l+1:Nat)∧q.rg=(r+1:Nat)∧l<i∧r<i∧ts[l]?=some a∧ts[r]?=some b∧t=a++b) ∨
 (∃ (l k:Nat) (a:List Nat),q.kd=3∧q.lt=0∧q.rg=0∧q.lf=(l+1:Nat)∧q.tm=(k:Nat)∧l<i∧2<=k∧k<=300∧ts[l]?=some a∧t=(zc k a).flatten)
structure TxP (g:List Gz) (ts:List (List Nat)) (i:Nat):Prop where
 len:ts.length=i
 at_:∀ j q,j<i->g[j]?=some q->∃ t,ts[j]?=some t∧t.length<=300∧t≠[]∧(∀ b∈t,b<256)∧TxR ts j q t
theorem TxR.app {ts:List (List Nat)} {i:Nat} {q:Gz} {t u:List Nat} (h:TxR ts i q t) (hi:i<=ts.length):TxR (ts++[u]) i q t:=by
 rcases h with h|⟨l,r,a,b,h1,h2,h3,h4,h5,h6,h7,h8,h9,h10⟩|⟨l,k,a,h1,h2,h3,h4,h5,h6,h7,h8,h9,h10⟩
 ·exact .inl h
 ·exact .inr (.inl ⟨l,r,a,b,h1,h2,h3,h4,h5,h6,h7,by rw [qr (by omega)];exact h8,by rw [qr (by omega)];exact h9,h10⟩)
 ·exact .inr (.inr ⟨l,k,a,h1,h2,h3,h4,h5,h6,h7,h8,by rw [qr (by omega)];exact h9,h10⟩)
theorem TxP.get {g:List Gz} {ts:List (List Nat)} {i l:Nat} {a:List Nat} (h:TxP g ts i) (hg:i<=g.length) (hl:ts[l]?=some a):a.length<=300∧a≠[]∧∀ b∈a,b<256:=by
 have hll:=yF hl;rw [h.len] at hll;obtain ⟨t,h1,h2,h3,h4,_⟩:=h.at_ l _ hll (zg (by omega));rw [hl] at h1;injection h1 with h1
 subst h1;exact ⟨h2,h3,h4⟩
theorem TxP.step {g:List Gz} {ts:List (List Nat)} {i:Nat} {q:Gz} {t:List Nat} (h:TxP g ts i) (hb:∀ q∈g,q.lt<256) (hq:g[i]?=some q) (hr:TxR ts i q t) (ht:t.length<=300):TxP g (ts++[t]) (i+1):=by
 have hil:=yF hq;have hq2:=hb q (zv hq);refine ⟨by simp [h.len],fun j q' hj hq'=>?_⟩;rcases qY j i with h1|h1
 ·obtain ⟨u,u1,u2,u3,u4,u5⟩:=h.at_ j q' h1 hq';exact ⟨u,by rw [qr (by rw [h.len];exact h1)];exact u1,u2,u3,u4,u5.app (by rw [h.len];omega)⟩
 ·obtain rfl:j=i:=by omega
  rw [hq] at hq';injection hq' with hq'
  subst hq';refine ⟨t,by rw [← h.len];simp,ht,?_,?_,hr.app (by rw [h.len];omega)⟩
  ·rcases hr with ⟨_,_,_,_,rfl⟩|⟨l,r,a,b,_,_,_,_,_,_,_,h8,_,rfl⟩|⟨l,k,a,_,_,_,_,_,_,h7,_,h9,rfl⟩
   ·simp
   ·have:=(h.get (by omega) h8).2.1;simp [this]
   ·have:=(h.get (by omega) h9).2.1;obtain ⟨k,rfl⟩:∃ m,k=m+1:=⟨k-1,by omega⟩
    simp [zR,this]
  ·rcases hr with ⟨_,_,_,_,rfl⟩|⟨l,r,a,b,_,_,_,_,_,_,_,h8,h9,rfl⟩|⟨l,k,a,_,_,_,_,_,_,_,_,h9,rfl⟩
   ·intro b hb';simp at hb';subst hb';exact hq2
   ·intro x hx;rcases zk.1 hx with hx|hx
    ·exact (h.get (by omega) h8).2.2 x hx
    ·exact (h.get (by omega) h9).2.2 x hx
   ·intro x hx;obtain ⟨u,hu,hx⟩:=J6.1 hx;rw [(kJ.1 hu).2] at hx;exact (h.get (by omega) h9).2.2 x hx
section
variable {ops:Array Oper} {Q:Exit->Act->World->Prop} {rest:List Oper} {a:Act} {w:World} {o1:Oper} {dst:Option Tmp} {ty0:TypeId} {pos:String} {aft:Array Edge} {gd:Option (Nat×Bool)}
def AtBts (P:Program) (ops:Array Oper) (Q:Exit->Act->World->Prop) (o:Oper) (_ _:TypeId) (_:Operand) (rest:List Oper) (a:Act) (w:World):Prop:=wpList P ops Q (o::rest) a w
theorem isBts {x:Operand} (h:AtBts z9 ops Q ⟨dst,.convert 42 9 x,ty0,pos,aft,gd⟩ 42 9 x rest a w):wpList z9 ops Q (⟨dst,.convert 42 9 x,ty0,pos,aft,gd⟩::rest) a w:=h
theorem AtBts.go {t u:TypeId} {x:Operand} (hw:Region.wanted o1 (yielded ops a.tmps)=true) (ho:o1.op=.convert t u x) {v z:Value} (hx:a.eval x=v) (hc:(convert t u v).run z9 w=.ok z w)
  (h:wpList z9 ops Q rest (a.put o1.dst z) w):AtBts z9 ops Q o1 t u x rest a w :=
 wpList_step fun _ hK=>by
  rw [if_pos hw];unfold Oper.wp execOp;simp only [ho,hx,Sem.run_bind,hc,Result.andThen_ok,Sem.run_pure];exact hK _ _ h
end
abbrev TxPost (g:List Gz) (w:World) (e:Ending) (w':World):Prop :=
 ∃ (v:Value) (ok:Bool) (ts:List (List Nat)),e=.returned (.tuple #[v,.bool ok])∧(ok=true->TxP g ts g.length)∧St w [] [zb yN 9 1 v ts] w'
def TxRel (g:List Gz) (w:World) (n m:Nat) (v6 v7:Value) (wr:World):Prop :=
 ∃ (i:Nat) (ts:List (List Nat)),m=n-i∧i<=n∧v7=.int .i64 i∧TxP g ts i∧St w [] [zb yN 9 1 v6 ts] wr
def TkRel (a:List Nat) (k m:Nat) (v10 v11:Value):Prop:=m<=k∧v10=.string (xT (zc (k-m) a).flatten)∧v11=.int .i64 (k-m:Nat)
theorem texts_c {P:we} {g:List Gz} {v:Value} (hr:RowIn P Qj 5 v g) (hb:∀ q∈g,q.lt<256) (hn40:g.length<=40) (w:World) (hp:(y9 P).ho w) :
  Calls z9 32 #[v,.int .i64 300] w (TxPost g w):=by
 have H:=St.nil w [];have HK:=Ks.one hp;obtain ⟨n,hnn⟩:∃ n,g.length=n:=⟨_,rfl⟩
 obtain ⟨ad,c,rfl,hmx9⟩:=hr.shape;have HCL:Hid (∀ (i:Nat) (q:Gz),g[i]?=some q->∃ b o,ad=some ⟨b,o,none⟩∧∀ w,(y9 P).ho w->w.rangeAt b (o+i*5) [.int .i64 q.kd,.int .u8 q.lt,.int .i64 q.lf,.int .i64 q.rg,.int .i64 q.tm]):=zh fun i q hq=>by
  obtain ⟨ad',c',e1,_,h3⟩:=id hr;obtain ⟨b,o,rfl,_⟩:=h3 (by have:=yF hq;omega);injection e1 with e1 _ _
  subst e1;exact ⟨b,o,rfl,fun w h=>hr.rng h Yw hq⟩
 rw [hnn] at hn40 ⊢;have HIN:Hid (g.length=n∧n<=40∧∀ q∈g,q.lt<256):=zh ⟨hnn,hn40,hb⟩;have HCV:Hid (∀ (b lt:Nat) (w:World),lt<256->(blk b (.cells #[.int .u8 lt] 5)).ho w->(convert 42 9 (.slice (some ⟨b,0,none⟩) 1 1)).run z9 w=.ok (.string (xT [lt])) w):=zh fun b lt w hlt h=>by
  refine bytes_conv (l:=[lt]) (fun x hx=>by simp at hx;omega) ?_;exact (ZG (enc:=qU) (k:=1) (n:=1) (c:=1) (xs:=[lt]) kw (St.one h) (zt _) (by simp [maxLen]) rfl rfl rfl).ho _ zM
 clear hr hnn hp hmx9 hb;go_enter Tryz.func32,Tryz.ntmps32;go_wp2_with (first|refine sL ?_|(refine sS ?_;clear H;intros;rename_i H));go_loopg [6,7] n (fun m v6 v7 wr=>TxRel g w n m v6 v7 wr);case atStart=>exact ⟨0,[],rfl,qk _,rfl,⟨rfl,fun j q hj=>absurd hj (jN _)⟩,(H.picks .nil).empty (A:=zb yN 9 1 (.slice none 0 0) []) (qp _) (by rw [qX];rfl)⟩
 case round =>
  clear H;obtain ⟨i,ts,rfl,hik,rfl,hrel,H⟩:=hrel;have HRL:=zh hrel;obtain ⟨ad2,c2,rfl,_⟩:=zE (H.get (A:=zb yN 9 1 _ ts) pk);by_cases hlt:i<n
  ·obtain ⟨q,hq⟩:∃ a,g[i]?=some a:=⟨_,zg (by rw [HIN.out.1];exact hlt)⟩
   obtain ⟨gb,o,rfl,hrng⟩:=HCL.out i q hq;have d90:decide ((i:Int)<(n:Int))=true:=(by simp;omega);have d90n:decide (i<n)=true:=(by simp;omega);have hil:i<n:=hlt;have HRX:=zh hrng;have HST:Hid (∀ t,TxR ts i q t->t.length<=300->TxP g (ts++[t]) (i+1)):=zh fun t h1 h2=>HRL.out.step HIN.out.2.2 hq h1 h2
   have HTS:Hid (ts.length=i):=zh hrel.len;have hti:ts.length<=40:=(by rw [hrel.len];omega);have HLT:Hid (q.lt<256):=zh (HIN.out.2.2 q (zv hq));have HRW:Hid (∀ (l:Nat) (a:List Nat),ts[l]?=some a->∃ g2,ad2=some ⟨g2,0,none⟩∧a.length<=300∧∀ w,(zb yN 9 1 (.slice ad2 ts.length c2) ts).ho w->w.cell? ⟨g2,l,none⟩=some (.string (xT a))):=zh fun l a hl=>by
    obtain ⟨g2,c8,e1,_⟩:=zZ (H.get (A:=zb yN 9 1 (.slice ad2 ts.length c2) ts) pk) (by have:=yF hl;omega);injection e1 with e1 _ _
    refine ⟨g2,e1,(HRL.out.get (by rw [HIN.out.1];exact hik) hl).1,fun w h=>?_⟩;rw [e1] at h;have:=zU h jD hl (j:=0) rfl;simpa using this
   obtain ⟨kd,lt,lf,rg,tm⟩:=q;simp only at HRX HST HLT;clear hrel hq hrng;by_cases k1:kd=1
   ·subst k1;replace HCV:=zh fun b w h=>HCV.out b lt w HLT.out h
    rcases zG (lf != 0) with d1|d1
    ·go_wp2_with (first|go_big_skip|refine sL ?_|(refine sS ?_;clear H;intros;rename_i H)|((with_reducible refine qi ?_);refine AtLoad.rngT rfl rfl rfl (HRX.out _ (H.known HK pk)) rfl ?_;simp only [Act.put,puA,puB,puC]));go_ret2;exact ⟨_,_,[],rfl,(fun h=>by cases h),(H.picks .nil).empty (A:=zb yN 9 1 (.slice none 0 0) []) (qp _) (by rw [qX];rfl)⟩
    rcases zG (rg != 0) with d2|d2
    ·go_wp2_with (first|go_big_skip|refine sL ?_|(refine sS ?_;clear H;intros;rename_i H)|((with_reducible refine qi ?_);refine AtLoad.rngT rfl rfl rfl (HRX.out _ (H.known HK pk)) rfl ?_;simp only [Act.put,puA,puB,puC]));go_ret2;exact ⟨_,_,[],rfl,(fun h=>by cases h),(H.picks .nil).empty (A:=zb yN 9 1 (.slice none 0 0) []) (qp _) (by rw [qX];rfl)⟩
    rcases zG (tm != 0) with d3|d3
    ·go_wp2_with (first|go_big_skip|refine sL ?_|(refine sS ?_;clear H;intros;rename_i H)|((with_reducible refine qi ?_);refine AtLoad.rngT rfl rfl rfl (HRX.out _ (H.known HK pk)) rfl ?_;simp only [Act.put,puA,puB,puC]));go_ret2;exact ⟨_,_,[],rfl,(fun h=>by cases h),(H.picks .nil).empty (A:=zb yN 9 1 (.slice none 0 0) []) (qp _) (by rw [qX];rfl)⟩
    have hf:=d1;have hg:=d2;have ht:=d3;simp at hf hg ht;subst hf hg ht;go_wp2_with (first|go_big_skip|refine sL ?_|(refine sS ?_;clear H;intros;rename_i H)|((with_reducible refine qi ?_);refine AtLoad.rngT rfl rfl rfl (HRX.out _ (H.known HK pk)) rfl ?_;simp only [Act.put,puA,puB,puC])|((with_reducible refine qR ?_);refine AtSlice.one H rfl rfl rfl rfl rfl rfl rfl rfl rfl ?_;clear H;intro b7 _ H;simp only [Act.put,puA,puB,puC])|((with_reducible refine isBts ?_);refine AtBts.go rfl rfl rfl (HCV.out b7 _ (H.get pk)) ?_;simp only [Act.put,puA,puB,puC])|((with_reducible refine qG ?_);refine AtAppend.go (enc:=yN) H rfl rfl rfl rfl rfl (by decide) (by decide) rfl (xs:=ts) pk rfl (H.at pk) [[lt]] rfl (by simp [zY,yN]) jD Wb (by simp;omega) ?_;clear H;intro ad9 cp9 _ H;simp only [Act.put,puA,puB,puC]));go_roundg (n-(i+1));case measure=>omega
    case rel=>exact ⟨i+1,ts++[[lt]],rfl,by omega,by go_num,HST.out [lt] (.inl ⟨rfl,rfl,rfl,rfl,rfl⟩) (by simp),H.picks (.cons pk .nil)⟩
   by_cases k2:kd=2
   ·subst k2;rcases zG (((lt:Nat):Int) != 0) with d1|d1
    ·go_wp2_with (first|go_big_skip|refine sL ?_|(refine sS ?_;clear H;intros;rename_i H)|((with_reducible refine qi ?_);refine AtLoad.rngT rfl rfl rfl (HRX.out _ (H.known HK pk)) rfl ?_;simp only [Act.put,puA,puB,puC]));go_ret2;exact ⟨_,_,[],rfl,(fun h=>by cases h),(H.picks .nil).empty (A:=zb yN 9 1 (.slice none 0 0) []) (qp _) (by rw [qX];rfl)⟩
    rcases zG (tm != 0) with d2|d2
    ·go_wp2_with (first|go_big_skip|refine sL ?_|(refine sS ?_;clear H;intros;rename_i H)|((with_reducible refine qi ?_);refine AtLoad.rngT rfl rfl rfl (HRX.out _ (H.known HK pk)) rfl ?_;simp only [Act.put,puA,puB,puC]));go_ret2;exact ⟨_,_,[],rfl,(fun h=>by cases h),(H.picks .nil).empty (A:=zb yN 9 1 (.slice none 0 0) []) (qp _) (by rw [qX];rfl)⟩
    rcases zG (decide (lf<1)) with d3|d3
    ·go_wp2_with (first|go_big_skip|refine sL ?_|(refine sS ?_;clear H;intros;rename_i H)|((with_reducible refine qi ?_);refine AtLoad.rngT rfl rfl rfl (HRX.out _ (H.known HK pk)) rfl ?_;simp only [Act.put,puA,puB,puC]));go_ret2;exact ⟨_,_,[],rfl,(fun h=>by cases h),(H.picks .nil).empty (A:=zb yN 9 1 (.slice none 0 0) []) (qp _) (by rw [qX];rfl)⟩
    rcases zG (decide (rg<1)) with d4|d4
    ·go_wp2_with (first|go_big_skip|refine sL ?_|(refine sS ?_;clear H;intros;rename_i H)|((with_reducible refine qi ?_);refine AtLoad.rngT rfl rfl rfl (HRX.out _ (H.known HK pk)) rfl ?_;simp only [Act.put,puA,puB,puC]));go_ret2;exact ⟨_,_,[],rfl,(fun h=>by cases h),(H.picks .nil).empty (A:=zb yN 9 1 (.slice none 0 0) []) (qp _) (by rw [qX];rfl)⟩
    rcases zG (decide ((i:Int)+1<=lf)) with d5|d5
    ·go_wp2_with (first|go_big_skip|refine sL ?_|(refine sS ?_;clear H;intros;rename_i H)|((with_reducible refine qi ?_);refine AtLoad.rngT rfl rfl rfl (HRX.out _ (H.known HK pk)) rfl ?_;simp only [Act.put,puA,puB,puC]));go_ret2;exact ⟨_,_,[],rfl,(fun h=>by cases h),(H.picks .nil).empty (A:=zb yN 9 1 (.slice none 0 0) []) (qp _) (by rw [qX];rfl)⟩
    rcases zG (decide ((i:Int)+1<=rg)) with d6|d6
    ·go_wp2_with (first|go_big_skip|refine sL ?_|(refine sS ?_;clear H;intros;rename_i H)|((with_reducible refine qi ?_);refine AtLoad.rngT rfl rfl rfl (HRX.out _ (H.known HK pk)) rfl ?_;simp only [Act.put,puA,puB,puC]));go_ret2;exact ⟨_,_,[],rfl,(fun h=>by cases h),(H.picks .nil).empty (A:=zb yN 9 1 (.slice none 0 0) []) (qp _) (by rw [qX];rfl)⟩
    have q1:lt=0:=(by simpa using d1);have q2:tm=0:=(by simpa using d2);subst q1 q2;obtain ⟨l,hlf⟩:∃ l:Nat,lf=(l+1:Nat):=⟨(lf-1).toNat,by simp at d3;omega⟩
    have hl:l<i:=(by simp at d5;omega);obtain ⟨a,ha⟩:∃ a,ts[l]?=some a:=⟨_,zg (by rw [HTS.out];exact hl)⟩
    obtain ⟨g2,rfl,ha3,hca⟩:=HRW.out l a ha;have HCA:=zh hca;have i1:lf-1=(l:Nat):=(by omega);have hlts:l<ts.length:=(by rw [HTS.out];exact hl);obtain ⟨r,hrg⟩:∃ r:Nat,rg=(r+1:Nat):=⟨(rg-1).toNat,by simp at d4;omega⟩
    have hr:r<i:=(by simp at d6;omega);obtain ⟨b,hb⟩:∃ a,ts[r]?=some a:=⟨_,zg (by rw [HTS.out];exact hr)⟩
    obtain ⟨g3,e3,hb3,hcb⟩:=HRW.out r b hb;injection e3 with e3
    injection e3 with e3
    subst e3;have HCB:=zh hcb;have i2:rg-1=(r:Nat):=(by omega);have hrts:r<ts.length:=(by rw [HTS.out];exact hr);have HTR:Hid (TxR ts i ⟨2,0,lf,rg,0⟩ (a++b)):=zh (.inr (.inl ⟨l,r,a,b,rfl,rfl,rfl,hlf,hrg,hl,hr,ha,hb,rfl⟩));clear hca hcb ha hb HRW hlf hrg;go_wp2_with (first|go_big_skip|refine sL ?_|(refine sS ?_;clear H;intros;rename_i H)|((with_reducible refine qi ?_);refine AtLoad.rngT rfl rfl rfl (HRX.out _ (H.known HK pk)) rfl ?_;simp only [Act.put,puA,puB,puC]));rcases zG (decide ((300:Int)<(a.length:Int)+(b.length:Int))) with e9|e9
    ·skip
     refine zC H 14 [] [] (by kernel_rfl) (by kernel_rfl) ?_;apply Exists.intro;refine ⟨fun w1 hw1 HX=>?_,fun bs wr Hr=>?_⟩
     ·refine sG ?_;repeat (first|go_big_quiet_skip|refine sQ ?_|fail|go_big_quiet_step (fail))
      exact wpQuiet_nil rfl
     clear H;have H:=Hr;clear Hr;replace H:=sH H;refine sT ?_;go_wp2_with (first|go_big_skip|refine sL ?_|(refine sS ?_;clear H;intros;rename_i H)|((with_reducible refine qi ?_);refine AtLoad.rngT rfl rfl rfl (HRX.out _ (H.known HK pk)) rfl ?_;simp only [Act.put,puA,puB,puC]));go_ret2;exact ⟨_,_,[],rfl,(fun h=>by cases h),(H.picks .nil).empty (A:=zb yN 9 1 (.slice none 0 0) []) (qp _) (by rw [qX];rfl)⟩
    have hab:(a++b).length<=300:=(by simp at e9;simp;omega);have e9n:decide (300<a.length+b.length)=false:=(by simp at hab;simp;omega);refine zC H 14 [] [] (by kernel_rfl) (by kernel_rfl) ?_;apply Exists.intro;refine ⟨fun w1 hw1 HX=>?_,fun bs wr Hr=>?_⟩
    ·refine sG ?_;repeat (first|go_big_quiet_skip|refine sQ ?_|fail|go_big_quiet_step (fail))
     exact wpQuiet_nil rfl
    clear H;have H:=Hr;clear Hr;replace H:=sH H;refine sT ?_;go_wp2_with (first|go_big_skip|refine sL ?_|(refine sS ?_;clear H;intros;rename_i H)|((with_reducible refine qi ?_);refine AtLoad.rngT rfl rfl rfl (HRX.out _ (H.known HK pk)) rfl ?_;simp only [Act.put,puA,puB,puC])|((with_reducible refine qR ?_);refine AtSlice.one H rfl rfl rfl rfl rfl rfl rfl rfl rfl ?_;clear H;intro b7 _ H;simp only [Act.put,puA,puB,puC])|((with_reducible refine qG ?_);refine AtAppend.go (enc:=yN) H rfl rfl rfl rfl rfl (by decide) (by decide) rfl (xs:=ts) pk rfl (H.at pk) [a++b] rfl (by simp [zY,yN]) jD Wb (by simp;omega) ?_;clear H;intro ad9 cp9 _ H;simp only [Act.put,puA,puB,puC]));go_roundg (n-(i+1));case measure=>omega
    case rel=>exact ⟨i+1,ts++[a++b],rfl,by omega,by go_num,HST.out _ HTR.out hab,H.picks (.cons pk .nil)⟩
   by_cases k3:kd=3
   ·subst k3;rcases zG (((lt:Nat):Int) != 0) with d1|d1
    ·go_wp2_with (first|go_big_skip|refine sL ?_|(refine sS ?_;clear H;intros;rename_i H)|((with_reducible refine qi ?_);refine AtLoad.rngT rfl rfl rfl (HRX.out _ (H.known HK pk)) rfl ?_;simp only [Act.put,puA,puB,puC]));go_ret2;exact ⟨_,_,[],rfl,(fun h=>by cases h),(H.picks .nil).empty (A:=zb yN 9 1 (.slice none 0 0) []) (qp _) (by rw [qX];rfl)⟩
    rcases zG (rg != 0) with d2|d2
    ·go_wp2_with (first|go_big_skip|refine sL ?_|(refine sS ?_;clear H;intros;rename_i H)|((with_reducible refine qi ?_);refine AtLoad.rngT rfl rfl rfl (HRX.out _ (H.known HK pk)) rfl ?_;simp only [Act.put,puA,puB,puC]));go_ret2;exact ⟨_,_,[],rfl,(fun h=>by cases h),(H.picks .nil).empty (A:=zb yN 9 1 (.slice none 0 0) []) (qp _) (by rw [qX];rfl)⟩
    rcases zG (decide (lf<1)) with d3|d3
    ·go_wp2_with (first|go_big_skip|refine sL ?_|(refine sS ?_;clear H;intros;rename_i H)|((with_reducible refine qi ?_);refine AtLoad.rngT rfl rfl rfl (HRX.out _ (H.known HK pk)) rfl ?_;simp only [Act.put,puA,puB,puC]));go_ret2;exact ⟨_,_,[],rfl,(fun h=>by cases h),(H.picks .nil).empty (A:=zb yN 9 1 (.slice none 0 0) []) (qp _) (by rw [qX];rfl)⟩
    rcases zG (decide ((i:Int)+1<=lf)) with d4|d4
    ·go_wp2_with (first|go_big_skip|refine sL ?_|(refine sS ?_;clear H;intros;rename_i H)|((with_reducible refine qi ?_);refine AtLoad.rngT rfl rfl rfl (HRX.out _ (H.known HK pk)) rfl ?_;simp only [Act.put,puA,puB,puC]));go_ret2;exact ⟨_,_,[],rfl,(fun h=>by cases h),(H.picks .nil).empty (A:=zb yN 9 1 (.slice none 0 0) []) (qp _) (by rw [qX];rfl)⟩
    rcases zG (decide (tm<2)) with d5|d5
    ·go_wp2_with (first|go_big_skip|refine sL ?_|(refine sS ?_;clear H;intros;rename_i H)|((with_reducible refine qi ?_);refine AtLoad.rngT rfl rfl rfl (HRX.out _ (H.known HK pk)) rfl ?_;simp only [Act.put,puA,puB,puC]));go_ret2;exact ⟨_,_,[],rfl,(fun h=>by cases h),(H.picks .nil).empty (A:=zb yN 9 1 (.slice none 0 0) []) (qp _) (by rw [qX];rfl)⟩
    rcases zG (decide ((300:Int)<tm)) with d6|d6
    ·go_wp2_with (first|go_big_skip|refine sL ?_|(refine sS ?_;clear H;intros;rename_i H)|((with_reducible refine qi ?_);refine AtLoad.rngT rfl rfl rfl (HRX.out _ (H.known HK pk)) rfl ?_;simp only [Act.put,puA,puB,puC]));go_ret2;exact ⟨_,_,[],rfl,(fun h=>by cases h),(H.picks .nil).empty (A:=zb yN 9 1 (.slice none 0 0) []) (qp _) (by rw [qX];rfl)⟩
    have q1:lt=0:=(by simpa using d1);have q2:rg=0:=(by simpa using d2);subst q1 q2;obtain ⟨l,hlf⟩:∃ l:Nat,lf=(l+1:Nat):=⟨(lf-1).toNat,by simp at d3;omega⟩
    have hl:l<i:=(by simp at d4;omega);obtain ⟨a,ha⟩:∃ a,ts[l]?=some a:=⟨_,zg (by rw [HTS.out];exact hl)⟩
    obtain ⟨g2,rfl,ha3,hca⟩:=HRW.out l a ha;have HCA:=zh hca;have i1:lf-1=(l:Nat):=(by omega);have hlts:l<ts.length:=(by rw [HTS.out];exact hl);obtain ⟨k,htm⟩:∃ k:Nat,tm=(k:Nat):=⟨tm.toNat,by simp at d5;omega⟩
    have hk2:2<=k:=(by simp at d5;omega);have hk3:k<=300:=(by simp at d6;omega);obtain ⟨s,hs⟩:∃ s:Nat,(a.length:Int)*tm=(s:Nat):=⟨a.length*k,by rw [htm,XT]⟩
    have hsk:a.length*k=s:=(by rw [htm,← XT] at hs;omega);have hsb:s<=90000:=(by rw [← hsk];exact ZE ha3 hk3);obtain ⟨t,ht⟩:∃ t,(zc k a).flatten=t:=⟨_,rfl⟩
    have htl:t.length=s:=(by rw [← ht,← hsk,List.length_flatten,Qd,Xz,xq]);have HTR:Hid (TxR ts i ⟨3,0,lf,0,tm⟩ t):=zh (.inr (.inr ⟨l,k,a,rfl,rfl,rfl,hlf,htm,hl,hk2,hk3,ha,ht.symm⟩));have HTM:Hid (tm=(k:Nat)∧(zc k a).flatten=t∧t.length=s):=zh ⟨htm,ht,htl⟩;rcases zG (decide ((300:Int)<(s:Nat))) with e9|e9
    ·clear hca ha HRW hlf htm hsk ht htl;go_wp2_with (first|go_big_skip|refine sL ?_|(refine sS ?_;clear H;intros;rename_i H)|((with_reducible refine qi ?_);refine AtLoad.rngT rfl rfl rfl (HRX.out _ (H.known HK pk)) rfl ?_;simp only [Act.put,puA,puB,puC]));refine zC H 12 [] [] (by kernel_rfl) (by kernel_rfl) ?_;apply Exists.intro;refine ⟨fun w1 hw1 HX=>?_,fun bs wr Hr=>?_⟩
     ·refine sG ?_;repeat (first|go_big_quiet_skip|refine sQ ?_|fail|go_big_quiet_step (fail))
      exact wpQuiet_nil rfl
     clear H;have H:=Hr;clear Hr;replace H:=sH H;refine sT ?_;go_wp2_with (first|go_big_skip|refine sL ?_|(refine sS ?_;clear H;intros;rename_i H)|((with_reducible refine qi ?_);refine AtLoad.rngT rfl rfl rfl (HRX.out _ (H.known HK pk)) rfl ?_;simp only [Act.put,puA,puB,puC]));go_ret2;exact ⟨_,_,[],rfl,(fun h=>by cases h),(H.picks .nil).empty (A:=zb yN 9 1 (.slice none 0 0) []) (qp _) (by rw [qX];rfl)⟩
    have hs3:s<=300:=(by simp at e9;omega);have e9n:decide (300<s)=false:=(by simp;omega);clear hca ha HRW hlf htm hsk ht htl;go_wp2_with (first|go_big_skip|refine sL ?_|(refine sS ?_;clear H;intros;rename_i H)|((with_reducible refine qi ?_);refine AtLoad.rngT rfl rfl rfl (HRX.out _ (H.known HK pk)) rfl ?_;simp only [Act.put,puA,puB,puC]));refine zC H 12 [] [] (by kernel_rfl) (by kernel_rfl) ?_;apply Exists.intro;refine ⟨fun w1 hw1 HX=>?_,fun bs wr Hr=>?_⟩
    ·refine sG ?_;repeat (first|go_big_quiet_skip|refine sQ ?_|fail|go_big_quiet_step (fail))
     exact wpQuiet_nil rfl
    clear H;have H:=Hr;clear Hr;replace H:=sH H;refine sT ?_;go_wp2_with (first|go_big_skip|refine sL ?_|(refine sS ?_;clear H;intros;rename_i H)|((with_reducible refine qi ?_);refine AtLoad.rngT rfl rfl rfl (HRX.out _ (H.known HK pk)) rfl ?_;simp only [Act.put,puA,puB,puC]));rename_i b8 _ _ _ _;replace H:St w [] [blk b8 (.cells #[.int .i64 3,.int .u8 (0:Nat),.int .i64 lf,.int .i64 0,.int .i64 tm] 131),zb yN 9 1 (.slice (some ⟨g2,0,none⟩) ts.length c2) ts] _:=H.picks (.cons (A:=blk b8 (.cells #[.int .i64 3,.int .u8 (0:Nat),.int .i64 lf,.int .i64 0,.int .i64 tm] 131)) pk (.cons (A:=zb yN 9 1 (.slice (some ⟨g2,0,none⟩) ts.length c2) ts) pk .nil));clear hs;go_loopg [10,11] k (fun m v10 v11 wr=>TkRel a k m v10 v11∧St w [] [blk b8 (.cells #[.int .i64 3,.int .u8 (0:Nat),.int .i64 lf,.int .i64 0,.int .i64 tm] 131),zb yN 9 1 (.slice (some ⟨g2,0,none⟩) ts.length c2) ts] wr);case atStart=>exact ⟨⟨zt _,by rw [QO];exact congrArg Value.string (by rw [List.replicate_zero,List.flatten_nil];exact strB_nil.symm),by rw [QO];rfl⟩,H⟩
    case round =>
     clear H;obtain ⟨⟨hm,rfl,rfl⟩,H⟩:=hrel;obtain ⟨j,hj⟩:∃ j,k-gk=j:=⟨_,rfl⟩
     rw [hj];rcases qt gk with h0|h0
     ·have hjk:j=k:=(by omega);subst hjk;have dj:decide ((j:Int)<tm)=false:=(by rw [HTM.out.1];simp);have hsz:(xT (zc j a).flatten)=xT t:=(by rw [HTM.out.2.1]);rw [hsz];have htl:=HTM.out.2.2;have htn:(t.length:Int)=(s:Nat):=(by rw [htl]);clear htl;go_wp2_with (first|go_big_skip|refine sL ?_|(refine sS ?_;clear H;intros;rename_i H)|((with_reducible refine qi ?_);refine AtLoad.rngT rfl rfl rfl (HRX.out _ (H.known HK pk)) rfl ?_;simp only [Act.put,puA,puB,puC])|((with_reducible refine qR ?_);refine AtSlice.one H rfl rfl rfl rfl rfl rfl rfl rfl rfl ?_;clear H;intro b7 _ H;simp only [Act.put,puA,puB,puC])|((with_reducible refine qG ?_);refine AtAppend.go (enc:=yN) H rfl rfl rfl rfl rfl (by decide) (by decide) rfl (xs:=ts) pk rfl (H.at pk) [t] rfl (by simp [zY,yN]) jD Wb (by simp;omega) ?_;clear H;intro ad9 cp9 _ H;simp only [Act.put,puA,puB,puC]));go_roundg (n-(i+1));case measure=>omega
      case rel=>exact ⟨i+1,ts++[t],rfl,by omega,by go_num,HST.out _ HTR.out (by rw [HTM.out.2.2];exact hs3),H.picks (.cons pk .nil)⟩
     ·have hjk:j<k:=(by omega);have dj:decide ((j:Int)<tm)=true:=(by rw [HTM.out.1];simp;omega);have HJ:=zh hj;have hjb:j*a.length<=90000:=qu (ZE (show j<=300 by omega) ha3) (by omega);clear hj;go_wp2_with (first|go_big_skip|refine sL ?_|(refine sS ?_;clear H;intros;rename_i H)|((with_reducible refine qi ?_);refine AtLoad.rngT rfl rfl rfl (HRX.out _ (H.known HK pk)) rfl ?_;simp only [Act.put,puA,puB,puC]));go_roundg (gk-1);case measure=>omega
      case rel =>
       have hj:=HJ.out;have e:k-(gk-1)=j+1:=(by omega);exact ⟨⟨by omega,by rw [e,xB,Ym];simp,by rw [e];rfl⟩,H⟩
   ·have d1:(kd==1)=false:=(by simpa using k1);have d2:(kd==2)=false:=(by simpa using k2);have d3:(kd==3)=false:=(by simpa using k3);clear k1 k2 k3;go_wp2_with (first|go_big_skip|refine sL ?_|(refine sS ?_;clear H;intros;rename_i H)|((with_reducible refine qi ?_);refine AtLoad.rngT rfl rfl rfl (HRX.out _ (H.known HK pk)) rfl ?_;simp only [Act.put,puA,puB,puC]));go_ret2;exact ⟨_,_,[],rfl,(fun h=>by cases h),(H.picks .nil).empty (A:=zb yN 9 1 (.slice none 0 0) []) (qp _) (by rw [qX];rfl)⟩
  ·have d90:decide ((i:Int)<(n:Int))=false:=(by simp;omega);have d90n:decide (i<n)=false:=(by simp;omega);have hin:n=i:=(by omega);subst hin;clear hrel;go_wp2_with (first|refine sL ?_|(refine sS ?_;clear H;intros;rename_i H));go_ret2;exact ⟨_,true,ts,rfl,fun _=>by rw [HIN.out.1];exact HRL.out,H.picks (.cons pk .nil)⟩
end
section
open Go.RowKit Go.Maps
attribute [local go_sem] qw yM
theorem parser_m {X:Px} {bm mp:Nat} (w:World) (h:(blk bm (.cells #[.pointer (some ⟨X.p,0,none⟩),.map (some mp)] 138)).ho w):Calls z9 69 #[.pointer (some ⟨bm,0,none⟩)] w fun e w'=>e=.returned (.pointer (some ⟨X.p,0,none⟩))∧w'=w:=by
 have H:=St.nil w [];have HC:Hid (w.cell? ⟨bm,0,none⟩=some (.pointer (some ⟨X.p,0,none⟩))):=zh (by rw [xi] at h;rw [cell_of_row w _ 0 _ _ _ h];rfl);clear h;go_enter Tryz.func69,Tryz.ntmps69;go_wp2_with (first|refine sL ?_|(refine sS ?_;clear H;intros;rename_i H)|((with_reducible refine qi ?_);refine AtLoad.cel rfl rfl rfl rfl HC.out ?_;simp only [Act.put,puA,puB,puC]));go_ret;exact ⟨rfl,rfl⟩
theorem KG {fn:Func} {t u v x:Tmp} (h:fn.results=#[.tmp t,.tmp u,.tmp v,.tmp x]) (tmps:Array Value) (P:Program) (w:World) :
  (results fn tmps).run P w=.ok (.tuple #[tmps.getD t undef,tmps.getD u undef,tmps.getD v undef,tmps.getD x undef]) w:=by
 simp [results,h]
abbrev Kb (n:Nat) (w:World) (e:Ending) (w':World):Prop :=
 ∃ (X:Px) (bm mp:Nat),e=.returned (.tuple #[.pointer (some ⟨X.s,0,none⟩),.pointer (some ⟨X.p,0,none⟩),.pointer (some ⟨bm,0,none⟩),.bool true])∧zL X∧X.S=⟨n,[]⟩∧St w [] [pA X,blk bm (.cells #[.pointer (some ⟨X.p,0,none⟩),.map (some mp)] 138),zK z9 26 mp (([]:List (Nat×Nat)).map zP)] w'
theorem start_c (n:Nat) (hn:n<=1048576) (z:Int) (hz:z=n) (w:World) :
  Calls z9 33 #[.int .i64 z] w (Kb n w):=by
 subst hz;have H:=St.nil w [];have HNW:Hid (∀ w,Calls z9 55 #[.int .i64 (n:Nat)] w fun e w'=>∃ p m,e=.returned (.pointer (some ⟨p,0,none⟩))∧St w [] [qF p (.slice none 0 0) m ⟨n,[]⟩] w'):=zh fun w=>new_c n hn _ rfl w
 have HSN:Hid (∀ ps pm w,(qF ps (.slice none 0 0) pm ⟨n,[]⟩).ho w->Calls z9 54 #[.pointer (some ⟨ps,0,none⟩)] w fun e w'=>∃ X:Px,X.s=ps∧X.S=⟨n,[]⟩∧zL X∧e=.returned (.pointer (some ⟨X.p,0,none⟩))∧St w (qF ps (.slice none 0 0) pm ⟨n,[]⟩).fp [pA X] w'):=zh fun ps pm w h=>snew_c ⟨hn,by simp,fun i j x y h=>by simp at h,fun i x h=>by simp at h⟩ w h
 have HCN:Hid (∀ (X:Px) w,Calls z9 36 #[.pointer (some ⟨X.p,0,none⟩)] w fun e w'=>∃ bm mp:Nat,e=.returned (.pointer (some ⟨bm,0,none⟩))∧St w [] [blk bm (.cells #[.pointer (some ⟨X.p,0,none⟩),.map (some mp)] 138),zK z9 26 mp (([]:List (Nat×Nat)).map zP)] w'):=zh fun X w=>cnew_c w
 have HPM:Hid (∀ (X:Px) (bm mp:Nat) w,(blk bm (.cells #[.pointer (some ⟨X.p,0,none⟩),.map (some mp)] 138)).ho w->Calls z9 69 #[.pointer (some ⟨bm,0,none⟩)] w fun e w'=>e=.returned (.pointer (some ⟨X.p,0,none⟩))∧w'=w):=zh fun X bm mp w h=>parser_m w h
 have heq:∀ (p:Nat) w,(binOp .eql 25 (.pointer (some ⟨p,0,none⟩)) (.pointer (some ⟨p,0,none⟩))).run z9 w=.ok (.bool true) w:=fun p w=>by
  obtain ⟨j,hj⟩:=Option.isSome_iff_exists.1 (show (z9.info? 119).isSome=true by kernel_rfl);exact run_eql_ptr_same w _ (by kernel_rfl) hj
 unfold Kb;go_enter Tryz.func33,Tryz.ntmps33;go_wp2_with (first|refine sL ?_|(refine sS ?_;clear H;intros;rename_i H)|(go_at_call 55;with_reducible refine zm (HNW.out _) ?_;rintro e9 wc ⟨ps,pm,rfl,hb⟩;replace H:=zn (H.call0 hb);clear hb)|(go_at_call 54;with_reducible refine zm (HSN.out _ _ _ (H.get pk)) ?_;rintro e9 wc ⟨X,hxs,hxS,hxo,rfl,hb⟩;have HXN:=zh (za hxS hxo);clear hxS hxo;replace H:=(H.pick pk).call hb;clear hb;subst hxs;simp only [zl,zr] at H)|(go_at_call 36;with_reducible refine zm (HCN.out X _) ?_;rintro e9 wc ⟨bm,mp,rfl,hb⟩;replace H:=zn (H.call0 hb);clear hb)|(go_at_call 69;with_reducible refine same (HPM.out X bm mp _ (H.get pk)) ?_));(try simp only [Exit.inBlock,Exit.then])
 refine bodyPost_ret (KG rfl _ _ _) rfl ?_;exact ⟨X,bm,mp,rfl,HXN.out.2,HXN.out.1,H.picks (.cons pk (.cons pk (.cons pk .nil)))⟩
end
end Go.Proofs.YtgnppnokkdghcaaGreatDoor
