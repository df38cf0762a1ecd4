/-
  Part 4 of the texts behind the statements of this seat: walks and laws Tu, Ua, Ub, Sg, Uc, Px, Ud, Xa, Za, Xb, Xc, Xd, Xe, Xf, Xg, Xh, Xi, Zb, Va, Vb, Vc, Ue. Conditions: as each states.
-/
import Derived.Test.YtijnhpaafhcndaaGreatEr3
import Derived.LoopIn
import Derived.LoopNIn
import Derived.OwnWalkIn
import Derived.RangeFuncBound
import Derived.RangeFuncCalls
import Derived.RangeFuncLeaves
import Derived.RangeFuncNested
import Derived.RangeFuncWrites
import Derived.TacticsInMore
set_option linter.unusedSimpArgs false
set_option linter.unusedVariables false
set_option maxRecDepth 100000
set_option maxHeartbeats 80000000
namespace Go.Proofs.YtijnhpaafhcndaaGreat
section
open Go.RowKit Go.Maps
attribute [local go_sem] InGr
theorem copies_look {S:Sto} {T T':Tab} (hext:T.Ext T') (hT:TabOk S T') {i tid k:Nat} {x:En} (hi:i + 1≤1048577) (hkn:T'.Known (i + 1)) (hx:S.list[i]? = some (powerE x tid k)) :
  ∃ a1 n1 c1 a2 n2 c2 g o n c,∃ cps:List (Value × Value),(∀ w,(mapA Tryz.prog 32 T.km (T'.es.map entV)).ho w→(Instr.lookup 88 (.map (some T.km)) (.int .i64 ((i + 1:Nat):Int)) false).run Tryz.prog w = .ok (.agg #[.slice a1 n1 c1,.slice a2 n2 c2,.slice (some ⟨g,o,none⟩) n c]) w)∧cps.length = n∧n≤64∧k < 2 ^ n∧RowIn T'.P encP 2 (.slice (some ⟨g,o,none⟩) n c) cps∧∀ (j:Nat) (p:Value × Value),cps[j]? = some p→EffAt T'.P T.mc (dirT T.back (rep (2 ^ j) (S.txt tid))) p.1 p.2:=by
 obtain ⟨p1,p2,p3,p4,p5,p6⟩:=hext.same
 obtain ⟨⟨v1,v2,v3⟩,hv⟩:=hkn
 obtain ⟨i',x',h1,h2,h3⟩:=hT.ents _ hv
 have h1':i + 1 = i' + 1:=h1
 obtain rfl:i = i':=by omega
 rw [hx] at h2
 cases h2
 obtain ⟨cps,r1,r2,r3,r4,r5⟩:=h3.copies rfl
 obtain ⟨cn,ok⟩:=hT.ok
 obtain ⟨g,o,c,g',o',c',e1,e2⟩:=h3.eff.shape ok.n1
 obtain ⟨gc,oc,cc,e3,r1'⟩:=r1.hasN rfl (by omega)
 refine ⟨some ⟨g,o,none⟩,T'.mc.n,c,some ⟨g',o',none⟩,T'.mc.n,c',gc,oc,cps.length,cc,cps,fun w h=>?_,rfl,r3,r4,r1',fun j p hp=>?_⟩
 ·rw [← p3] at h ⊢
  have:=look_known hT hi hv h false
  have f1:v1 = _:=e1
  have f2:v2 = _:=e2
  have f3:v3 = _:=e3
  subst f1 f2 f3
  exact this
 ·rw [← p5,← p6];exact r5 j p hp
theorem St.only4 {w0 w:World} {M:List Nat} {L R1 R2 R3 R4:List As} {A B C D:As} (h:St w0 M L w) (h1:Pick L A R1) (h2:Pick R1 B R2) (h3:Pick R2 C R3) (h4:Pick R3 D R4):St w0 M [A,B,C,D] w :=
 (h.perm (L':=[A,B,C,D] ++ R4) (h1.perm.trans ((h2.perm.trans ((h3.perm.trans ((h4.perm).cons _)).cons _)).cons _))).heads
theorem power_le {S:Sto} (hS:S.Ok) {i tid k:Nat} {x:En} (hx:S.list[i]? = some (powerE x tid k)):k≤1152921504606846976:=by
 generalize hy:powerE x tid k = y at hx
 have hm:=maxT_eq
 cases hS.ents i y hx with
 |letter b hb=>simp [powerE,letterE] at hy
 |pair l r y z hl hr hy' hz h=>simp [powerE,pairE] at hy
 |power l k' y' hl hy' hk h =>
  have hp:=(hS.good l y' hy').pos
  have e:k = k':=by simp [powerE] at hy;omega
  subst e
  have:=Nat.le_mul_of_pos_left k hp
  omega
theorem capN_big {s:Nat}:(capN s≤1152921504606846976 ↔ s≤1152921504606846976)∧(s≤1152921504606846976→capN s = s):=by
 unfold capN beyond;omega
def PaRel (S:Sto) (T T':Tab) (cs:Array Value) (M:List Nat) (w:World) (q0:Nat) (ad:Option Addr) (c pl:Nat) (ps:List Pt) (v4 v11 v78:Value) (wr:World):Prop :=
 ∃ j q h:Nat,v4 = .int .i64 q∧v11 = .int .i64 h∧v78 = .int .i64 j∧j≤pl∧q < T.mc.n∧PRun T.mc q0 (runP S T.back (ps.take j)) q h∧St w M [blk T.p (.cells cs 90),poolA T'.P,mapA Tryz.prog 32 T.km (T'.es.map entV),rowsA encT 137 3 (.slice ad pl c) ps] wr
def BiRel (S:Sto) (T T':Tab) (cs:Array Value) (M:List Nat) (w:World) (q0:Nat) (ad:Option Addr) (c pl:Nat) (ps:List Pt) (l base:List Nat) (tt:Nat) (v4 v11 v21 v22:Value) (wr:World):Prop :=
 ∃ j k q h:Nat,v4 = .int .i64 q∧v11 = .int .i64 h∧v21 = .int .i64 j∧v22 = .int .i64 k∧j≤65∧k≤tt∧q < T.mc.n∧BRun T.mc q0 l base tt j k q h∧St w M [blk T.p (.cells cs 90),poolA T'.P,mapA Tryz.prog 32 T.km (T'.es.map entV),rowsA encT 137 3 (.slice ad pl c) ps] wr
def PartPost (S:Sto) (T:Tab) (q0:Nat) (l:List Nat) (M:List Nat) (w:World) (e:Ending) (w':World):Prop :=
 ∃ T',e = .returned (if T.mc.sum q0 l≤1152921504606846976 then .tuple #[.int .i64 (T.mc.ends q0 l:Nat),.int .i64 (T.mc.sum q0 l:Nat),.nilIface] else .tuple #[.int .i64 0,.int .i64 0,.iface 42 (.int .i64 2)])∧T.Ext T'∧TabOk S T'∧St w M [tabA T'] w'
theorem part_c {S:Sto} {T:Tab} {lv:Value} {m id s n q:Nat} (hS:S.Ok) (hT:TabOk S T) (hid:id≤S.list.length) (hq:q < T.mc.n) (hf:s + n≤(S.txt id).length) (w:World) (h:((tabA T).sep (stoA T.s lv m S)).ho w) :
  Calls Tryz.prog 40 #[.pointer (some ⟨T.p,0,none⟩),.int .i64 id,.int .i64 s,.int .i64 n,.int .i64 q] w (PartPost S T q (dirT T.back (S.pcTxt ⟨id,s,n⟩)) (tabA T).fp w):=by
 have h0:=h
 rw [sep_ho] at h
 obtain ⟨h1,h2,hd⟩:=h
 have H:=St.one h1
 have HK:Ks w (tabA T).fp [stoA T.s lv m S]:=⟨by simpa using h2,by simpa using fun b hb hm=>hd b hm hb⟩
 have HC:Hid (∀ w,(tabA T).ho w→(stoA T.s lv m S).ho w→Calls Tryz.prog 66 #[.pointer (some ⟨T.p,0,none⟩),.int .i64 id,.int .i64 q] w fun e w'=>e = .returned .nilIface∧w' = w):=Lib.hid fun w a b=>tcheck_c hT hid hq w a b
 have HL:Hid (∀ w,((tabA T).sep (stoA T.s lv m S)).ho w→Calls Tryz.prog 67 #[.pointer (some ⟨T.p,0,none⟩),.int .i64 id] w (fun e w'=>∃ T',e = .returned .nilIface∧T.Ext T'∧TabOk S T'∧(id = 0∨T'.Known id)∧St w (tabA T).fp [tabA T'] w')):=Lib.hid fun w h=>learn_c hS hT hid w h
 obtain ⟨a1,a2,a3,a4,a5,hw1⟩:=wlen_c (p:=T.s) (m:=m) (lv:=lv) hS hid
 have HW1:=Lib.hid hw1
 have hmax:=txt_max hS hid
 have HR:=Lib.hid (fun w=>range_ok s n (S.txt id).length hf hmax w)
 have HO:Hid (∀ T',TabOk S T'→(id = 0∨T'.Known id)→∀ w,(stoA T.s lv m S).ho w→Calls Tryz.prog 64 #[.pointer (some ⟨T.s,0,none⟩),.int .i64 id,.int .i64 s,.int .i64 n] w fun e w'=>∃ ad c ps,e = .returned (.tuple #[.slice ad ps.length c,.nilIface])∧textP S ps = S.pcTxt ⟨id,s,n⟩∧(∀ t∈ps,PtOk S T'.Known t)∧ps.length≤6 * S.list.length + 6∧St w [] [rowsA encT 137 3 (.slice ad ps.length c) ps] w'):=Lib.hid fun T' hT' hkn w h=>of_c hS hT'.closed hid hkn hf w h
 obtain ⟨gc,oc,cc,gn,on,cn,ga,oa,ca,gh,oh,ch,hc⟩:=hT.cells
 have HCELLS:=Lib.hid hc
 obtain ⟨cm,okm⟩:=hT.ok
 have HOKM:=Lib.hid okm
 have hl1:=hS.len
 have hl2:=hS.most
 have HD:=Lib.hid hd
 have HSO:=Lib.hid hS
 have hq0:=hq
 have HQ:=Lib.hid hq
 generalize hln:(S.txt id).length = ln at *
 generalize hgoal:S.pcTxt ⟨id,s,n⟩ = goal at *
 clear hc hT h0 h1 h2 hd hw1 okm hS hq hf hgoal hq0 hln
 have HRV:=Lib.hid (show ∀ (ps:List Pt) ad c,ps.length≤16777216→∀ w,(rowsA encT 137 3 (.slice ad ps.length c) ps).ho w→Calls Tryz.prog 65 #[.slice ad ps.length c] w fun e w'=>e = .returned (.tuple #[])∧St w (rowsA encT 137 3 (.slice ad ps.length c) ps).fp [rowsA encT 137 3 (.slice ad ps.length c) ps.reverse] w' from fun ps ad c hl w h=>revT_c rfl hl w h)
 rcases hbk:T.back with _ | _
 ·have HBK:=Lib.hid hbk
  have HC2:Hid (tabCells T = #[.pointer (some ⟨T.s,0,none⟩),.int .i64 T.mc.start,.slice (some ⟨gc,oc,none⟩) 256 cc,.slice (some ⟨gn,on,none⟩) T.mc.n cn,.slice (some ⟨ga,oa,none⟩) T.mc.n ca,.slice (some ⟨gh,oh,none⟩) T.mc.n ch,.bool false,.map (some T.km)]):=Lib.hid (by rw [HCELLS.out,tabC,hbk])
  rw [← hbk]
  clear hbk
  go_enter Tryz.func40,Tryz.ntmps40
  go_wp2_with (first | refine sL ?_ | (refine sS ?_;clear H;intros;rename_i H) | (go_at_call 66;with_reducible refine Calls.mono (HC.out _ (H.get (A:=tabA T) pk) (H.known HK pk)) ?_;rintro e wc ⟨rfl,hwc⟩;obtain rfl:=hwc.symm;replace H:=tabA_open H;rw [HC2.out] at H) | (go_at_call 23;with_reducible refine Calls.mono (HW1.out _ (H.known HK pk)) ?_;rintro e wc ⟨rfl,hb⟩;replace H:=H.grew hb.below;clear hb) | (go_at_call 36;with_reducible refine Calls.mono (HR.out _) ?_;rintro e wc ⟨rfl,hwc⟩;obtain rfl:=hwc.symm) | (go_at_call 67;replace H:=tabA_shut_of (Tab.Ext.refl T) HC2.out H pk pk pk;with_reducible refine Calls.mono (HL.out _ (sep_mk (H.get (A:=tabA T) pk) (H.known HK pk) HD.out)) ?_;rintro e wc ⟨T',rfl,hext,hT',hkn,hb⟩;replace H:=H.pick (A:=tabA T) pk;replace H:=H.call hb;clear hb;simp only [List.cons_append,List.nil_append] at H;obtain ⟨p1,p2,p3,p4,p5,p6⟩:=hext.same;replace H:=tabA_open H;rw [p1,p3,p4,HC2.out] at H;have HX:=Lib.hid hext;have HT2:=Lib.hid hT';have HKN:=Lib.hid hkn;clear hext hT' hkn p1 p2 p3 p4 p5 p6) | (go_at_call 64;with_reducible refine Calls.mono (HO.out T' HT2.out HKN.out _ (H.known HK pk)) ?_;rintro e wc ⟨ad,c,ps,rfl,htx,hpts,hpl,hb⟩;replace H:=H.call0 hb;clear hb;simp only [List.cons_append,List.nil_append] at H;have HTX:=Lib.hid htx;have HPT:=Lib.hid hpts;have hpsb:ps.length≤7000000:=(by omega);clear htx hpts hpl) | (go_at_call 65;with_reducible refine Calls.mono (HRV.out ps ad c (by omega) _ (H.get (A:=rowsA encT 137 3 (.slice ad ps.length c) ps) pk)) ?_;rintro e wc ⟨rfl,hb⟩;replace H:=H.pick (A:=rowsA encT 137 3 (.slice ad ps.length c) ps) pk;replace H:=H.call hb;clear hb;simp only [List.cons_append,List.nil_append] at H))
  generalize hpl:ps.length = pl at *
  obtain ⟨lp,hlp⟩:∃ lp,lp = partsB false ps:=⟨_,rfl⟩
  rw [show ps = lp from hlp.symm] at H
  have HLEN:=Lib.hid (show lp.length = pl from by rw [hlp,partsB_len,hpl])
  have HRUN:=Lib.hid (show runP S T.back lp = dirT T.back goal from by rw [hlp,← HTX.out,HBK.out];exact runP_all S false ps)
  have HPS:=Lib.hid (show ∀ t∈lp,PtOk S T'.Known t from fun t ht=>HPT.out t (partsB_mem (hlp ▸ ht)))
  clear hlp hpl HTX HPT
  obtain ⟨cs,hcs⟩:∃ cs:Array Value,cs = #[.pointer (some ⟨T.s,0,none⟩),.int .i64 T.mc.start,.slice (some ⟨gc,oc,none⟩) 256 cc,.slice (some ⟨gn,on,none⟩) T.mc.n cn,.slice (some ⟨ga,oa,none⟩) T.mc.n ca,.slice (some ⟨gh,oh,none⟩) T.mc.n ch,.bool false,.map (some T.km)]:=⟨_,rfl⟩
  rw [← hcs] at H
  go_loopw [4,11,78] (fun v4 v11 v78 wr=>PaRel S T T' cs (tabA T).fp w q ad c pl lp v4 v11 v78 wr) (fun _ _ v78 _=>pl - (intOf v78).toNat)
  case atStart=>exact ⟨0,q,0,rfl,rfl,rfl,Nat.zero_le _,HQ.out,PRun.nil _ _,H.only4 (A:=blk T.p (.cells cs 90)) (B:=poolA T'.P) (C:=mapA Tryz.prog 32 T.km (T'.es.map entV)) (D:=rowsA encT 137 3 (.slice ad pl c) lp) pk pk pk pk⟩
  case round =>
   clear H
   obtain ⟨j,q1,h1,rfl,rfl,rfl,hj,hq1,hrun,H⟩:=hrel
   have hh1:=hrun.le
   unfold beyond at hh1
   have HRN:=Lib.hid hrun
   have HQ1:=Lib.hid hq1
   have hn256:=HOKM.out.n256
   clear hrun
   by_cases hlt:j < pl
   ·obtain ⟨⟨ti,tp,tt⟩,ht⟩:∃ t,lp[j]? = some t:=⟨_,List.getElem?_eq_getElem (by rw [HLEN.out];exact hlt)⟩
    have HPO:=Lib.hid (HPS.out _ (List.mem_of_getElem? ht))
    have HTK:=Lib.hid (runP_take S T.back ht)
    have HLK:=Lib.hid ht
    obtain ⟨gr,cr,hadr,_,_⟩:=rowsA_cases (H.get (A:=rowsA encT 137 3 (.slice ad pl c) lp) pk) (by rw [HLEN.out];omega)
    injection hadr with x1 x2 x3
    subst x1 x3
    clear ht x2
    have htid:=HPO.out.le
    have htid1:=HPO.out.pos
    have htt:=HPO.out.times
    simp only at htid htid1 htt
    by_cases h1t:tt = 1
    ·obtain ⟨e1,n1,c1,e2,n2,c2,e3,n3,c3,hlk,hef⟩:=eff_look HX.out HT2.out (id:=ti) (by omega) (.inr HPO.out.known)
     have hef':=hef (by omega)
     have hpt:S.ptTxt ⟨ti,tp,tt⟩ = S.txt ti:=by rw [h1t];exact rep_one _
     have hlt':∀ b∈dirT T.back (S.txt ti),b < 256:=fun b hb=>S.txt_lt HSO.out htid b (by unfold dirT at hb;split at hb;simpa using hb;exact hb)
     have hqn:=HOKM.out.ends_lt hq1 hlt'
     have HRC:=Lib.hid (fun w hp=>run_c HOKM.out hlt' hef' hq1 HRN.out.le w hp)
     have HNX:=Lib.hid (show PRun T.mc q (runP S T.back (lp.take (j + 1))) (T.mc.ends q1 (dirT T.back (S.txt ti))) (capN (h1 + T.mc.sum q1 (dirT T.back (S.txt ti)))) from by rw [HTK.out,hpt];exact HRN.out.app _)
     have HLO:=Lib.hid hlk
     have hcn:=HNX.out.le
     unfold beyond at hcn
     generalize T.mc.ends q1 (dirT T.back (S.txt ti)) = q2 at *
     generalize capN (h1 + T.mc.sum q1 (dirT T.back (S.txt ti))) = h2 at *
     have HQ2:=Lib.hid hqn
     subst h1t
     clear hlk hef hef' hpt hlt' hqn htt
     rw [hcs] at H
     go_wp2_with (first | refine sL ?_ | (refine sS ?_;clear H;intros;rename_i H) | ((with_reducible refine isLoad ?_);refine AtLoad.rngT (vs:=[.int .i64 ti,.int .i64 tp,.int .i64 (1:Nat)]) rfl rfl rfl (H.rngL (enc:=encT) (xs:=lp) pk encT_len HLK.out) rfl ?_;simp only [Act.put,puA,puB,puC]))
     refine wp_region_h H 16 [] [] (by kernel_rfl) (by kernel_rfl) ?_
     apply Exists.intro
     refine ⟨fun w1 hw1 HX=>?_,fun bs wr Hr=>?_⟩
     ·refine sG ?_
      repeat (first | refine sQ ?_ | ((with_reducible refine isQLook ?_);refine QtLook.go (kt:=0) (et:=0) rfl rfl rfl _ (fun z=>HLO.out _ ((HX z).get pk)) rfl ?_;simp only [Act.put,puA,puB,puC]) | ((with_reducible refine isQField ?_);refine QtField.rowT rfl rfl rfl rfl rfl rfl ?_;simp only [Act.put,puA,puB,puC]) | go_big_quiet_step ((go_at_call 68;with_reducible exact quiet_st_x (HRC.out _ ((HX _).get (A:=poolA T'.P) pk)))) | go_big_quiet_step (fail))
      exact wpQuiet_nil rfl
     clear H
     have H:=Hr
     clear Hr
     replace H:=sH H;refine sT ?_
     go_wp2_with (first | refine sL ?_ | (refine sS ?_;clear H;intros;rename_i H))
     rw [← hcs] at H
     refine ⟨⟨j + 1,q2,h2,rfl,rfl,by go_num,by omega,HQ2.out,HNX.out,H.only4 (A:=blk T.p (.cells cs 90)) (B:=poolA T'.P) (C:=mapA Tryz.prog 32 T.km (T'.es.map entV)) (D:=rowsA encT 137 3 (.slice (some ⟨gr,0,none⟩) pl c) lp) pk pk pk pk⟩,by simp [intOf];omega⟩
    ·obtain ⟨i,x,k,hp,hk,hx,hle⟩:∃ (i:Nat) (x:En) (k:Nat),tp = i + 1∧T'.Known (i + 1)∧S.list[i]? = some (powerE x ti k)∧tt≤k:=by rcases HPO.out.copies with h | h;exact absurd h h1t;exact h
     have hil:=getElem_len hx
     have hkb:k≤1152921504606846976:=power_le HSO.out hx
     obtain ⟨e1,n1,c1,e2,n2,c2,g5,o5,n5,c5,cps,hlk,hcl,hc64,hk2,hrow,hef⟩:=copies_look HX.out HT2.out (by omega) hk hx
     have hlk':∀ w,(mapA Tryz.prog 32 T.km (T'.es.map entV)).ho w→(Instr.lookup 88 (.map (some T.km)) (.int .i64 (tp:Int)) false).run Tryz.prog w = .ok (.agg #[.slice e1 n1 c1,.slice e2 n2 c2,.slice (some ⟨g5,o5,none⟩) n5 c5]) w:=by rw [hp];exact hlk
     have hpt:S.ptTxt ⟨ti,tp,tt⟩ = rep tt (S.txt ti):=rfl
     have HNX:=Lib.hid (show runP S T.back (lp.take (j + 1)) = runP S T.back (lp.take j) ++ rep tt (dirT T.back (S.txt ti)) from by rw [HTK.out,hpt,dirT_rep])
     have hlt':∀ b∈dirT T.back (S.txt ti),b < 256:=fun b hb=>S.txt_lt HSO.out htid b (by unfold dirT at hb;split at hb;simpa using hb;exact hb)
     have HLT:=Lib.hid hlt'
     have HLO:=Lib.hid hlk'
     have HROW:=Lib.hid hrow
     have HEF:=Lib.hid hef
     have HCL:=Lib.hid hcl
     have HK2:=Lib.hid (show tt < 2 ^ n5 from by omega)
     have h1f:((tt:Int) == 1) = false:=by simp;omega
     have htb:tt≤1152921504606846976:=by omega
     clear hlk hlk' hef hpt hlt' hrow hcl hk2 hp hx hk hil
     rw [hcs] at H
     go_wp2_with (first | refine sL ?_ | (refine sS ?_;clear H;intros;rename_i H) | ((with_reducible refine isLoad ?_);refine AtLoad.rngT (vs:=[.int .i64 ti,.int .i64 tp,.int .i64 tt]) rfl rfl rfl (H.rngL (enc:=encT) (xs:=lp) pk encT_len HLK.out) rfl ?_;simp only [Act.put,puA,puB,puC]))
     refine wp_region_h H 9 [] [] (by kernel_rfl) (by kernel_rfl) ?_
     apply Exists.intro
     refine ⟨fun w1 hw1 HX=>?_,fun bs wr Hr=>?_⟩
     ·refine sG ?_
      repeat (first | refine sQ ?_ | ((with_reducible refine isQLook ?_);refine QtLook.go (kt:=0) (et:=0) rfl rfl rfl _ (fun z=>HLO.out _ ((HX z).get pk)) rfl ?_;simp only [Act.put,puA,puB,puC]) | ((with_reducible refine isQField ?_);refine QtField.cellT rfl rfl rfl rfl rfl rfl ?_;simp only [Act.put,puA,puB,puC]) | go_big_quiet_step (fail))
      exact wpQuiet_nil rfl
     clear H
     have H:=Hr
     clear Hr
     replace H:=sH H;refine sT ?_
     go_wp2_with (first | refine sL ?_ | (refine sS ?_;clear H;intros;rename_i H))
     refine wp_region_h H 4 [] [] (by kernel_rfl) (by kernel_rfl) ?_
     apply Exists.intro
     refine ⟨fun w1 hw1 HX=>?_,fun bs wr Hr=>?_⟩
     ·refine sG ?_
      repeat (first | refine sQ ?_ | fail | go_big_quiet_step (fail))
      exact wpQuiet_nil rfl
     clear H
     have H:=Hr
     clear Hr
     replace H:=sH H;refine sT ?_
     go_wp2_with (first | refine sL ?_ | (refine sS ?_;clear H;intros;rename_i H))
     rw [← hcs] at H
     go_loopw [4,11,21,22] (fun v4 v11 v21 v22 wr=>BiRel S T T' cs (tabA T).fp w q (some ⟨gr,0,none⟩) c pl lp (runP S T.back (lp.take j)) (dirT T.back (S.txt ti)) tt v4 v11 v21 v22 wr) (fun _ _ _ v22 _=>(intOf v22).toNat)
     case atStart=>exact ⟨0,tt,q1,h1,rfl,rfl,rfl,rfl,by omega,Nat.le_refl _,HQ1.out,BRun.first HRN.out,H.only4 (A:=blk T.p (.cells cs 90)) (B:=poolA T'.P) (C:=mapA Tryz.prog 32 T.km (T'.es.map entV)) (D:=rowsA encT 137 3 (.slice (some ⟨gr,0,none⟩) pl c) lp) pk pk pk pk⟩
     case round =>
      clear H
      obtain ⟨jb,kk,q3,h3,rfl,rfl,rfl,rfl,hjb,hkk,hq3,hbr,H⟩:=hrel
      have HBR:=Lib.hid hbr
      have hh3:=hbr.2.le
      unfold beyond at hh3
      clear hbr
      rw [hcs] at H
      by_cases hz:0 < kk
      ·have hjn:jb < n5:=HBR.out.lt hz HK2.out
       have hand:=and_one_i64 kk (by omega)
       by_cases hod:kk % 2 = 1
       ·have hob:((kk:Int) % 2 == 1) = true:=by rw [odd_dec];simpa using hod
        obtain ⟨⟨ev,hv⟩,hcp⟩:∃ p,cps[jb]? = some p:=⟨_,List.getElem?_eq_getElem (by rw [HCL.out];exact hjn)⟩
        have hef1:=HEF.out jb _ hcp
        rw [dirT_rep] at hef1
        have hl9:∀ b∈rep (2 ^ jb) (dirT T.back (S.txt ti)),b < 256:=fun b hb=>HLT.out b (rep_mem hb)
        have hqn:=HOKM.out.ends_lt hq3 hl9
        have HRC:=Lib.hid (fun w hp=>run_c HOKM.out hl9 hef1 hq3 HBR.out.2.le w hp)
        have HBN:=Lib.hid (HBR.out.on hod)
        have hcn:=HBN.out.2.le
        unfold beyond at hcn
        generalize T.mc.ends q3 (rep (2 ^ jb) (dirT T.back (S.txt ti))) = q4 at *
        generalize capN (h3 + T.mc.sum q3 (rep (2 ^ jb) (dirT T.back (S.txt ti)))) = h4 at *
        have HQ4:=Lib.hid hqn
        have HCP:=Lib.hid hcp
        clear hef1 hl9 hqn hod hcp
        go_wp2_with (first | refine sL ?_ | (refine sS ?_;clear H;intros;rename_i H) | ((with_reducible refine isLoad ?_);refine AtLoad.rngT (vs:=[ev,hv]) rfl rfl rfl (HROW.out.rng (H.get (A:=poolA T'.P) pk) encP_len HCP.out) rfl ?_;simp only [Act.put,puA,puB,puC]) | (go_at_call 68;with_reducible refine Calls.mono (HRC.out _ (H.get (A:=poolA T'.P) pk)) ?_;rintro e wc ⟨rfl,hb⟩;replace H:=H.grew hb.below;clear hb))
        rw [← hcs] at H
        refine ⟨⟨jb + 1,kk / 2,q4,h4,rfl,rfl,by go_num,by first | rfl | go_num,by omega,by omega,HQ4.out,HBN.out,H.only4 (A:=blk T.p (.cells cs 90)) (B:=poolA T'.P) (C:=mapA Tryz.prog 32 T.km (T'.es.map entV)) (D:=rowsA encT 137 3 (.slice (some ⟨gr,0,none⟩) pl c) lp) pk pk pk pk⟩,by simp only [intOf];omega⟩
       ·have hob:((kk:Int) % 2 == 1) = false:=by rw [odd_dec];simpa using hod
        have HBN:=Lib.hid (HBR.out.off (by omega))
        have HQ4:=Lib.hid hq3
        clear hod
        go_wp2_with (first | refine sL ?_ | (refine sS ?_;clear H;intros;rename_i H))
        rw [← hcs] at H
        refine ⟨⟨jb + 1,kk / 2,q3,h3,rfl,rfl,by go_num,by first | rfl | go_num,by omega,by omega,HQ4.out,HBN.out,H.only4 (A:=blk T.p (.cells cs 90)) (B:=poolA T'.P) (C:=mapA Tryz.prog 32 T.km (T'.es.map entV)) (D:=rowsA encT 137 3 (.slice (some ⟨gr,0,none⟩) pl c) lp) pk pk pk pk⟩,by simp only [intOf];omega⟩
      ·have hk0:kk = 0:=by omega
       have HN2:=Lib.hid (HBR.out.last hk0)
       have HQ2:=Lib.hid hq3
       subst hk0
       go_wp2_with (first | refine sL ?_ | (refine sS ?_;clear H;intros;rename_i H))
       rw [← hcs] at H
       refine ⟨⟨j + 1,q3,h3,rfl,rfl,by go_num,by omega,HQ2.out,by rw [HNX.out];exact HN2.out,H.only4 (A:=blk T.p (.cells cs 90)) (B:=poolA T'.P) (C:=mapA Tryz.prog 32 T.km (T'.es.map entV)) (D:=rowsA encT 137 3 (.slice (some ⟨gr,0,none⟩) pl c) lp) pk pk pk pk⟩,by simp [intOf];omega⟩
   ·have hje:j = pl:=by omega
    have hfin:PRun T.mc q (dirT T.back goal) q1 h1:=by have:=HRN.out;rw [hje,← HLEN.out,List.take_length,HRUN.out] at this;exact this
    have hq1':=hfin.1
    have hh1':=hfin.2
    have HF:=Lib.hid hfin
    subst hje
    rw [hcs] at H
    by_cases hs:T.mc.sum q (dirT T.back goal)≤1152921504606846976
    ·have hh2:h1 = T.mc.sum q (dirT T.back goal):=by rw [hh1'];exact capN_big.2 hs
     have d1:decide (1152921504606846976 < h1) = false:=by simp;omega
     have d2:decide ((1152921504606846976:Int) < (h1:Nat)) = false:=by simp;omega
     have HQ2:=Lib.hid hq1'
     have HH2:=Lib.hid hh2
     have HS2:=Lib.hid hs
     clear hfin hq1' hh1' hh2 hs
     go_wp2_with (first | refine sL ?_ | (refine sS ?_;clear H;intros;rename_i H))
     go_ret3
     have H3:=tabA_shut_of HX.out HC2.out H pk pk pk
     exact ⟨T',by rw [if_pos HS2.out,← HQ2.out,← HH2.out];rfl,HX.out,HT2.out,H3.onlyHead⟩
    ·have hh2:1152921504606846976 < h1:=by rw [hh1'];have:=(capN_big (s:=T.mc.sum q (dirT T.back goal))).1;omega
     have d1:decide (1152921504606846976 < h1) = true:=by simp;omega
     have d2:decide ((1152921504606846976:Int) < (h1:Nat)) = true:=by simp;omega
     have HQ2:=Lib.hid hq1'
     have HH2:=Lib.hid hh2
     have HS2:=Lib.hid hs
     clear hfin hq1' hh1' hh2 hs
     go_wp2_with (first | refine sL ?_ | (refine sS ?_;clear H;intros;rename_i H))
     go_ret3
     have H3:=tabA_shut_of HX.out HC2.out H pk pk pk
     exact ⟨T',by rw [if_neg HS2.out];rfl,HX.out,HT2.out,H3.onlyHead⟩
 ·have HBK:=Lib.hid hbk
  have HC2:Hid (tabCells T = #[.pointer (some ⟨T.s,0,none⟩),.int .i64 T.mc.start,.slice (some ⟨gc,oc,none⟩) 256 cc,.slice (some ⟨gn,on,none⟩) T.mc.n cn,.slice (some ⟨ga,oa,none⟩) T.mc.n ca,.slice (some ⟨gh,oh,none⟩) T.mc.n ch,.bool true,.map (some T.km)]):=Lib.hid (by rw [HCELLS.out,tabC,hbk])
  rw [← hbk]
  clear hbk
  go_enter Tryz.func40,Tryz.ntmps40
  go_wp2_with (first | refine sL ?_ | (refine sS ?_;clear H;intros;rename_i H) | (go_at_call 66;with_reducible refine Calls.mono (HC.out _ (H.get (A:=tabA T) pk) (H.known HK pk)) ?_;rintro e wc ⟨rfl,hwc⟩;obtain rfl:=hwc.symm;replace H:=tabA_open H;rw [HC2.out] at H) | (go_at_call 23;with_reducible refine Calls.mono (HW1.out _ (H.known HK pk)) ?_;rintro e wc ⟨rfl,hb⟩;replace H:=H.grew hb.below;clear hb) | (go_at_call 36;with_reducible refine Calls.mono (HR.out _) ?_;rintro e wc ⟨rfl,hwc⟩;obtain rfl:=hwc.symm) | (go_at_call 67;replace H:=tabA_shut_of (Tab.Ext.refl T) HC2.out H pk pk pk;with_reducible refine Calls.mono (HL.out _ (sep_mk (H.get (A:=tabA T) pk) (H.known HK pk) HD.out)) ?_;rintro e wc ⟨T',rfl,hext,hT',hkn,hb⟩;replace H:=H.pick (A:=tabA T) pk;replace H:=H.call hb;clear hb;simp only [List.cons_append,List.nil_append] at H;obtain ⟨p1,p2,p3,p4,p5,p6⟩:=hext.same;replace H:=tabA_open H;rw [p1,p3,p4,HC2.out] at H;have HX:=Lib.hid hext;have HT2:=Lib.hid hT';have HKN:=Lib.hid hkn;clear hext hT' hkn p1 p2 p3 p4 p5 p6) | (go_at_call 64;with_reducible refine Calls.mono (HO.out T' HT2.out HKN.out _ (H.known HK pk)) ?_;rintro e wc ⟨ad,c,ps,rfl,htx,hpts,hpl,hb⟩;replace H:=H.call0 hb;clear hb;simp only [List.cons_append,List.nil_append] at H;have HTX:=Lib.hid htx;have HPT:=Lib.hid hpts;have hpsb:ps.length≤7000000:=(by omega);clear htx hpts hpl) | (go_at_call 65;with_reducible refine Calls.mono (HRV.out ps ad c (by omega) _ (H.get (A:=rowsA encT 137 3 (.slice ad ps.length c) ps) pk)) ?_;rintro e wc ⟨rfl,hb⟩;replace H:=H.pick (A:=rowsA encT 137 3 (.slice ad ps.length c) ps) pk;replace H:=H.call hb;clear hb;simp only [List.cons_append,List.nil_append] at H))
  generalize hpl:ps.length = pl at *
  obtain ⟨lp,hlp⟩:∃ lp,lp = partsB true ps:=⟨_,rfl⟩
  rw [show ps.reverse = lp from hlp.symm] at H
  have HLEN:=Lib.hid (show lp.length = pl from by rw [hlp,partsB_len,hpl])
  have HRUN:=Lib.hid (show runP S T.back lp = dirT T.back goal from by rw [hlp,← HTX.out,HBK.out];exact runP_all S true ps)
  have HPS:=Lib.hid (show ∀ t∈lp,PtOk S T'.Known t from fun t ht=>HPT.out t (partsB_mem (hlp ▸ ht)))
  clear hlp hpl HTX HPT
  obtain ⟨cs,hcs⟩:∃ cs:Array Value,cs = #[.pointer (some ⟨T.s,0,none⟩),.int .i64 T.mc.start,.slice (some ⟨gc,oc,none⟩) 256 cc,.slice (some ⟨gn,on,none⟩) T.mc.n cn,.slice (some ⟨ga,oa,none⟩) T.mc.n ca,.slice (some ⟨gh,oh,none⟩) T.mc.n ch,.bool true,.map (some T.km)]:=⟨_,rfl⟩
  rw [← hcs] at H
  go_loopw [4,11,78] (fun v4 v11 v78 wr=>PaRel S T T' cs (tabA T).fp w q ad c pl lp v4 v11 v78 wr) (fun _ _ v78 _=>pl - (intOf v78).toNat)
  case atStart=>exact ⟨0,q,0,rfl,rfl,rfl,Nat.zero_le _,HQ.out,PRun.nil _ _,H.only4 (A:=blk T.p (.cells cs 90)) (B:=poolA T'.P) (C:=mapA Tryz.prog 32 T.km (T'.es.map entV)) (D:=rowsA encT 137 3 (.slice ad pl c) lp) pk pk pk pk⟩
  case round =>
   clear H
   obtain ⟨j,q1,h1,rfl,rfl,rfl,hj,hq1,hrun,H⟩:=hrel
   have hh1:=hrun.le
   unfold beyond at hh1
   have HRN:=Lib.hid hrun
   have HQ1:=Lib.hid hq1
   have hn256:=HOKM.out.n256
   clear hrun
   by_cases hlt:j < pl
   ·obtain ⟨⟨ti,tp,tt⟩,ht⟩:∃ t,lp[j]? = some t:=⟨_,List.getElem?_eq_getElem (by rw [HLEN.out];exact hlt)⟩
    have HPO:=Lib.hid (HPS.out _ (List.mem_of_getElem? ht))
    have HTK:=Lib.hid (runP_take S T.back ht)
    have HLK:=Lib.hid ht
    obtain ⟨gr,cr,hadr,_,_⟩:=rowsA_cases (H.get (A:=rowsA encT 137 3 (.slice ad pl c) lp) pk) (by rw [HLEN.out];omega)
    injection hadr with x1 x2 x3
    subst x1 x3
    clear ht x2
    have htid:=HPO.out.le
    have htid1:=HPO.out.pos
    have htt:=HPO.out.times
    simp only at htid htid1 htt
    by_cases h1t:tt = 1
    ·obtain ⟨e1,n1,c1,e2,n2,c2,e3,n3,c3,hlk,hef⟩:=eff_look HX.out HT2.out (id:=ti) (by omega) (.inr HPO.out.known)
     have hef':=hef (by omega)
     have hpt:S.ptTxt ⟨ti,tp,tt⟩ = S.txt ti:=by rw [h1t];exact rep_one _
     have hlt':∀ b∈dirT T.back (S.txt ti),b < 256:=fun b hb=>S.txt_lt HSO.out htid b (by unfold dirT at hb;split at hb;simpa using hb;exact hb)
     have hqn:=HOKM.out.ends_lt hq1 hlt'
     have HRC:=Lib.hid (fun w hp=>run_c HOKM.out hlt' hef' hq1 HRN.out.le w hp)
     have HNX:=Lib.hid (show PRun T.mc q (runP S T.back (lp.take (j + 1))) (T.mc.ends q1 (dirT T.back (S.txt ti))) (capN (h1 + T.mc.sum q1 (dirT T.back (S.txt ti)))) from by rw [HTK.out,hpt];exact HRN.out.app _)
     have HLO:=Lib.hid hlk
     have hcn:=HNX.out.le
     unfold beyond at hcn
     generalize T.mc.ends q1 (dirT T.back (S.txt ti)) = q2 at *
     generalize capN (h1 + T.mc.sum q1 (dirT T.back (S.txt ti))) = h2 at *
     have HQ2:=Lib.hid hqn
     subst h1t
     clear hlk hef hef' hpt hlt' hqn htt
     rw [hcs] at H
     go_wp2_with (first | refine sL ?_ | (refine sS ?_;clear H;intros;rename_i H) | ((with_reducible refine isLoad ?_);refine AtLoad.rngT (vs:=[.int .i64 ti,.int .i64 tp,.int .i64 (1:Nat)]) rfl rfl rfl (H.rngL (enc:=encT) (xs:=lp) pk encT_len HLK.out) rfl ?_;simp only [Act.put,puA,puB,puC]))
     refine wp_region_h H 16 [] [] (by kernel_rfl) (by kernel_rfl) ?_
     apply Exists.intro
     refine ⟨fun w1 hw1 HX=>?_,fun bs wr Hr=>?_⟩
     ·refine sG ?_
      repeat (first | refine sQ ?_ | ((with_reducible refine isQLook ?_);refine QtLook.go (kt:=0) (et:=0) rfl rfl rfl _ (fun z=>HLO.out _ ((HX z).get pk)) rfl ?_;simp only [Act.put,puA,puB,puC]) | ((with_reducible refine isQField ?_);refine QtField.rowT rfl rfl rfl rfl rfl rfl ?_;simp only [Act.put,puA,puB,puC]) | go_big_quiet_step ((go_at_call 68;with_reducible exact quiet_st_x (HRC.out _ ((HX _).get (A:=poolA T'.P) pk)))) | go_big_quiet_step (fail))
      exact wpQuiet_nil rfl
     clear H
     have H:=Hr
     clear Hr
     replace H:=sH H;refine sT ?_
     go_wp2_with (first | refine sL ?_ | (refine sS ?_;clear H;intros;rename_i H))
     rw [← hcs] at H
     refine ⟨⟨j + 1,q2,h2,rfl,rfl,by go_num,by omega,HQ2.out,HNX.out,H.only4 (A:=blk T.p (.cells cs 90)) (B:=poolA T'.P) (C:=mapA Tryz.prog 32 T.km (T'.es.map entV)) (D:=rowsA encT 137 3 (.slice (some ⟨gr,0,none⟩) pl c) lp) pk pk pk pk⟩,by simp [intOf];omega⟩
    ·obtain ⟨i,x,k,hp,hk,hx,hle⟩:∃ (i:Nat) (x:En) (k:Nat),tp = i + 1∧T'.Known (i + 1)∧S.list[i]? = some (powerE x ti k)∧tt≤k:=by rcases HPO.out.copies with h | h;exact absurd h h1t;exact h
     have hil:=getElem_len hx
     have hkb:k≤1152921504606846976:=power_le HSO.out hx
     obtain ⟨e1,n1,c1,e2,n2,c2,g5,o5,n5,c5,cps,hlk,hcl,hc64,hk2,hrow,hef⟩:=copies_look HX.out HT2.out (by omega) hk hx
     have hlk':∀ w,(mapA Tryz.prog 32 T.km (T'.es.map entV)).ho w→(Instr.lookup 88 (.map (some T.km)) (.int .i64 (tp:Int)) false).run Tryz.prog w = .ok (.agg #[.slice e1 n1 c1,.slice e2 n2 c2,.slice (some ⟨g5,o5,none⟩) n5 c5]) w:=by rw [hp];exact hlk
     have hpt:S.ptTxt ⟨ti,tp,tt⟩ = rep tt (S.txt ti):=rfl
     have HNX:=Lib.hid (show runP S T.back (lp.take (j + 1)) = runP S T.back (lp.take j) ++ rep tt (dirT T.back (S.txt ti)) from by rw [HTK.out,hpt,dirT_rep])
     have hlt':∀ b∈dirT T.back (S.txt ti),b < 256:=fun b hb=>S.txt_lt HSO.out htid b (by unfold dirT at hb;split at hb;simpa using hb;exact hb)
     have HLT:=Lib.hid hlt'
     have HLO:=Lib.hid hlk'
     have HROW:=Lib.hid hrow
     have HEF:=Lib.hid hef
     have HCL:=Lib.hid hcl
     have HK2:=Lib.hid (show tt < 2 ^ n5 from by omega)
     have h1f:((tt:Int) == 1) = false:=by simp;omega
     have htb:tt≤1152921504606846976:=by omega
     clear hlk hlk' hef hpt hlt' hrow hcl hk2 hp hx hk hil
     rw [hcs] at H
     go_wp2_with (first | refine sL ?_ | (refine sS ?_;clear H;intros;rename_i H) | ((with_reducible refine isLoad ?_);refine AtLoad.rngT (vs:=[.int .i64 ti,.int .i64 tp,.int .i64 tt]) rfl rfl rfl (H.rngL (enc:=encT) (xs:=lp) pk encT_len HLK.out) rfl ?_;simp only [Act.put,puA,puB,puC]))
     refine wp_region_h H 9 [] [] (by kernel_rfl) (by kernel_rfl) ?_
     apply Exists.intro
     refine ⟨fun w1 hw1 HX=>?_,fun bs wr Hr=>?_⟩
     ·refine sG ?_
      repeat (first | refine sQ ?_ | ((with_reducible refine isQLook ?_);refine QtLook.go (kt:=0) (et:=0) rfl rfl rfl _ (fun z=>HLO.out _ ((HX z).get pk)) rfl ?_;simp only [Act.put,puA,puB,puC]) | ((with_reducible refine isQField ?_);refine QtField.cellT rfl rfl rfl rfl rfl rfl ?_;simp only [Act.put,puA,puB,puC]) | go_big_quiet_step (fail))
      exact wpQuiet_nil rfl
     clear H
     have H:=Hr
     clear Hr
     replace H:=sH H;refine sT ?_
     go_wp2_with (first | refine sL ?_ | (refine sS ?_;clear H;intros;rename_i H))
     refine wp_region_h H 4 [] [] (by kernel_rfl) (by kernel_rfl) ?_
     apply Exists.intro
     refine ⟨fun w1 hw1 HX=>?_,fun bs wr Hr=>?_⟩
     ·refine sG ?_
      repeat (first | refine sQ ?_ | fail | go_big_quiet_step (fail))
      exact wpQuiet_nil rfl
     clear H
     have H:=Hr
     clear Hr
     replace H:=sH H;refine sT ?_
     go_wp2_with (first | refine sL ?_ | (refine sS ?_;clear H;intros;rename_i H))
     rw [← hcs] at H
     go_loopw [4,11,21,22] (fun v4 v11 v21 v22 wr=>BiRel S T T' cs (tabA T).fp w q (some ⟨gr,0,none⟩) c pl lp (runP S T.back (lp.take j)) (dirT T.back (S.txt ti)) tt v4 v11 v21 v22 wr) (fun _ _ _ v22 _=>(intOf v22).toNat)
     case atStart=>exact ⟨0,tt,q1,h1,rfl,rfl,rfl,rfl,by omega,Nat.le_refl _,HQ1.out,BRun.first HRN.out,H.only4 (A:=blk T.p (.cells cs 90)) (B:=poolA T'.P) (C:=mapA Tryz.prog 32 T.km (T'.es.map entV)) (D:=rowsA encT 137 3 (.slice (some ⟨gr,0,none⟩) pl c) lp) pk pk pk pk⟩
     case round =>
      clear H
      obtain ⟨jb,kk,q3,h3,rfl,rfl,rfl,rfl,hjb,hkk,hq3,hbr,H⟩:=hrel
      have HBR:=Lib.hid hbr
      have hh3:=hbr.2.le
      unfold beyond at hh3
      clear hbr
      rw [hcs] at H
      by_cases hz:0 < kk
      ·have hjn:jb < n5:=HBR.out.lt hz HK2.out
       have hand:=and_one_i64 kk (by omega)
       by_cases hod:kk % 2 = 1
       ·have hob:((kk:Int) % 2 == 1) = true:=by rw [odd_dec];simpa using hod
        obtain ⟨⟨ev,hv⟩,hcp⟩:∃ p,cps[jb]? = some p:=⟨_,List.getElem?_eq_getElem (by rw [HCL.out];exact hjn)⟩
        have hef1:=HEF.out jb _ hcp
        rw [dirT_rep] at hef1
        have hl9:∀ b∈rep (2 ^ jb) (dirT T.back (S.txt ti)),b < 256:=fun b hb=>HLT.out b (rep_mem hb)
        have hqn:=HOKM.out.ends_lt hq3 hl9
        have HRC:=Lib.hid (fun w hp=>run_c HOKM.out hl9 hef1 hq3 HBR.out.2.le w hp)
        have HBN:=Lib.hid (HBR.out.on hod)
        have hcn:=HBN.out.2.le
        unfold beyond at hcn
        generalize T.mc.ends q3 (rep (2 ^ jb) (dirT T.back (S.txt ti))) = q4 at *
        generalize capN (h3 + T.mc.sum q3 (rep (2 ^ jb) (dirT T.back (S.txt ti)))) = h4 at *
        have HQ4:=Lib.hid hqn
        have HCP:=Lib.hid hcp
        clear hef1 hl9 hqn hod hcp
        go_wp2_with (first | refine sL ?_ | (refine sS ?_;clear H;intros;rename_i H) | ((with_reducible refine isLoad ?_);refine AtLoad.rngT (vs:=[ev,hv]) rfl rfl rfl (HROW.out.rng (H.get (A:=poolA T'.P) pk) encP_len HCP.out) rfl ?_;simp only [Act.put,puA,puB,puC]) | (go_at_call 68;with_reducible refine Calls.mono (HRC.out _ (H.get (A:=poolA T'.P) pk)) ?_;rintro e wc ⟨rfl,hb⟩;replace H:=H.grew hb.below;clear hb))
        rw [← hcs] at H
        refine ⟨⟨jb + 1,kk / 2,q4,h4,rfl,rfl,by go_num,by first | rfl | go_num,by omega,by omega,HQ4.out,HBN.out,H.only4 (A:=blk T.p (.cells cs 90)) (B:=poolA T'.P) (C:=mapA Tryz.prog 32 T.km (T'.es.map entV)) (D:=rowsA encT 137 3 (.slice (some ⟨gr,0,none⟩) pl c) lp) pk pk pk pk⟩,by simp only [intOf];omega⟩
       ·have hob:((kk:Int) % 2 == 1) = false:=by rw [odd_dec];simpa using hod
        have HBN:=Lib.hid (HBR.out.off (by omega))
        have HQ4:=Lib.hid hq3
        clear hod
        go_wp2_with (first | refine sL ?_ | (refine sS ?_;clear H;intros;rename_i H))
        rw [← hcs] at H
        refine ⟨⟨jb + 1,kk / 2,q3,h3,rfl,rfl,by go_num,by first | rfl | go_num,by omega,by omega,HQ4.out,HBN.out,H.only4 (A:=blk T.p (.cells cs 90)) (B:=poolA T'.P) (C:=mapA Tryz.prog 32 T.km (T'.es.map entV)) (D:=rowsA encT 137 3 (.slice (some ⟨gr,0,none⟩) pl c) lp) pk pk pk pk⟩,by simp only [intOf];omega⟩
      ·have hk0:kk = 0:=by omega
       have HN2:=Lib.hid (HBR.out.last hk0)
       have HQ2:=Lib.hid hq3
       subst hk0
       go_wp2_with (first | refine sL ?_ | (refine sS ?_;clear H;intros;rename_i H))
       rw [← hcs] at H
       refine ⟨⟨j + 1,q3,h3,rfl,rfl,by go_num,by omega,HQ2.out,by rw [HNX.out];exact HN2.out,H.only4 (A:=blk T.p (.cells cs 90)) (B:=poolA T'.P) (C:=mapA Tryz.prog 32 T.km (T'.es.map entV)) (D:=rowsA encT 137 3 (.slice (some ⟨gr,0,none⟩) pl c) lp) pk pk pk pk⟩,by simp [intOf];omega⟩
   ·have hje:j = pl:=by omega
    have hfin:PRun T.mc q (dirT T.back goal) q1 h1:=by have:=HRN.out;rw [hje,← HLEN.out,List.take_length,HRUN.out] at this;exact this
    have hq1':=hfin.1
    have hh1':=hfin.2
    have HF:=Lib.hid hfin
    subst hje
    rw [hcs] at H
    by_cases hs:T.mc.sum q (dirT T.back goal)≤1152921504606846976
    ·have hh2:h1 = T.mc.sum q (dirT T.back goal):=by rw [hh1'];exact capN_big.2 hs
     have d1:decide (1152921504606846976 < h1) = false:=by simp;omega
     have d2:decide ((1152921504606846976:Int) < (h1:Nat)) = false:=by simp;omega
     have HQ2:=Lib.hid hq1'
     have HH2:=Lib.hid hh2
     have HS2:=Lib.hid hs
     clear hfin hq1' hh1' hh2 hs
     go_wp2_with (first | refine sL ?_ | (refine sS ?_;clear H;intros;rename_i H))
     go_ret3
     have H3:=tabA_shut_of HX.out HC2.out H pk pk pk
     exact ⟨T',by rw [if_pos HS2.out,← HQ2.out,← HH2.out];rfl,HX.out,HT2.out,H3.onlyHead⟩
    ·have hh2:1152921504606846976 < h1:=by rw [hh1'];have:=(capN_big (s:=T.mc.sum q (dirT T.back goal))).1;omega
     have d1:decide (1152921504606846976 < h1) = true:=by simp;omega
     have d2:decide ((1152921504606846976:Int) < (h1:Nat)) = true:=by simp;omega
     have HQ2:=Lib.hid hq1'
     have HH2:=Lib.hid hh2
     have HS2:=Lib.hid hs
     clear hfin hq1' hh1' hh2 hs
     go_wp2_with (first | refine sL ?_ | (refine sS ?_;clear H;intros;rename_i H))
     go_ret3
     have H3:=tabA_shut_of HX.out HC2.out H pk pk pk
     exact ⟨T',by rw [if_neg HS2.out];rfl,HX.out,HT2.out,H3.onlyHead⟩
end
section
open Go.RowKit Go.Maps
attribute [local go_sem] InGr
theorem closed_all (S:Sto):S.Closed fun _=>True:=fun _ _ _ _=>⟨fun _=>⟨trivial,trivial⟩,fun _=>trivial⟩
def SPartsPost (S:Sto) (b:Bool) (goal:List Nat) (w:World) (e:Ending) (w':World):Prop :=
 ∃ ad c lp,e = .returned (.slice ad lp.length c)∧runP S b lp = dirT b goal∧(∀ t∈lp,PtOk S (fun _=>True) t)∧lp.length≤6 * S.list.length + 6∧St w [] [rowsA encT 137 3 (.slice ad lp.length c) lp] w'
theorem sparts_c {S:Sto} {T:Tab} {lv:Value} {m id s n:Nat} (hS:S.Ok) (hT:TabOk S T) (hid:id≤S.list.length) (hf:s + n≤(S.txt id).length) (w:World) (h1:(tabA T).ho w) (h2:(stoA T.s lv m S).ho w) :
  Calls Tryz.prog 39 #[.pointer (some ⟨T.p,0,none⟩),.int .i64 id,.int .i64 s,.int .i64 n] w (SPartsPost S T.back (S.pcTxt ⟨id,s,n⟩) w):=by
 have H:=St.nil w []
 have HK:Ks w [] [tabA T,stoA T.s lv m S]:=⟨fun A hA=>by simp at hA;rcases hA with rfl | rfl;exact h1;exact h2,fun A hA b hb=>by simp⟩
 have HST:Hid (∀ w,(tabA T).ho w→Calls Tryz.prog 12 #[.pointer (some ⟨T.p,0,none⟩)] w fun e w'=>e = .returned (.pointer (some ⟨T.s,0,none⟩))∧w' = w):=Lib.hid fun w h=>store_c hT w h
 have HO:Hid (∀ w,(stoA T.s lv m S).ho w→Calls Tryz.prog 64 #[.pointer (some ⟨T.s,0,none⟩),.int .i64 id,.int .i64 s,.int .i64 n] w fun e w'=>∃ ad c ps,e = .returned (.tuple #[.slice ad ps.length c,.nilIface])∧textP S ps = S.pcTxt ⟨id,s,n⟩∧(∀ t∈ps,PtOk S (fun _=>True) t)∧ps.length≤6 * S.list.length + 6∧St w [] [rowsA encT 137 3 (.slice ad ps.length c) ps] w'):=Lib.hid fun w h=>of_c hS (closed_all S) hid (.inr trivial) hf w h
 have HRV:=Lib.hid (show ∀ (ps:List Pt) ad c,ps.length≤16777216→∀ w,(rowsA encT 137 3 (.slice ad ps.length c) ps).ho w→Calls Tryz.prog 65 #[.slice ad ps.length c] w fun e w'=>e = .returned (.tuple #[])∧St w (rowsA encT 137 3 (.slice ad ps.length c) ps).fp [rowsA encT 137 3 (.slice ad ps.length c) ps.reverse] w' from fun ps ad c hl w h=>revT_c rfl hl w h)
 have hl1:=hS.len
 have hl2:=hS.most
 have HBA:Hid (∀ w,(tabA T).ho w→Calls Tryz.prog 57 #[.pointer (some ⟨T.p,0,none⟩)] w fun e w'=>e = .returned (.bool T.back)∧w' = w):=Lib.hid fun w h=>back_c hT w h
 clear hT hS h1 h2 hf
 rcases hbk:T.back with _ | _
 ·have HBK:=Lib.hid hbk
  have HBA2:Hid (∀ w,(tabA T).ho w→Calls Tryz.prog 57 #[.pointer (some ⟨T.p,0,none⟩)] w fun e w'=>e = .returned (.bool false)∧w' = w):=Lib.hid (by rw [← hbk];exact HBA.out)
  clear hbk
  go_enter Tryz.func39,Tryz.ntmps39
  go_wp2_with (first | refine sL ?_ | (go_at_call 12;with_reducible refine Calls.mono (HST.out _ (H.known HK pk)) ?_;rintro e wc ⟨rfl,hwc⟩;obtain rfl:=hwc.symm) | (go_at_call 57;with_reducible refine Calls.mono (HBA2.out _ (H.known HK pk)) ?_;rintro e wc ⟨rfl,hwc⟩;obtain rfl:=hwc.symm) | (go_at_call 64;with_reducible refine Calls.mono (HO.out _ (H.known HK pk)) ?_;rintro e wc ⟨ad,c,ps,rfl,htx,hpts,hpl,hb⟩;replace H:=H.call0 hb;clear hb;simp only [List.cons_append,List.nil_append] at H;have HTX:=Lib.hid htx;have HPT:=Lib.hid hpts;have HPL:=Lib.hid hpl;clear htx hpts hpl))
  go_ret
  exact ⟨ad,c,ps,rfl,by rw [← HTX.out];exact runP_all S false ps,HPT.out,HPL.out,(H.pick (A:=rowsA encT 137 3 (.slice ad ps.length c) ps) pk).onlyHead⟩
 ·have HBK:=Lib.hid hbk
  have HBA2:Hid (∀ w,(tabA T).ho w→Calls Tryz.prog 57 #[.pointer (some ⟨T.p,0,none⟩)] w fun e w'=>e = .returned (.bool true)∧w' = w):=Lib.hid (by rw [← hbk];exact HBA.out)
  clear hbk
  go_enter Tryz.func39,Tryz.ntmps39
  go_wp2_with (first | refine sL ?_ | (go_at_call 12;with_reducible refine Calls.mono (HST.out _ (H.known HK pk)) ?_;rintro e wc ⟨rfl,hwc⟩;obtain rfl:=hwc.symm) | (go_at_call 57;with_reducible refine Calls.mono (HBA2.out _ (H.known HK pk)) ?_;rintro e wc ⟨rfl,hwc⟩;obtain rfl:=hwc.symm) | (go_at_call 64;with_reducible refine Calls.mono (HO.out _ (H.known HK pk)) ?_;rintro e wc ⟨ad,c,ps,rfl,htx,hpts,hpl,hb⟩;replace H:=H.call0 hb;clear hb;simp only [List.cons_append,List.nil_append] at H;have HTX:=Lib.hid htx;have HPT:=Lib.hid hpts;have HPL:=Lib.hid hpl;have hpsb:ps.length≤16777216:=(by omega);clear htx hpts hpl) | (go_at_call 65;with_reducible refine Calls.mono (HRV.out ps ad c hpsb _ (H.get (A:=rowsA encT 137 3 (.slice ad ps.length c) ps) pk)) ?_;rintro e wc ⟨rfl,hb⟩;replace H:=H.pick (A:=rowsA encT 137 3 (.slice ad ps.length c) ps) pk;replace H:=H.call hb;clear hb;simp only [List.cons_append,List.nil_append] at H))
  go_ret
  have hlr:ps.reverse.length = ps.length:=List.length_reverse
  refine ⟨ad,c,ps.reverse,by rw [hlr];rfl,by rw [← HTX.out];exact runP_all S true ps,fun t ht=>HPT.out t (List.mem_reverse.1 ht),by rw [hlr];exact HPL.out,?_⟩
  rw [hlr]
  exact (H.pick (A:=rowsA encT 137 3 (.slice ad ps.length c) ps.reverse) pk).onlyHead
end
section
open Go.RowKit Go.Maps
attribute [local go_sem] InGr
def enc16 (x:Nat):List Value:=[.int .i16 x]
theorem enc16_len (x:Nat):(enc16 x).length = 1:=rfl
theorem St.only5 {w0 w:World} {M:List Nat} {L R1 R2 R3 R4 R5:List As} {A B C D E:As} (h:St w0 M L w) (h1:Pick L A R1) (h2:Pick R1 B R2) (h3:Pick R2 C R3) (h4:Pick R3 D R4) (h5:Pick R4 E R5):St w0 M [A,B,C,D,E] w :=
 (h.perm (L':=[A,B,C,D,E] ++ R5) (h1.perm.trans ((h2.perm.trans ((h3.perm.trans ((h4.perm.trans ((h5.perm).cons _)).cons _)).cons _)).cons _))).heads
theorem St.sepK {w0 w:World} {M:List Nat} {L R K R':List As} {A B:As} (h:St w0 M L w) (k:Ks w0 M K) (hp:Pick L A R) (hq:Pick K B R'):(A.sep B).ho w:=by
 rw [sep_ho]
 refine ⟨h.get hp,h.known k hq,fun b hb hm=>?_⟩
 rcases h.own A hp.mem b hb with h' | h'
 ·have:=B.lt w0 (k.ho B hq.mem) b hm;omega
 ·exact k.apart B hq.mem b hm h'
theorem flat_zeros (n:Nat):flatG enc16 (List.replicate n 0) = List.replicate n (.int .i16 0):=by
 induction n with
 |zero=>rfl
 |succ n ih=>rw [List.replicate_succ,List.replicate_succ,← ih];rfl
def stepT (S:Sto) (T:Tab) (id:Nat):Nat→Nat:=fun q=>T.mc.ends q (dirT T.back (S.txt id))
theorem stepT_ext {S:Sto} {T T':Tab} (h:T.Ext T') (id:Nat):stepT S T' id = stepT S T id:=by
 obtain ⟨_,_,_,_,h1,h2⟩:=h.same
 unfold stepT;rw [h1,h2]
theorem stepT_lt {S:Sto} {T:Tab} {id:Nat} (hS:S.Ok) (hT:TabOk S T) (hid:id≤S.list.length):∀ q,q < T.mc.n→stepT S T id q < T.mc.n:=fun q hq=>by
 obtain ⟨c,ok⟩:=hT.ok
 exact ok.ends_lt hq fun b hb=>S.txt_lt hS hid b (by unfold dirT at hb;split at hb;simpa using hb;exact hb)
def FoRel (S:Sto) (T:Tab) (id q0 times:Nat) (b8 b9 b10:Nat) (M:List Nat) (w:World) (k:Nat) (v2:Value) (wr:World):Prop :=
 ∃ T' ad c xs sn,v2 = .int .i64 (itr (stepT S T id) xs.length q0:Nat)∧k = sn.count 0∧Way (stepT S T id) q0 xs sn∧T.Ext T'∧TabOk S T' ∧
  St w M [tabA T',rowsA encI 3 1 (.slice ad xs.length c) xs,rowsA enc16 154 1 (.slice (some ⟨b9,0,none⟩) 256 256) sn,blk b10 (.cells #[.slice ad xs.length c,.int .i64 0] 139),blk b8 (.cells #[.slice none 0 0,.int .i64 0] 139)] wr
def FoPost (S:Sto) (T:Tab) (id q0 times:Nat) (M:List Nat) (w:World) (e:Ending) (w':World):Prop :=
 ∃ T' ad c xs tail,e = .returned (.agg #[.slice ad xs.length c,.int .i64 (tail:Nat)])∧Orb (stepT S T id) q0 times xs tail∧T.Ext T'∧TabOk S T'∧St w M [tabA T',rowsA encI 3 1 (.slice ad xs.length c) xs] w'
theorem follow_c {S:Sto} {T:Tab} {lv:Value} {m id q times:Nat} (hS:S.Ok) (hT:TabOk S T) (hid:id≤S.list.length) (hq:q < T.mc.n) (ht:times≤1152921504606846976) (w:World) (h:((tabA T).sep (stoA T.s lv m S)).ho w) :
  Calls Tryz.prog 62 #[.pointer (some ⟨T.p,0,none⟩),.int .i64 id,.int .i64 q,.int .i64 times] w (FoPost S T id q times (tabA T).fp w):=by
 have h0:=h
 rw [sep_ho] at h
 obtain ⟨h1,h2,hd⟩:=h
 have H:=St.one h1
 have HK:Ks w (tabA T).fp [stoA T.s lv m S]:=⟨by simpa using h2,by simpa using fun b hb hm=>hd b hm hb⟩
 have HE:Hid (∀ T',T.Ext T'→TabOk S T'→∀ q,q < T.mc.n→∀ w,((tabA T').sep (stoA T.s lv m S)).ho w→Calls Tryz.prog 46 #[.pointer (some ⟨T.p,0,none⟩),.int .i64 id,.int .i64 q] w (fun e w'=>∃ T'',e = .returned (.int .i64 (stepT S T id q:Nat))∧T.Ext T''∧TabOk S T''∧St w (tabA T').fp [tabA T''] w')):=Lib.hid fun T' hx hT' q hq w h=>by
  obtain ⟨x1,x2,x3,x4,x5,x6⟩:=hx.same
  have hc:=send_c (lv:=lv) (m:=m) hS hT' hid (q:=q) (by rw [x5];exact hq) w (by rw [x2];exact h)
  rw [x1] at hc
  with_reducible refine Calls.mono hc ?_
  rintro e w' ⟨T'',he,hx',hT'',hs⟩
  exact ⟨T'',by rw [he,x5,x6];rfl,hx.trans hx',hT'',hs⟩
 have HLT:Hid (∀ k,itr (stepT S T id) k q < T.mc.n):=Lib.hid fun k=>itr_lt (stepT_lt hS hT hid) hq
 have hn256:T.mc.n≤256:=by obtain ⟨c,ok⟩:=hT.ok;exact ok.n256
 have HTO:=Lib.hid hT
 have HD:=Lib.hid hd
 clear hT h0 h1 h2 hd hS hq
 go_enter Tryz.func62,Tryz.ntmps62
 go_wp2_with (first | refine sL ?_ | (refine sS ?_;clear H;intros;rename_i H))
 rename_i b8 _ b9 _ b10 _ _ _
 replace H:=H.pick (A:=blk b9 (.cells (Array.replicate 256 (.int .i16 0)) 154)) pk
 replace H:=H.conv (A':=rowsA enc16 154 1 (.slice (some ⟨b9,0,none⟩) 256 256) (List.replicate 256 0)) (by rw [rowsA_fp',blk_fp];rfl) fun hb=>by
  rw [blk_ho] at hb
  have:=rowsA_of_blk (enc:=enc16) (k:=1) (xs:=List.replicate 256 0) hb (by rw [List.length_replicate];simp [maxLen]) (by rw [flat_zeros];simp) enc16_len
  rwa [List.length_replicate] at this
 replace H:=H.empty (A:=rowsA encI 3 1 (.slice none 0 0) []) (rowsA_nil _) (by rw [rowsA_fp'];rfl)
 go_loopg [2] 256 (fun k v2 wr=>FoRel S T id q times b8 b9 b10 (tabA T).fp w k v2 wr)
 case atStart=>exact ⟨T,none,0,[],List.replicate 256 0,rfl,by rw [List.count_replicate_self],Way.start _ _,.refl T,HTO.out,H.only5 (A:=tabA T) (B:=rowsA encI 3 1 (.slice none 0 0) []) (C:=rowsA enc16 154 1 (.slice (some ⟨b9,0,none⟩) 256 256) (List.replicate 256 0)) (D:=blk b10 (.cells #[.slice none 0 0,.int .i64 0] 139)) (E:=blk b8 (.cells #[.slice none 0 0,.int .i64 0] 139)) pk pk pk pk pk⟩
 case round =>
  clear H
  obtain ⟨T',ad,c,xs,sn,rfl,hk,hway,hext,hT',H⟩:=hrel
  have hxl:=hway.len
  have hq1:=HLT.out xs.length
  have HWAY:=Lib.hid hway
  have HEX:=Lib.hid hext
  have HT2:=Lib.hid hT'
  have HK0:=Lib.hid hk
  have HQ:=Lib.hid hq1
  generalize hqq:itr (stepT S T id) xs.length q = q1 at *
  have HQQ:=Lib.hid hqq
  clear hway hext hT' hk hqq
  by_cases hle:xs.length≤times
  ·obtain ⟨v,hv⟩:∃ v,sn[q1]? = some v:=⟨_,List.getElem?_eq_getElem (by rw [HWAY.out.size];omega)⟩
   have HV:=Lib.hid hv
   clear hv
   rcases Nat.eq_zero_or_pos v with h0 | h0
   ·subst h0
    go_wp2_with (first | refine sL ?_ | (refine sS ?_;clear H;intros;rename_i H) | ((with_reducible refine isLoad ?_);refine AtLoad.cel rfl rfl rfl rfl (rowsA_cell1 (H.get (A:=rowsA enc16 154 1 (.slice (some ⟨b9,0,none⟩) 256 256) sn) pk) enc16_len HV.out rfl) ?_;simp only [Act.put,puA,puB,puC]) | ((with_reducible refine isSlice ?_);refine AtSlice.one H rfl rfl rfl rfl rfl rfl rfl rfl rfl ?_;clear H;intro b _ H;simp only [Act.put,puA,puB,puC]) | ((with_reducible refine isAppend ?_);refine AtAppend.go (enc:=encI) H rfl rfl rfl rfl rfl (by decide) (by decide) rfl pk rfl (H.at pk) [q1] rfl (by simp [flatG,encI]) encI_len encI_one (by simp;omega) ?_;clear H;intro ad9 cp9 _ H;simp only [Act.put,puA,puB,puC]) | ((with_reducible refine isStore ?_);refine AtStore.rowA (enc:=enc16) (n:=256) (c:=256) H rfl rfl rfl rfl rfl rfl pk (xs.length + 1) (by first | rfl | (simp only [enc16];go_num)) enc16_len ?bd ?_;(case bd=>rw [HWAY.out.size];omega);clear H;intro _ H;simp only [Act.put,puA,puB,puC]) | (go_at_call 46;with_reducible refine Calls.mono (HE.out T' HEX.out HT2.out q1 HQ.out _ (H.sepK HK (A:=tabA T') (B:=stoA T.s lv m S) pk pk)) ?_;rintro e wc ⟨T2,rfl,hext2,hT2,hb⟩;replace H:=H.pick (A:=tabA T') pk;replace H:=H.call hb;clear hb;simp only [List.cons_append,List.nil_append] at H;have HX3:=Lib.hid hext2;have HT3:=Lib.hid hT2;clear hext2 hT2))
    obtain ⟨hw2,hc2⟩:=HWAY.out.next HQQ.out.symm (by omega) HV.out
    have hl1:(xs ++ [q1]).length = xs.length + 1:=by simp
    go_roundg ((sn.set q1 (xs.length + 1)).count 0)
    case measure=>rw [HK0.out];exact hc2
    case rel =>
     refine ⟨T2,ad9,cp9,xs ++ [q1],sn.set q1 (xs.length + 1),?_,rfl,hw2,HX3.out,HT3.out,?_⟩
     ·rw [hl1,itr_succ,HQQ.out]
     ·rw [hl1]
      exact H.only5 (A:=tabA T2) (B:=rowsA encI 3 1 (.slice ad9 (xs.length + 1) cp9) (xs ++ [q1])) (C:=rowsA enc16 154 1 (.slice (some ⟨b9,0,none⟩) 256 256) (sn.set q1 (xs.length + 1))) (D:=blk b10 (.cells #[.slice ad9 (xs.length + 1) cp9,.int .i64 0] 139)) (E:=blk b8 (.cells #[.slice none 0 0,.int .i64 0] 139)) pk pk pk pk pk
   ·obtain ⟨v',rfl⟩:∃ v',v = v' + 1:=⟨v - 1,by omega⟩
    have horb:Orb (stepT S T id) q times xs v':=HWAY.out.met HQQ.out.symm HV.out
    have HORB:=Lib.hid horb
    have hv':v' < 256:=by
     rcases horb.ends with h | h
     ·omega
     ·omega
    clear horb h0
    go_wp2_with (first | refine sL ?_ | (refine sS ?_;clear H;intros;rename_i H) | ((with_reducible refine isLoad ?_);refine AtLoad.cel rfl rfl rfl rfl (rowsA_cell1 (H.get (A:=rowsA enc16 154 1 (.slice (some ⟨b9,0,none⟩) 256 256) sn) pk) enc16_len HV.out rfl) ?_;simp only [Act.put,puA,puB,puC]))
    refine bodyPost_ret (res_row rfl H rfl pk rfl) rfl ?_
    exact ⟨T',ad,c,xs,v',rfl,HORB.out,HEX.out,HT2.out,(H.pick2 (A:=tabA T') (B:=rowsA encI 3 1 (.slice ad xs.length c) xs) pk pk).onlyTwo⟩
  ·have horb:Orb (stepT S T id) q times xs xs.length:=HWAY.out.full (by omega)
   have HORB:=Lib.hid horb
   clear horb
   go_wp2_with (first | refine sL ?_ | (refine sS ?_;clear H;intros;rename_i H))
   refine bodyPost_ret (res_row rfl H rfl pk rfl) rfl ?_
   exact ⟨T',ad,c,xs,xs.length,rfl,HORB.out,HEX.out,HT2.out,(H.pick2 (A:=tabA T') (B:=rowsA encI 3 1 (.slice ad xs.length c) xs) pk pk).onlyTwo⟩
theorem at_orb {f:Nat→Nat} {q times tail cs:Nat} {xs:List Nat} {ad:Option Addr} {c:Nat} (h:Orb f q times xs tail) (hc:cs≤times) (ht:times≤1152921504606846976) (w:World) (hr:(rowsA encI 3 1 (.slice ad xs.length c) xs).ho w) :
  Calls Tryz.prog 63 #[.agg #[.slice ad xs.length c,.int .i64 (tail:Nat)],.int .i64 cs] w fun e w'=>e = .returned (.int .i64 (itr f cs q:Nat))∧St w [] [] w':=by
 have H:=St.nil w []
 have HK:=Ks.one hr
 have hp:=h.pos
 have hl:=h.le
 obtain ⟨g,c',hs,hlc,hcm⟩:=rowsA_cases hr hp
 unfold maxLen at hcm
 injection hs with e1 e2 e3
 subst e1 e3
 clear e2
 have HORB:=Lib.hid h
 clear h hr
 by_cases hlt:cs < xs.length
 ·have HG:=Lib.hid (HORB.out.at_low hlt)
  generalize itr f cs q = r at *
  go_enter Tryz.func63,Tryz.ntmps63
  go_wp2_with (first | refine sL ?_ | (refine sS ?_;clear H;intros;rename_i H) | ((with_reducible refine isLoad ?_);refine AtLoad.cel rfl rfl rfl rfl (rowsA_cell1 (H.known HK (A:=rowsA encI 3 1 (.slice (some ⟨g,0,none⟩) xs.length c) xs) pk) encI_len HG.out rfl) ?_;simp only [Act.put,puA,puB,puC]))
  go_ret
  exact ⟨rfl,H.nix⟩
 ·obtain ⟨t1,t2,t3⟩:=HORB.out.at_high hlt hc
  have HG:=Lib.hid t3
  have hm:=Nat.mod_lt (cs - tail) (show 0 < xs.length - tail by omega)
  have i1:(cs:Int) - tail = ((cs - tail:Nat):Int):=by omega
  have i2:(xs.length:Int) - tail = ((xs.length - tail:Nat):Int):=by omega
  have hz:((xs.length - tail:Nat):Int)≠0:=by omega
  have i3:((cs - tail:Nat):Int).tmod ((xs.length - tail:Nat):Int) = (((cs - tail) % (xs.length - tail):Nat):Int):=by simp [Int.tmod]
  have b1:cs - tail≤1152921504606846976:=by omega
  have b2:xs.length - tail≤256:=by omega
  have d0:decide ((cs:Int) < xs.length) = false:=by simp;omega
  have d1:decide (cs < xs.length) = false:=by simp;omega
  generalize itr f cs q = r at *
  generalize hr:(cs - tail) % (xs.length - tail) = r2 at *
  generalize hx1:cs - tail = x1 at *
  generalize hx2:xs.length - tail = x2 at *
  have HI1:=Lib.hid i1
  have HI2:=Lib.hid i2
  have HI3:=Lib.hid i3
  have hb3:tail + r2 < xs.length:=by omega
  clear hr hx1 hx2 i1 i2 i3
  go_enter Tryz.func63,Tryz.ntmps63
  go_wp2_with (first | refine sL ?_ | (refine sS ?_;clear H;intros;rename_i H))
  clear t3
  have i1:=HI1.out
  have i2:=HI2.out
  have i3:=HI3.out
  refine wp_region_h H 18 [] [] (by kernel_rfl) (by kernel_rfl) ?_
  apply Exists.intro
  refine ⟨fun w1 hw1 HX=>?_,fun bs wr Hr=>?_⟩
  ·refine sG ?_
   repeat (first | refine sQ ?_ | ((with_reducible refine isQLoad ?_);refine QtLoad.cel rfl rfl rfl rfl (fun y=>rowsA_cell1 ((HX y).known HK (A:=rowsA encI 3 1 (.slice (some ⟨g,0,none⟩) xs.length c) xs) pk) encI_len HG.out rfl) ?_;simp only [Act.put,puA,puB,puC]) | go_big_quiet_step (fail))
   exact wpQuiet_nil rfl
  clear H
  have H:=Hr
  clear Hr
  replace H:=sH H;refine sT ?_
  go_wp2_with (first | refine sL ?_ | (refine sS ?_;clear H;intros;rename_i H))
  go_ret
  exact ⟨rfl,H.nix⟩
end
section
open Go.RowKit
structure GS where
 D:List Nat
 R:Value→List Value→Prop
def gAt (Ss:List GS) (k:Nat):GS:=Ss.getD k ⟨[],fun _ _=>True⟩
def gFact (Ss:List GS) (vals:Nat→Value) (k:Nat):Prop:=(gAt Ss k).R (vals k) ((gAt Ss k).D.map vals)
def cAt (Cs:List ((Nat→Value)→World→Prop)) (s:Nat) (vals:Nat→Value) (w:World):Prop:=Cs.getD s (fun _ _=>True) vals w
def upV (vals:Nat→Value) (k:Nat) (v:Value):Nat→Value:=fun i=>if i = k then v else vals i
theorem upV_self (vals:Nat→Value) (k:Nat) (v:Value):upV vals k v k = v:=by simp [upV]
theorem upV_ne (vals:Nat→Value) {k i:Nat} (v:Value) (h:i≠k):upV vals k v i = vals i:=by simp [upV,h]
def feasB (ops:Array Oper) (Bs:List Nat) (k s:Nat):Bool:=Bs.zipIdx.all fun p=>(!reachB ops ops.size k p.1 || decide (p.2 < s)) && (!reachB ops ops.size p.1 k || decide (s≤p.2)) && (decide (p.1≠k) || decide (s = p.2))
def sgB (ops:Array Oper) (m:Nat) (Ss:List GS) (Bs:List Nat) (SL:List (List Nat)):Bool :=
 growB ops m && ((List.range m).all fun k=>(gAt Ss k).D.all fun i=>decide (i < m) && reachB ops ops.size k i) && (Bs.all fun b=>decide (b < m)) &&
 ((List.range Bs.length).all fun j=>(List.range j).all fun i=>reachB ops ops.size (Bs.getD j 0) (Bs.getD i 0)) &&
 ((List.range m).all fun k=>(List.range (Bs.length + 1)).all fun s=>!feasB ops Bs k s || (SL.getD k []).contains s)
theorem feas_spec {ops:Array Oper} {Bs:List Nat} {k s:Nat} (h:∀ i b,Bs[i]? = some b→(reachB ops ops.size k b = true→i < s)∧(reachB ops ops.size b k = true→s≤i)∧(b = k→s = i)):feasB ops Bs k s = true:=by
 unfold feasB
 rw [List.all_eq_true]
 rintro ⟨b,i⟩ hp
 have hb:Bs[i]? = some b:=by
  have:=List.mem_zipIdx hp
  simp at this
  rw [List.getElem?_eq_some_iff]
  exact ⟨this.1,this.2.symm⟩
 obtain ⟨h1,h2,h3⟩:=h i b hb
 simp only [Bool.and_eq_true,Bool.or_eq_true,Bool.not_eq_true',decide_eq_true_eq]
 refine ⟨⟨?_,?_⟩,?_⟩
 ·cases hr:reachB ops ops.size k b with
  |false=>exact .inl rfl
  |true=>exact .inr (h1 hr)
 ·cases hr:reachB ops ops.size b k with
  |false=>exact .inl rfl
  |true=>exact .inr (h2 hr)
 ·by_cases e:b = k
  ·exact .inr (h3 e)
  ·exact .inl e
section
variable {P:Program} {ops:Array Oper}
theorem wpAny_sg {m:Nat} {Ss:List GS} {Bs:List Nat} {SL:List (List Nat)} {Cs:List ((Nat→Value)→World→Prop)} (hB:sgB ops m Ss Bs SL = true) {Q:Exit→Act→World→Prop} (a0:Act)
  (step:∀ k o,k < m→ops[k]? = some o→∀ s,s∈SL.getD k []→∀ vals w,(∀ i∈(gAt Ss k).D,gFact Ss vals i)→cAt Cs s vals w →
   StStep P ops o (putL ops vals (depsOf ops k) a0) w fun v w'=>(gAt Ss k).R v ((gAt Ss k).D.map vals)∧cAt Cs (if Bs.contains k then s + 1 else s) (upV vals k v) w')
  (fin:∀ vals w,(∀ i,i < m→gFact Ss vals i)→cAt Cs Bs.length vals w→wpAny P .any ops Q (ops.size - m) (flags ops.size m) (putL ops vals (List.range m) a0) w) :
  ∀ (d:Nat) (order:List Nat) (listed:Array Bool) (vals:Nat→Value) (s:Nat) (w:World),d + order.length = m→order.Nodup→(∀ i∈order,i < m)→listed.size = ops.size →
   (∀ j,j < ops.size→listed[j]? = some (decide (j∈order)))→s≤Bs.length→(∀ i b,Bs[i]? = some b→(b∈order ↔ i < s))→cAt Cs s vals w→(∀ i∈order,gFact Ss vals i) →
   (∀ k∈order,∀ o,ops[k]? = some o→∀ e∈o.after,Region.binds .any e = true→e.on∈order) →
   wpAny P .any ops Q (ops.size - order.length) listed (putL ops vals order a0) w:=by
 simp only [sgB,Bool.and_eq_true] at hB
 obtain ⟨⟨⟨⟨hB1,hBD⟩,hBm⟩,hBc⟩,hBf⟩:=hB
 have hok:GrowOk ops m []:=growOk_of hB1
 have hSD:∀ k,k < m→∀ i∈(gAt Ss k).D,reachB ops ops.size k i = true:=fun k hk i hi=>by
  have:=List.all_eq_true.1 (List.all_eq_true.1 hBD k (List.mem_range.2 hk)) i hi
  simp only [Bool.and_eq_true] at this
  exact this.2
 have hbm:∀ (i b:Nat),Bs[i]? = some b→b < m:=fun i b hb=>by simpa using List.all_eq_true.1 hBm b (List.mem_of_getElem? hb)
 have hchain:∀ (i j b c:Nat),i < j→Bs[i]? = some b→Bs[j]? = some c→reachB ops ops.size c b = true:=fun i j b c hij hb hc=>by
  have hj:j < Bs.length:=(List.getElem?_eq_some_iff.1 hc).1
  have:=List.all_eq_true.1 (List.all_eq_true.1 hBc j (List.mem_range.2 hj)) i (List.mem_range.2 hij)
  simpa [List.getD_eq_getElem?_getD,hb,hc] using this
 have hfeas:∀ k s,k < m→s≤Bs.length→feasB ops Bs k s = true→s∈SL.getD k []:=fun k s hk hs h=>by
  have:=List.all_eq_true.1 (List.all_eq_true.1 hBf k (List.mem_range.2 hk)) s (List.mem_range.2 (by omega))
  simpa [h] using this
 intro d
 induction d with
 |zero =>
  intro order listed vals s w hd hn hlt hsz hl hs hst hg hR hC
  have hlen:order.length = m:=by omega
  have hall:=(length_le_of hn hlt).2 hlen
  have e1:listed = flags ops.size m:=by
   apply Array.ext_getElem?
   intro j
   by_cases hj:j < ops.size
   ·rw [hl j hj,flags_get _ _ _ hj]
    congr 1
    have:(j∈order) ↔ j < m:=⟨hlt j,hall j⟩
    simp [this]
   ·rw [Array.getElem?_eq_none (by omega),Array.getElem?_eq_none (by rw [flags_size];omega)]
  have e2:putL ops vals order a0 = putL ops vals (List.range m) a0:=by
   have ht:(putL ops vals order a0).tmps = (putL ops vals (List.range m) a0).tmps:=by
    apply Array.ext_getElem?
    intro t
    exact putL_same vals t (fun i j=>hok.uniq i j t) _ _ _ fun i _=>by rw [List.mem_range];exact ⟨hlt i,hall i⟩
   have hdf:(putL ops vals order a0).defers = (putL ops vals (List.range m) a0).defers:=by rw [putL_defers,putL_defers]
   generalize putL ops vals order a0 = x at *
   generalize putL ops vals (List.range m) a0 = y at *
   cases x;cases y;simp only at ht hdf;subst ht hdf;rfl
  rw [e1,e2,hlen]
  have hsl:s = Bs.length:=by
   rcases Nat.lt_or_ge s Bs.length with h | h
   ·obtain ⟨b,hb⟩:∃ b,Bs[s]? = some b:=⟨_,List.getElem?_eq_getElem h⟩
    have:=(hst s b hb).1 (hall b (hbm s b hb))
    omega
   ·omega
  rw [hsl] at hg
  exact fin vals w (fun i hi=>hR i (hall i hi)) hg
 |succ d ih =>
  intro order listed vals s w hd hn hlt hsz hl hs hst hg hR hC
  have hm:m≤ops.size:=hok.le
  obtain ⟨f,hf⟩:∃ f,ops.size - order.length = f + 1:=⟨ops.size - order.length - 1,by omega⟩
  rw [hf]
  have hex:∃ i,i < m∧i ∉ order:=Classical.byContradiction fun h=>by
   have:∀ i,i < m→i∈order:=fun i hi=>Classical.byContradiction fun h'=>h ⟨i,hi,h'⟩
   have:=le_length_of this
   omega
  have hT:∀ j,listed.getD j false = true→j∈order:=fun j hj=>by
   by_cases hj2:j < ops.size
   ·rw [Array.getD_eq_getD_getElem?,hl j hj2] at hj
    simpa using hj
   ·rw [Array.getD_eq_getD_getElem?,Array.getElem?_eq_none (by omega)] at hj
    simp at hj
  have hF:∀ j,j < ops.size→listed.getD j true = false→j ∉ order:=fun j hj2 hj=>by
   rw [Array.getD_eq_getD_getElem?,hl j hj2] at hj
   simpa using hj
  refine ⟨fun h0=>?_,fun j hj=>?_⟩
  ·exfalso
   obtain ⟨i,hi,hno⟩:=hex
   have:∀ i,i < m→i ∉ order→False:=fun i=>by
    induction i using Nat.strongRecOn with
    |_ i ihi =>
     intro hi hno
     obtain ⟨o,ho⟩:∃ o,ops[i]? = some o:=⟨ops[i],by simp⟩
     have hr:i∈Region.ready .any ops listed:=mem_ready.2 ⟨by rw [Array.getD_eq_getD_getElem?,hl i (by omega)];simp [hno],o,ho,fun e he hb=>by
      have hlt':=hok.back i o ho e he hb
      by_cases hin:e.on∈order
      ·rw [Array.getD_eq_getD_getElem?,hl _ (by omega)];simp [hin]
      ·exact (ihi e.on hlt' (by omega) hin).elim⟩
     rw [h0] at hr
     cases hr
   exact this i hi hno
  ·obtain ⟨hun,o,ho,hall⟩:=mem_ready.1 hj
   have hjn:j < ops.size:=(Array.getElem?_eq_some_iff.1 ho).1
   have hjo:j ∉ order:=hF j hjn hun
   have hjm:j < m:=by
    rcases Nat.lt_or_ge j m with h | h
    ·exact h
    ·obtain ⟨i,hi,hno⟩:=hex
     exact absurd (reach_in hC ops.size j i o ho (fun e he hb=>hT e.on (hall e he hb)) (hok.tail j o ho h i (by omega) (by simp))) hno
   have hreach:∀ i,reachB ops ops.size j i = true→i∈order:=fun i h=>reach_in hC ops.size j i o ho (fun e he hb=>hT e.on (hall e he hb)) h
   have hreach':∀ k∈order,∀ i,reachB ops ops.size k i = true→i∈order:=fun k hk i h=>by
    have hkm:=hlt k hk
    obtain ⟨ok,hok'⟩:∃ ok,ops[k]? = some ok:=⟨ops[k],by simp⟩
    exact reach_in hC ops.size k i ok hok' (hC k hk ok hok') h
   have hdeps:∀ i∈depsOf ops j,i∈order:=fun i hi=>by
    obtain ⟨e,he,hb,hon⟩:=hok.deps j o ho i hi
    exact hT i (by rw [← hon];exact hall e he hb)
   obtain ⟨hex1,hw1⟩:=exec_same hok ho vals order a0 hdeps (no_wait hC hjo)
   have hinD:∀ i∈(gAt Ss j).D,i∈order:=fun i hi=>hreach i (hSD j hjm i hi)
   have hDj:∀ i∈(gAt Ss j).D,i≠j:=fun i hi e=>hjo (e ▸ hinD i hi)
   have hfe0:feasB ops Bs j s = true:=feas_spec fun i b hb=>by
    refine ⟨fun h=>(hst i b hb).1 (hreach b h),fun h=>?_,fun h=>?_⟩
    ·rcases Nat.lt_or_ge i s with hi | hi
     ·exact absurd (hreach' b ((hst i b hb).2 hi) j h) hjo
     ·exact hi
    ·subst h
     rcases Nat.lt_trichotomy i s with hi | hi | hi
     ·exact absurd ((hst i b hb).2 hi) hjo
     ·exact hi.symm
     ·have hil:i < Bs.length:=(List.getElem?_eq_some_iff.1 hb).1
      obtain ⟨c,hc⟩:∃ c,Bs[s]? = some c:=⟨_,List.getElem?_eq_getElem (by omega)⟩
      have:=(hst s c hc).1 (hreach c (hchain s i c b hi hc hb))
      omega
   have hfe:s∈SL.getD j []:=hfeas j s hjm hs hfe0
   have hstep:=step j o hjm ho s hfe vals w (fun i hi=>hR i (hinD i hi)) hg
   have next:∀ v w',(gAt Ss j).R v ((gAt Ss j).D.map vals)→cAt Cs (if Bs.contains j then s + 1 else s) (upV vals j v) w' →
     wpAny P .any ops Q f (listed.setIfInBounds j true) ((putL ops vals order a0).put o.dst v) w':=fun v w' hRv hst'=>by
    have hne:∀ i∈order,upV vals j v i = vals i:=fun i hi=>upV_ne vals v fun e=>hjo (e ▸ hi)
    have hmapD:∀ k,k = j∨k∈order→(gAt Ss k).D.map (upV vals j v) = (gAt Ss k).D.map vals:=fun k hk=>List.map_congr_left fun i hi=>by
     rcases hk with rfl | hk
     ·exact hne i (hinD i hi)
     ·exact hne i (hreach' k hk i (hSD k (hlt k hk) i hi))
    have hp:(putL ops vals order a0).put o.dst v = putL ops (upV vals j v) (order ++ [j]) a0:=by
     rw [putL_snoc,putL_congr order a0 hne]
     simp [dstAt,ho,upV_self]
    rw [hp]
    have hf':f = ops.size - (order ++ [j]).length:=by simp;omega
    rw [hf']
    have hnew:(if Bs.contains j then s + 1 else s)≤Bs.length∧∀ i b,Bs[i]? = some b→(b∈order ++ [j] ↔ i < if Bs.contains j then s + 1 else s):=by
     by_cases hbj:j∈Bs
     ·obtain ⟨t,ht⟩:=List.getElem?_of_mem hbj
      have hts:t = s:=by
       have hfe2:=hfe0
       unfold feasB at hfe2
       rw [List.all_eq_true] at hfe2
       have:=hfe2 (j,t) (by rw [List.mem_iff_getElem?];exact ⟨t,by simp [List.getElem?_zipIdx,ht]⟩)
       simp only [Bool.and_eq_true,Bool.or_eq_true,decide_eq_true_eq] at this
       rcases this.2 with h | h
       ·exact absurd rfl h
       ·exact h.symm
      subst hts
      have htl:t < Bs.length:=(List.getElem?_eq_some_iff.1 ht).1
      simp only [List.contains_eq_mem,hbj,decide_true,if_true]
      refine ⟨by omega,fun i b hb=>?_⟩
      rw [List.mem_append,hst i b hb]
      simp only [List.mem_singleton]
      constructor
      ·rintro (h | h)
       ·omega
       ·subst h
        rcases Nat.lt_trichotomy i t with hi | hi | hi
        ·omega
        ·omega
        ·have:=hreach _ (hchain t i b b hi ht hb)
         exact absurd this hjo
      ·intro h
       rcases Nat.lt_or_ge i t with hi | hi
       ·exact .inl hi
       ·have:i = t:=by omega
        subst this
        exact .inr (Option.some.inj (hb.symm.trans ht))
     ·simp only [List.contains_eq_mem,hbj,decide_false,if_false,Bool.false_eq_true]
      refine ⟨hs,fun i b hb=>?_⟩
      rw [List.mem_append,hst i b hb]
      simp only [List.mem_singleton]
      exact ⟨fun h=>by
       rcases h with h | h
       ·exact h
       ·subst h;exact absurd (List.mem_of_getElem? hb) hbj,.inl⟩
    refine ih (order ++ [j]) _ _ _ w' (by simp;omega) (List.nodup_append.2 ⟨hn,by simp,fun x hx y hy=>by simp at hy;rintro rfl;exact hjo (hy ▸ hx)⟩)
     (fun i hi=>?_) (by simpa using hsz) (fun i hi=>?_) hnew.1 hnew.2 hst' (fun i hi=>?_) (fun k hk o' ho' e he hb=>?_)
    ·simp at hi
     rcases hi with hi | hi
     ·exact hlt i hi
     ·omega
    ·by_cases hij:i = j
     ·subst hij
      rw [Array.getElem?_setIfInBounds_self]
      simp [show i < listed.size by omega]
     ·rw [Array.getElem?_setIfInBounds_ne (Ne.symm hij),hl i hi]
      simp [hij]
    ·simp at hi
     have:gFact Ss (upV vals j v) i = if i = j then (gAt Ss j).R v ((gAt Ss j).D.map vals) else gFact Ss vals i:=by
      by_cases hij:i = j
      ·subst hij
       unfold gFact
       rw [hmapD i (.inl rfl),upV_self]
       simp
      ·rcases hi with hi | hi
       ·unfold gFact
        rw [hmapD i (.inr hi),upV_ne vals v hij]
        simp [hij]
       ·exact absurd hi hij
     rw [this]
     split
     ·exact hRv
     ·rename_i hij
      rcases hi with hi | hi
      ·exact hR i hi
      ·exact absurd hi hij
    ·simp at hk ⊢
     rcases hk with hk | hk
     ·exact .inl (hC k hk o' ho' e he hb)
     ·subst hk
      obtain rfl:o' = o:=Option.some.inj (ho'.symm.trans ho)
      exact .inl (hT e.on (hall e he hb))
   have hs:=hstep
   unfold StStep at hs
   unfold wpOp
   simp only [ho]
   rw [hw1]
   split
   ·rename_i hw
    rw [if_pos hw] at hs
    refine .inl ?_
    unfold stAt at hs
    unfold Oper.wp
    rw [hex1]
    generalize (execOp (putL ops vals (depsOf ops j) a0).eval o).run P w = r at hs
    cases r with
    |ok n w' =>
     cases n <;> simp only [stUpon] at hs <;> simp only [Oper.upon]
     case value u=>exact next _ _ hs.1 hs.2
     case skip=>exact next _ _ hs.1 hs.2
     case enter f args=>exact hs.mono fun e w'' ⟨v,he,h1,h2⟩=>by subst he;exact next _ _ h1 h2
    |halt x w'=>simp only [stUpon] at hs
   ·rename_i hw
    rw [if_neg hw] at hs
    exact next _ _ hs.1 hs.2
theorem wp_region_sg {id:Nat} {Q:Exit→Act→World→Prop} {a:Act} {w:World} {l:List Oper} (m:Nat) (Ss:List GS) (Bs:List Nat) (SL:List (List Nat)) (Cs:List ((Nat→Value)→World→Prop)) (hm:P.follows .mixedOrders = true)
  (hB:(sgB l.toArray m Ss Bs SL && Region.seqB .any l.toArray (l.length - m) m (flags l.length m)) = true) (H:cAt Cs 0 (fun _=>undef) w.drew)
  (step:∀ k o,k < m→l[k]? = some o→∀ s,s∈SL.getD k []→∀ vals w,(∀ i∈(gAt Ss k).D,gFact Ss vals i)→cAt Cs s vals w →
   StStep P l.toArray o (putL l.toArray vals (depsOf l.toArray k) a) w fun v w'=>(gAt Ss k).R v ((gAt Ss k).D.map vals)∧cAt Cs (if Bs.contains k then s + 1 else s) (upV vals k v) w')
  (fin:∀ vals w,(∀ i,i < m→gFact Ss vals i)→cAt Cs Bs.length vals w→wpList P l.toArray Q (l.drop m) (putL l.toArray vals (List.range m) a) w):(Code.region id l.toArray true).wp P Q a w:=by
 simp only [Bool.and_eq_true] at hB
 have hB':=hB.1
 have hok:GrowOk l.toArray m []:=by
  simp only [sgB,Bool.and_eq_true] at hB'
  exact growOk_of hB'.1.1.1.1
 have hle:m≤l.length:=by simpa using hok.le
 refine wp_region_any hm ?_
 have:=wpAny_sg (P:=P) (Q:=Q) hB.1 a (fun k o hk ho=>step k o hk (by simpa using ho)) (fun vals w' hR hst=>by
  have:=wpAny_of_seq (P:=P) (md:=.any) (Q':=Q) (l.drop m) m (flags l.length m) (putL l.toArray vals (List.range m) a) w' (fun j=>by simp [List.getElem?_drop]) (by simpa using hB.2) (fin vals w' hR hst)
  simpa using this) m [] (Array.replicate l.length false) (fun _=>undef) 0 { w with drawn:=w.drawn + 1 } (by simp) (by simp) (by simp) (by simp) (fun j hj=>by
   have hj':j < l.length:=by simpa using hj
   simp [hj']) (by simp) (by simp) (by simpa using H) (by simp) (by simp)
 simpa [putL] using this
def GFacts (Ss:List GS) (vals:Nat→Value):List Nat→Prop
 |[]=>True
 |i :: is=>gFact Ss vals i∧GFacts Ss vals is
theorem gfacts_of {Ss:List GS} {vals:Nat→Value}:∀ {is:List Nat},(∀ i∈is,gFact Ss vals i)→GFacts Ss vals is
 |[],_=>trivial
 |i :: is,h=>⟨h i (by simp),gfacts_of fun j hj=>h j (by simp [hj])⟩
def GStep (P:Program) (ops:Array Oper) (a:Act) (Ss:List GS) (Cs:List ((Nat→Value)→World→Prop)) (k:Nat) (d:List (Nat × Tmp)) (g:GS) (o:Oper) (big:Bool):List Nat→Prop
 |[]=>True
 |s :: ss=>(∀ vals w,GFacts Ss vals g.D→cAt Cs s vals w→StStep P ops o (putS d vals a) w fun v w'=>g.R v (g.D.map vals)∧cAt Cs (if big then s + 1 else s) (upV vals k v) w')∧GStep P ops a Ss Cs k d g o big ss
theorem gstep_spec {a:Act} {Ss:List GS} {Cs:List ((Nat→Value)→World→Prop)} {k:Nat} {d:List (Nat × Tmp)} {g:GS} {o:Oper} {big:Bool}:∀ {ss:List Nat},GStep P ops a Ss Cs k d g o big ss→∀ s∈ss,∀ vals w,GFacts Ss vals g.D→cAt Cs s vals w→StStep P ops o (putS d vals a) w fun v w'=>g.R v (g.D.map vals)∧cAt Cs (if big then s + 1 else s) (upV vals k v) w'
 |[],_,s,hs=>by cases hs
 |s0 :: ss,h,s,hs=>by
  rcases List.mem_cons.1 hs with rfl | hs
  ·exact h.1
  ·exact gstep_spec h.2 s hs
def GSteps (P:Program) (ops:Array Oper) (a:Act) (Ss0:List GS) (Cs:List ((Nat→Value)→World→Prop)) (Bs:List Nat):Nat→List (List (Nat × Tmp))→List GS→List (List Nat)→List Oper→Prop
 |k,d :: DS,g :: Ss,ss :: SL,o :: rest=>GStep P ops a Ss0 Cs k d g o (Bs.contains k) ss∧GSteps P ops a Ss0 Cs Bs (k + 1) DS Ss SL rest
 |_,_,_,_,[]=>True
 |_,_,_,_,_=>False
theorem gsteps_spec {a:Act} {Ss0:List GS} {Cs:List ((Nat→Value)→World→Prop)} {Bs:List Nat}:∀ {l:List Oper} {k0:Nat} {DS:List (List (Nat × Tmp))} {Ss:List GS} {SL:List (List Nat)},GSteps P ops a Ss0 Cs Bs k0 DS Ss SL l→∀ (k:Nat) (o:Oper),l[k]? = some o →
  ∃ d g ss,DS[k]? = some d∧Ss[k]? = some g∧SL[k]? = some ss∧GStep P ops a Ss0 Cs (k0 + k) d g o (Bs.contains (k0 + k)) ss
 |[],_,_,_,_,_,k,o,h=>by simp at h
 |_ :: _,_,[],_,_,hs,_,_,_=>by simp [GSteps] at hs
 |_ :: _,_,_ :: _,[],_,hs,_,_,_=>by simp [GSteps] at hs
 |_ :: _,_,_ :: _,_ :: _,[],hs,_,_,_=>by simp [GSteps] at hs
 |o' :: rest,k0,d :: DS,g :: Ss,ss :: SL,hs,0,o,h=>by
  simp at h;subst h
  exact ⟨d,g,ss,rfl,rfl,rfl,hs.1⟩
 |o' :: rest,k0,d :: DS,g :: Ss,ss :: SL,hs,k + 1,o,h=>by
  have:=gsteps_spec hs.2 k o (by simpa using h)
  rw [show k0 + (k + 1) = k0 + 1 + k by omega]
  simpa using this
def sgxB (l:List Oper) (m:Nat) (Ss:List GS) (Bs:List Nat) (SL:List (List Nat)) (DS:List (List (Nat × Tmp))) (S:List (Nat × Tmp)):Bool :=
 sgB l.toArray m Ss Bs SL && Region.seqB .any l.toArray (l.length - m) m (flags l.length m) && slotsB l.toArray S && decide (S.map (·.1) = (List.range m).filter fun i=>(dstAt l.toArray i).isSome) &&
 DS.all (slotsB l.toArray) && decide (DS.map (fun d=>d.map (·.1)) = (List.range m).map (depsOf l.toArray))
theorem wp_region_sgx {id:Nat} {Q:Exit→Act→World→Prop} {a:Act} {w:World} {l:List Oper} (m:Nat) (Ss:List GS) (Bs:List Nat) (SL:List (List Nat)) (Cs:List ((Nat→Value)→World→Prop)) (DS:List (List (Nat × Tmp))) (S:List (Nat × Tmp)) (hm:P.follows .mixedOrders = true)
  (hB:sgxB l m Ss Bs SL DS S = true) (H:cAt Cs 0 (fun _=>undef) w.drew) (step:GSteps P l.toArray a Ss Cs Bs 0 DS Ss SL (l.take m))
  (fin:∀ vals w,GFacts Ss vals (List.range m)→cAt Cs Bs.length vals w→wpList P l.toArray Q (l.drop m) (putS S vals a) w):(Code.region id l.toArray true).wp P Q a w:=by
 simp only [sgxB,Bool.and_eq_true,decide_eq_true_eq] at hB
 obtain ⟨⟨⟨⟨⟨h1,h2⟩,h3⟩,h4⟩,h5⟩,h6⟩:=hB
 refine wp_region_sg m Ss Bs SL Cs hm (by rw [h1,h2];rfl) H (fun k o hk ho s hs vals w hD hst=>?_) (fun vals w hR hst=>?_)
 ·obtain ⟨d,g,ss,hd,hg,hss,hh⟩:=gsteps_spec step k o (by rw [List.getElem?_take,if_pos hk];exact ho)
  have hdep:d.map (·.1) = depsOf l.toArray k:=by
   have:=congrArg (·[k]?) h6
   simp only [List.getElem?_map,hd,Option.map_some] at this
   rw [List.getElem?_range hk] at this
   simpa using this
  have hslots:slotsB l.toArray d = true:=List.all_eq_true.1 h5 d (List.mem_of_getElem? hd)
  have hgk:gAt Ss k = g:=by simp [gAt,List.getD,hg]
  have hsk:SL.getD k [] = ss:=by simp [List.getD,hss]
  rw [Nat.zero_add] at hh
  have:=gstep_spec hh s (hsk ▸ hs) vals w (gfacts_of (by rw [← hgk];exact hD)) hst
  rw [putS_putL vals d a hslots,hdep] at this
  rw [hgk]
  exact this
 ·have:=fin vals w (gfacts_of fun i hi=>hR i (List.mem_range.1 hi)) hst
  rwa [putS_putL vals S a h3,h4,← putL_filter] at this
end
end
section
open Go.RowKit Go.Maps
attribute [local go_sem] InGr
theorem St.apart2 {w0 w:World} {M:List Nat} {L R R':List As} {A B:As} (h:St w0 M L w) (h1:Pick L A R) (h2:Pick R B R'):∀ b∈A.fp,b ∉ B.fp:=by
 have:=(h.pick2 h1 h2).dis
 exact (List.pairwise_cons.1 this).1 B (by simp)
theorem itr_text {S:Sto} {T:Tab} (t:Pt) (q:Nat):itr (stepT S T t.id) t.times q = T.mc.ends q (dirT T.back (S.ptTxt t)):=by
 unfold Sto.ptTxt stepT
 rw [dirT_rep,ends_rep]
theorem ptok_times {S:Sto} {K:Nat→Prop} (hS:S.Ok) {t:Pt} (h:PtOk S K t):t.times≤1152921504606846976:=by
 rcases h.copies with h | ⟨i,x,k,_,_,hx,hk⟩
 ·omega
 ·have:=power_le hS hx;omega
def ThRel (S:Sto) (T:Tab) (q0:Nat) (lp:List Pt) (M:List Nat) (w:World) (v2 v11:Value) (wr:World):Prop :=
 ∃ T' j,v2 = .int .i64 (T.mc.ends q0 (runP S T.back (lp.take j)):Nat)∧v11 = .int .i64 (j:Nat)∧j≤lp.length∧T.Ext T'∧TabOk S T'∧St w M [tabA T'] wr
attribute [local go_sem] StStep stAt stUpon in
theorem through_c {S:Sto} {T:Tab} {lv:Value} {m q:Nat} {lp:List Pt} {ad:Option Addr} {c:Nat} (hS:S.Ok) (hT:TabOk S T) (hq:q < T.mc.n) (hlp:∀ t∈lp,PtOk S (fun _=>True) t) (w:World) (h:((tabA T).sep (stoA T.s lv m S)).ho w) (hr:(rowsA encT 137 3 (.slice ad lp.length c) lp).ho w) (hap:∀ b∈(rowsA encT 137 3 (.slice ad lp.length c) lp).fp,b ∉ (tabA T).fp) :
  Calls Tryz.prog 38 #[.pointer (some ⟨T.p,0,none⟩),.slice ad lp.length c,.int .i64 q] w (TabPost S T (.int .i64 (T.mc.ends q (runP S T.back lp):Nat)) (tabA T).fp w):=by
 rw [sep_ho] at h
 obtain ⟨h1,h2,hd⟩:=h
 have H:=St.one h1
 have HK:Ks w (tabA T).fp [stoA T.s lv m S,rowsA encT 137 3 (.slice ad lp.length c) lp]:=⟨by simp [h2,hr],by simpa using ⟨fun b hb hm=>hd b hm hb,hap⟩⟩
 have HF:Hid (∀ T',T.Ext T'→TabOk S T'→∀ id q times,id≤S.list.length→q < T.mc.n→times≤1152921504606846976→∀ w,((tabA T').sep (stoA T.s lv m S)).ho w→Calls Tryz.prog 62 #[.pointer (some ⟨T.p,0,none⟩),.int .i64 (id:Nat),.int .i64 (q:Nat),.int .i64 (times:Nat)] w (fun e w'=>∃ T'' ad c xs tail,e = .returned (.agg #[.slice ad xs.length c,.int .i64 (tail:Nat)])∧Orb (stepT S T id) q times xs tail∧T.Ext T''∧TabOk S T''∧St w (tabA T').fp [tabA T'',rowsA encI 3 1 (.slice ad xs.length c) xs] w')):=Lib.hid fun T' hx hT' id q times hid hq ht w h=>by
  obtain ⟨x1,x2,x3,x4,x5,x6⟩:=hx.same
  have hc:=follow_c (lv:=lv) (m:=m) hS hT' hid (q:=q) (times:=times) (by rw [x5];exact hq) ht w (by rw [x2];exact h)
  rw [x1] at hc
  with_reducible refine Calls.mono hc ?_
  rintro e w' ⟨T'',ad,c,xs,tail,he,ho,hx',hT'',hs⟩
  rw [stepT_ext hx] at ho
  exact ⟨T'',ad,c,xs,tail,he,ho,hx.trans hx',hT'',hs⟩
 obtain ⟨cm,okm⟩:=hT.ok
 have HLT:Hid (∀ t∈lp,∀ q,q < T.mc.n→T.mc.ends q (dirT T.back (S.ptTxt t)) < T.mc.n):=Lib.hid fun t ht q hq=>by
  rw [← itr_text]
  exact itr_lt (stepT_lt hS hT (hlp t ht).le) hq
 have HQL:Hid (∀ j,T.mc.ends q (runP S T.back (lp.take j)) < T.mc.n):=Lib.hid fun j=>by
  refine okm.ends_lt hq fun b hb=>?_
  unfold runP at hb
  obtain ⟨l,hl,hb⟩:=List.mem_flatten.1 hb
  obtain ⟨t,ht,rfl⟩:=List.mem_map.1 hl
  have hb2:b∈S.ptTxt t:=by unfold dirT at hb;split at hb;simpa using hb;exact hb
  exact S.txt_lt hS (hlp t (List.mem_of_mem_take ht)).le b (rep_mem hb2)
 have HTI:Hid (∀ t∈lp,t.times≤1152921504606846976):=Lib.hid fun t ht=>ptok_times hS (hlp t ht)
 have HLE:Hid (∀ t∈lp,t.id≤S.list.length):=Lib.hid fun t ht=>(hlp t ht).le
 have HTO:=Lib.hid hT
 have hll:=(show lp.length≤9223372036854775807 from by
  have hsh:=rowsA_shape hr
  obtain ⟨_,_,_,hm⟩:=hsh
  unfold maxLen at hm;omega)
 clear hT h1 h2 hd hS hq hlp hr hap okm
 go_enter Tryz.func38,Tryz.ntmps38
 go_wp2_with (first | refine sL ?_ | (refine sS ?_;clear H;intros;rename_i H))
 go_loopw [2,11] (fun v2 v11 wr=>ThRel S T q lp (tabA T).fp w v2 v11 wr) (fun _ v11 _=>lp.length - (intOf v11).toNat)
 case atStart=>exact ⟨T,0,rfl,rfl,Nat.zero_le _,.refl T,HTO.out,H⟩
 case round =>
  clear H
  obtain ⟨T1,j,rfl,rfl,hj,hext,hT1,H⟩:=hrel
  have HEX:=Lib.hid hext
  have HT1:=Lib.hid hT1
  have HQ1:=Lib.hid (HQL.out j)
  clear hext hT1
  by_cases hlt:j < lp.length
  ·obtain ⟨⟨ti,tp,tt⟩,ht⟩:∃ t,lp[j]? = some t:=⟨_,List.getElem?_eq_getElem hlt⟩
   have htm:=List.mem_of_getElem? ht
   have htid:=HLE.out _ htm
   have htb:=HTI.out _ htm
   have HTK:=Lib.hid (runP_take S T.back ht)
   have HIT:=Lib.hid (itr_text (S:=S) (T:=T) ⟨ti,tp,tt⟩ (T.mc.ends q (runP S T.back (lp.take j))))
   have HLK:=Lib.hid ht
   obtain ⟨gr,cr,hadr,_,_⟩:=rowsA_cases (H.known HK (A:=rowsA encT 137 3 (.slice ad lp.length c) lp) pk) (by omega)
   injection hadr with x1 x2 x3
   subst x1 x3
   simp only at htid htb
   clear ht x2 htm
   have HQQ:=Lib.hid (rfl:T.mc.ends q (runP S T.back (lp.take j)) = T.mc.ends q (runP S T.back (lp.take j)))
   generalize hq1:T.mc.ends q (runP S T.back (lp.take j)) = q1 at *
   have HQE:=Lib.hid hq1
   clear hq1 HQQ
   go_wp2_with (first | refine sL ?_ | (refine sS ?_;clear H;intros;rename_i H) | ((with_reducible refine isLoad ?_);refine AtLoad.rngT (vs:=[.int .i64 ti,.int .i64 tp,.int .i64 tt]) rfl rfl rfl (rowsA_rng (H.known HK (A:=rowsA encT 137 3 (.slice (some ⟨gr,0,none⟩) lp.length c) lp) pk) encT_len HLK.out) rfl ?_;simp only [Act.put,puA,puB,puC]))
   rename_i b8 _ _
   replace H:=(H.pick2 (A:=tabA T1) (B:=blk b8 (.cells #[.int .i64 ti,.int .i64 tp,.int .i64 tt] 137)) pk pk).onlyTwo
   refine wp_region_sgx 10 [⟨[],fun v _=>v = .pointer (some ⟨T.p,0,none⟩)⟩,⟨[],fun v _=>v = .pointer (some ⟨b8,0,none⟩)⟩,⟨[1],fun v _=>v = .int .i64 ti⟩,⟨[],fun v _=>v = .int .i64 q1⟩,⟨[],fun v _=>v = .pointer (some ⟨b8,2,none⟩)⟩,⟨[4],fun v _=>v = .int .i64 tt⟩,⟨[0,2,3,5],fun _ _=>True⟩,⟨[],fun v _=>v = .pointer (some ⟨b8,2,none⟩)⟩,⟨[7],fun v _=>v = .int .i64 tt⟩,⟨[8],fun v _=>v = .int .i64 (itr (stepT S T ti) tt q1:Nat)⟩] [6] [[0],[0],[0],[0],[0],[0],[0],[0,1],[0,1],[1]] [fun _ wx=>St w (tabA T).fp [tabA T1,blk b8 (.cells #[.int .i64 ti,.int .i64 tp,.int .i64 tt] 137)] wx,fun vals wx=>∃ T2 ad c xs tail,vals 6 = .agg #[.slice ad xs.length c,.int .i64 (tail:Nat)]∧Orb (stepT S T ti) q1 tt xs tail∧T.Ext T2∧TabOk S T2∧St w (tabA T).fp [tabA T2,rowsA encI 3 1 (.slice ad xs.length c) xs,blk b8 (.cells #[.int .i64 ti,.int .i64 tp,.int .i64 tt] 137)] wx]
    [[],[],[(1,16)],[],[],[(4,19)],[(0,15),(2,17),(3,18),(5,20)],[],[(7,22)],[(6,21),(8,23)]] [(0,15),(1,16),(2,17),(3,18),(4,19),(5,20),(6,21),(7,22),(8,23),(9,24)] (by kernel_rfl) (by kernel_rfl) H.drew ⟨⟨?o0s0,trivial⟩,⟨?o1s0,trivial⟩,⟨?o2s0,trivial⟩,⟨?o3s0,trivial⟩,⟨?o4s0,trivial⟩,⟨?o5s0,trivial⟩,⟨?o6s0,trivial⟩,⟨?o7s0,?o7s1,trivial⟩,⟨?o8s0,?o8s1,trivial⟩,⟨?o9s1,trivial⟩,trivial⟩ ?fin
   case o0s0 =>
    intro vals wx hd HC
    clear hd
    simp only [putS,List.foldl_nil]
    go_simp
    first | exact HC | exact ⟨rfl,HC⟩
   case o1s0 =>
    intro vals wx hd HC
    clear hd
    simp only [putS,List.foldl_nil]
    go_simp
    first | exact HC | exact ⟨rfl,HC⟩
   case o2s0 =>
    intro vals wx hd HC
    have h1:vals 1 = .pointer (some ⟨b8,0,none⟩):=hd.1
    clear hd
    have HC':=HC
    simp only [cAt,List.getD_cons_succ,List.getD_cons_zero] at HC'
    have H:=HC';clear HC'
    simp only [putS,List.foldl_nil,List.foldl_cons,Act.put,List.setIfInBounds_toArray,List.set_cons_zero,List.set_cons_succ,h1]
    first | refine StStep.cellT rfl rfl rfl gt rfl rfl ⟨rfl,HC⟩ | refine StStep.wholeT rfl rfl rfl gt rfl ⟨rfl,HC⟩
   case o3s0 =>
    intro vals wx hd HC
    clear hd
    simp only [putS,List.foldl_nil]
    go_simp
    first | exact HC | exact ⟨rfl,HC⟩
   case o4s0 =>
    intro vals wx hd HC
    clear hd
    simp only [putS,List.foldl_nil]
    go_simp
    first | exact HC | exact ⟨rfl,HC⟩
   case o5s0 =>
    intro vals wx hd HC
    have h4:vals 4 = .pointer (some ⟨b8,2,none⟩):=hd.1
    clear hd
    have HC':=HC
    simp only [cAt,List.getD_cons_succ,List.getD_cons_zero] at HC'
    have H:=HC';clear HC'
    simp only [putS,List.foldl_nil,List.foldl_cons,Act.put,List.setIfInBounds_toArray,List.set_cons_zero,List.set_cons_succ,h4]
    first | refine StStep.cellT rfl rfl rfl gt rfl rfl ⟨rfl,HC⟩ | refine StStep.wholeT rfl rfl rfl gt rfl ⟨rfl,HC⟩
   case o6s0 =>
    intro vals wx hd HC
    have h0:vals 0 = .pointer (some ⟨T.p,0,none⟩):=hd.1
    have h2:vals 2 = .int .i64 ti:=hd.2.1
    have h3:vals 3 = .int .i64 q1:=hd.2.2.1
    have h5:vals 5 = .int .i64 tt:=hd.2.2.2.1
    clear hd
    have HC':=HC
    simp only [cAt,List.getD_cons_succ,List.getD_cons_zero] at HC'
    have H:=HC';clear HC'
    simp only [putS,List.foldl_nil,List.foldl_cons,Act.put,List.setIfInBounds_toArray,List.set_cons_zero,List.set_cons_succ,h0,h2,h3,h5]
    clear h0 h2 h3 h5 HC
    go_simp
    with_reducible refine Calls.mono (HF.out T1 HEX.out HT1.out ti q1 tt htid HQ1.out htb _ (H.sepK HK (A:=tabA T1) (B:=stoA T.s lv m S) pk pk)) ?_
    rintro e wc ⟨T2,ad2,c2,xs,tail,rfl,horb,hext2,hT2,hb⟩
    first | exact ⟨_,rfl,T2,ad2,c2,xs,tail,rfl,horb,hext2,hT2,H.call hb⟩ | exact ⟨_,rfl,trivial,T2,ad2,c2,xs,tail,rfl,horb,hext2,hT2,H.call hb⟩
   case o7s0 =>
    intro vals wx hd HC
    clear hd
    simp only [putS,List.foldl_nil]
    go_simp
    first | exact HC | exact ⟨rfl,HC⟩
   case o7s1 =>
    intro vals wx hd HC
    clear hd
    simp only [putS,List.foldl_nil]
    go_simp
    first | exact HC | exact ⟨rfl,HC⟩
   case o8s0 =>
    intro vals wx hd HC
    have h7:vals 7 = .pointer (some ⟨b8,2,none⟩):=hd.1
    clear hd
    have HC':=HC
    simp only [cAt,List.getD_cons_succ,List.getD_cons_zero] at HC'
    have H:=HC';clear HC'
    simp only [putS,List.foldl_nil,List.foldl_cons,Act.put,List.setIfInBounds_toArray,List.set_cons_zero,List.set_cons_succ,h7]
    first | refine StStep.cellT rfl rfl rfl gt rfl rfl ⟨rfl,HC⟩ | refine StStep.wholeT rfl rfl rfl gt rfl ⟨rfl,HC⟩
   case o8s1 =>
    intro vals wx hd HC
    have h7:vals 7 = .pointer (some ⟨b8,2,none⟩):=hd.1
    clear hd
    have HC':=HC
    simp only [cAt,List.getD_cons_succ,List.getD_cons_zero] at HC'
    obtain ⟨T2,ad2,c2,xs,tail,hv6,horb,hext2,hT2,H⟩:=HC'
    simp only [putS,List.foldl_nil,List.foldl_cons,Act.put,List.setIfInBounds_toArray,List.set_cons_zero,List.set_cons_succ,h7]
    first | refine StStep.cellT rfl rfl rfl gt rfl rfl ⟨rfl,HC⟩ | refine StStep.wholeT rfl rfl rfl gt rfl ⟨rfl,HC⟩
   case o9s1 =>
    intro vals wx hd HC
    have h8:vals 8 = .int .i64 tt:=hd.1
    clear hd
    have HC':=HC
    simp only [cAt,List.getD_cons_succ,List.getD_cons_zero] at HC'
    obtain ⟨T2,ad2,c2,xs,tail,hv6,horb,hext2,hT2,H⟩:=HC'
    simp only [putS,List.foldl_nil,List.foldl_cons,Act.put,List.setIfInBounds_toArray,List.set_cons_zero,List.set_cons_succ,h8]
    simp only [hv6]
    clear h8
    go_simp
    refine Calls.mono (at_orb horb (Nat.le_refl _) htb _ (H.get (A:=rowsA encI 3 1 (.slice ad2 xs.length c2) xs) pk)) ?_
    rintro e wc ⟨rfl,hb⟩
    exact ⟨_,rfl,rfl,T2,ad2,c2,xs,tail,hv6,horb,hext2,hT2,H.grew hb.below⟩
   intro vals wx hd HC
   have h0:vals 0 = .pointer (some ⟨T.p,0,none⟩):=hd.1
   have h1:vals 1 = .pointer (some ⟨b8,0,none⟩):=hd.2.1
   have h2:vals 2 = .int .i64 ti:=hd.2.2.1
   have h3:vals 3 = .int .i64 q1:=hd.2.2.2.1
   have h4:vals 4 = .pointer (some ⟨b8,2,none⟩):=hd.2.2.2.2.1
   have h5:vals 5 = .int .i64 tt:=hd.2.2.2.2.2.1
   have h7:vals 7 = .pointer (some ⟨b8,2,none⟩):=hd.2.2.2.2.2.2.2.1
   have h8:vals 8 = .int .i64 tt:=hd.2.2.2.2.2.2.2.2.1
   have h9:vals 9 = .int .i64 (itr (stepT S T ti) tt q1:Nat):=hd.2.2.2.2.2.2.2.2.2.1
   clear hd
   simp only [cAt,List.getD_cons_succ,List.getD_cons_zero,List.length_cons,List.length_nil] at HC
   obtain ⟨T2,ad2,c2,xs,tail,hv6,horb,hext2,hT2,H⟩:=HC
   simp only [putS,List.foldl_nil,List.foldl_cons,Act.put,List.setIfInBounds_toArray,List.set_cons_zero,List.set_cons_succ,List.drop_succ_cons,List.drop_zero,h0,h1,h2,h3,h4,h5,h7,h8,h9]
   clear h0 h1 h2 h3 h4 h5 h7 h8 h9
   go_wp2_with (first | refine sL ?_ | (refine sS ?_;clear H;intros;rename_i H))
   have hnx:T.mc.ends q (runP S T.back (lp.take (j + 1))) = itr (stepT S T ti) tt q1:=by
    rw [HTK.out,Mc.ends_append,HQE.out]
    exact HIT.out.symm
   exact ⟨⟨T2,j + 1,by rw [hnx],by go_num,by omega,hext2,hT2,(H.pick (A:=tabA T2) pk).onlyHead⟩,by simp [intOf];omega⟩
  ·have hje:j = lp.length:=by omega
   subst hje
   have HQF:=Lib.hid (show T.mc.ends q (runP S T.back (lp.take lp.length)) = T.mc.ends q (runP S T.back lp) from by rw [List.take_length])
   generalize T.mc.ends q (runP S T.back (lp.take lp.length)) = q1 at *
   go_wp2_with (first | refine sL ?_ | (refine sS ?_;clear H;intros;rename_i H))
   go_ret
   exact ⟨T1,by rw [← HQF.out];rfl,HEX.out,HT1.out,H⟩
end
end Go.Proofs.YtijnhpaafhcndaaGreat
section
namespace Go.Proofs.YtijnhpaafhcndaaGreat
set_option linter.unusedSimpArgs false
set_option linter.unusedVariables false
def Mc.hits (m:Mc):Nat→List Nat→List Nat
 |_,[]=>[]
 |q,b :: l=>m.wt (m.step q b) :: m.hits (m.step q b) l
namespace Mc
variable {m:Mc} {c:Nat}
theorem hits_len (q:Nat) (l:List Nat):(m.hits q l).length = l.length:=by
 induction l generalizing q with
 |nil=>rfl
 |cons b l ih=>simp [hits,ih]
theorem hits_append (q:Nat) (a b:List Nat):m.hits q (a ++ b) = m.hits q a ++ m.hits (m.ends q a) b:=by
 induction a generalizing q with
 |nil=>simp [hits,ends]
 |cons x a ih=>simp only [List.cons_append,hits,ih,ends_cons]
theorem hits_sum (q:Nat) (l:List Nat):(m.hits q l).sum = m.sum q l:=by
 induction l generalizing q with
 |nil=>rfl
 |cons b l ih=>simp [hits,sum,ih]
end Mc
end Go.Proofs.YtijnhpaafhcndaaGreat
end
namespace Go.Proofs.YtijnhpaafhcndaaGreat
section
open Go.RowKit Go.Maps
attribute [local go_sem] InGr
def Sto.rsum (S:Sto) (mc:Mc) (id s n:Nat):Nat:=mc.sum (mc.ends mc.start ((S.txt id).take s)) (((S.txt id).drop s).take n)
def cntV (x:Nat):Value:=if x≤1152921504606846976 then .tuple #[.int .i64 x,.nilIface] else .tuple #[.int .i64 0,.iface 42 (.int .i64 2)]
theorem cntV_in {x:Nat} (h:x≤1152921504606846976):cntV x = .tuple #[.int .i64 x,.nilIface]:=by unfold cntV;rw [if_pos h]
theorem cntV_out {x:Nat} (h:¬ x≤1152921504606846976):cntV x = .tuple #[.int .i64 0,.iface 42 (.int .i64 2)]:=by unfold cntV;rw [if_neg h]
theorem count_c {S:Sto} {T:Tab} {lv:Value} {m id s n:Nat} (hS:S.Ok) (hT:TabOk S T) (hb:T.back = false) (hid:id≤S.list.length) (hf:s + n≤(S.txt id).length) (w:World) (h:((tabA T).sep (stoA T.s lv m S)).ho w) :
  Calls Tryz.prog 14 #[.pointer (some ⟨T.p,0,none⟩),.int .i64 id,.int .i64 s,.int .i64 n] w (TabPost S T (cntV (S.rsum T.mc id s n)) (tabA T).fp w):=by
 rw [sep_ho] at h
 obtain ⟨h1,h2,hd⟩:=h
 have H:=St.one h1
 have HK:Ks w (tabA T).fp [stoA T.s lv m S]:=⟨by simpa using h2,by simpa using fun b hb hm=>hd b hm hb⟩
 have HC:Hid (∀ w,(tabA T).ho w→(stoA T.s lv m S).ho w→Calls Tryz.prog 27 #[.pointer (some ⟨T.p,0,none⟩),.int .i64 id] w fun e w'=>e = .returned .nilIface∧w' = w):=Lib.hid fun w a b=>lcheck_c hT hb hid w a b
 have HZ:Hid (∀ w,(tabA T).ho w→(stoA T.s lv m S).ho w→Calls Tryz.prog 37 #[.pointer (some ⟨T.p,0,none⟩),.int .i64 id] w fun e w'=>e = .returned (.int .i64 (S.txt id).length)∧St w [] [] w'):=Lib.hid fun w a b=>ssize_c hS hT hid w a b
 have hmax:=txt_max hS hid
 have HR:=Lib.hid (fun w=>range_ok s n (S.txt id).length hf hmax w)
 obtain ⟨cm,okm⟩:=hT.ok
 have hst:=okm.start
 have hqlt:T.mc.ends T.mc.start ((S.txt id).take s) < T.mc.n:=okm.ends_lt hst fun b hb=>S.txt_lt hS hid b (List.mem_of_mem_take hb)
 have HP:Hid (∀ w,(tabA T).ho w→(stoA T.s lv m S).ho w→Calls Tryz.prog 39 #[.pointer (some ⟨T.p,0,none⟩),.int .i64 id,.int .i64 0,.int .i64 s] w (fun e w'=>∃ ad c lp,e = .returned (.slice ad lp.length c)∧runP S T.back lp = (S.txt id).take s∧(∀ t∈lp,PtOk S (fun _=>True) t)∧St w [] [rowsA encT 137 3 (.slice ad lp.length c) lp] w')):=Lib.hid fun w a b=>by
  refine Calls.mono (sparts_c (s:=0) (n:=s) hS hT hid (by omega) w a b) ?_
  rintro e w' ⟨ad,c,lp,he,hrun,hp,_,hs⟩
  refine ⟨ad,c,lp,he,?_,hp,hs⟩
  rw [hrun,hb]
  simp [dirT,Sto.pcTxt]
 have HM:Hid (∀ w,(tabA T).ho w→Calls Tryz.prog 29 #[.pointer (some ⟨T.p,0,none⟩)] w fun e w'=>∃ g1 o1 c1 g2 o2 c2 g3 o3 c3,e = .returned (.agg #[.int .i64 T.mc.start,.slice (some ⟨g1,o1,none⟩) 256 c1,.slice (some ⟨g2,o2,none⟩) T.mc.n c2,.slice (some ⟨g3,o3,none⟩) T.mc.n c3])∧St w [] [] w'):=Lib.hid fun w a=>by
  refine Calls.mono (machine_c hT w a) ?_
  rintro e w' ⟨cv,nv,av,rvs,P,he,hm,hs⟩
  obtain ⟨g1,o1,c1,rfl,_⟩:=hm.cls.hasN okm.cls (by omega)
  obtain ⟨g2,o2,c2,rfl,_⟩:=hm.next.hasN hm.len okm.n1
  obtain ⟨g3,o3,c3,rfl,_⟩:=hm.acc.hasN okm.acc okm.n1
  exact ⟨g1,o1,c1,g2,o2,c2,g3,o3,c3,he,hs.nix⟩
 have HT:Hid (∀ lp ad c,(∀ t∈lp,PtOk S (fun _=>True) t)→runP S T.back lp = (S.txt id).take s→∀ w,((tabA T).sep (stoA T.s lv m S)).ho w→(rowsA encT 137 3 (.slice ad lp.length c) lp).ho w→(∀ b∈(rowsA encT 137 3 (.slice ad lp.length c) lp).fp,b ∉ (tabA T).fp)→Calls Tryz.prog 38 #[.pointer (some ⟨T.p,0,none⟩),.slice ad lp.length c,.int .i64 T.mc.start] w (fun e w'=>∃ T',e = .returned (.int .i64 (T.mc.ends T.mc.start ((S.txt id).take s):Nat))∧T.Ext T'∧TabOk S T'∧St w (tabA T).fp [tabA T'] w')):=Lib.hid fun lp ad c hp hrun w a b hap=>by
  rw [← hrun]
  exact through_c hS hT hst hp w a b hap
 have HPA:Hid (∀ T',T.Ext T'→TabOk S T'→∀ w,((tabA T').sep (stoA T.s lv m S)).ho w→Calls Tryz.prog 40 #[.pointer (some ⟨T.p,0,none⟩),.int .i64 id,.int .i64 s,.int .i64 n,.int .i64 (T.mc.ends T.mc.start ((S.txt id).take s):Nat)] w (fun e w'=>∃ T'' r,e = .returned (if S.rsum T.mc id s n≤1152921504606846976 then .tuple #[.int .i64 (r:Nat),.int .i64 (S.rsum T.mc id s n:Nat),.nilIface] else .tuple #[.int .i64 0,.int .i64 0,.iface 42 (.int .i64 2)])∧T.Ext T''∧TabOk S T''∧St w (tabA T').fp [tabA T''] w')):=Lib.hid fun T' hx hT' w h=>by
  obtain ⟨x1,x2,x3,x4,x5,x6⟩:=hx.same
  have hc:=part_c (lv:=lv) (m:=m) hS hT' hid (q:=T.mc.ends T.mc.start ((S.txt id).take s)) (by rw [x5];exact hqlt) hf w (by rw [x2];exact h)
  rw [x1] at hc
  with_reducible refine Calls.mono hc ?_
  rintro e w' ⟨T'',he,hx',hT'',hs⟩
  rw [x5,x6,hb] at he
  exact ⟨T'',_,he,hx.trans hx',hT'',hs⟩
 clear hT h1 h2 hd hS hmax hf okm hst hqlt hb
 generalize hln:(S.txt id).length = ln at *
 generalize hq1:T.mc.ends T.mc.start ((S.txt id).take s) = q1 at *
 generalize hsm:S.rsum T.mc id s n = sm at *
 clear hln hq1 hsm
 by_cases hsm:sm≤1152921504606846976
 ·simp only [if_pos hsm] at HPA
  rw [cntV_in hsm]
  clear hsm
  go_enter Tryz.func14,Tryz.ntmps14
  go_wp2_with (first | refine sL ?_ | (go_at_call 27;with_reducible refine Calls.mono (HC.out _ (H.get (A:=tabA T) pk) (H.known HK pk)) ?_;rintro e wc ⟨rfl,hwc⟩;obtain rfl:=hwc.symm) | (go_at_call 37;with_reducible refine Calls.mono (HZ.out _ (H.get (A:=tabA T) pk) (H.known HK pk)) ?_;rintro e wc ⟨rfl,hb⟩;replace H:=H.grew hb.below;clear hb) | (go_at_call 36;with_reducible refine Calls.mono (HR.out _) ?_;rintro e wc ⟨rfl,hwc⟩;obtain rfl:=hwc.symm) | (go_at_call 39;with_reducible refine Calls.mono (HP.out _ (H.get (A:=tabA T) pk) (H.known HK pk)) ?_;rintro e wc ⟨ad,c,lp,rfl,hrun,hpo,hb⟩;replace H:=H.call0 hb;clear hb;simp only [List.cons_append,List.nil_append] at H;have HRUN:=Lib.hid hrun;have HPO:=Lib.hid hpo;clear hrun hpo) | (go_at_call 29;with_reducible refine Calls.mono (HM.out _ (H.get (A:=tabA T) pk)) ?_;rintro e wc ⟨g1,o1,c1,g2,o2,c2,g3,o3,c3,rfl,hb⟩;replace H:=H.grew hb.below;clear hb) | (go_at_call 38;with_reducible refine Calls.mono (HT.out lp ad c HPO.out HRUN.out _ (H.sepK HK (A:=tabA T) (B:=stoA T.s lv m S) pk pk) (H.get (A:=rowsA encT 137 3 (.slice ad lp.length c) lp) pk) (H.apart2 (A:=rowsA encT 137 3 (.slice ad lp.length c) lp) (B:=tabA T) pk pk)) ?_;rintro e wc ⟨T1,rfl,hx1,hT1,hb⟩;replace H:=H.pick (A:=tabA T) pk;replace H:=H.call hb;clear hb;simp only [List.cons_append,List.nil_append] at H;have HX1:=Lib.hid hx1;have HT1:=Lib.hid hT1;clear hx1 hT1) | (go_at_call 40;with_reducible refine Calls.mono (HPA.out T1 HX1.out HT1.out _ (H.sepK HK (A:=tabA T1) (B:=stoA T.s lv m S) pk pk)) ?_;rintro e wc ⟨T2,rr,rfl,hx2,hT2,hb⟩;replace H:=H.pick (A:=tabA T1) pk;replace H:=H.call hb;clear hb;simp only [List.cons_append,List.nil_append] at H;have HX2:=Lib.hid hx2;have HT2:=Lib.hid hT2;clear hx2 hT2))
  go_ret2
  exact ⟨T2,rfl,HX2.out,HT2.out,(H.pick (A:=tabA T2) pk).onlyHead⟩
 ·simp only [if_neg hsm] at HPA
  rw [cntV_out hsm]
  clear hsm
  go_enter Tryz.func14,Tryz.ntmps14
  go_wp2_with (first | refine sL ?_ | (go_at_call 27;with_reducible refine Calls.mono (HC.out _ (H.get (A:=tabA T) pk) (H.known HK pk)) ?_;rintro e wc ⟨rfl,hwc⟩;obtain rfl:=hwc.symm) | (go_at_call 37;with_reducible refine Calls.mono (HZ.out _ (H.get (A:=tabA T) pk) (H.known HK pk)) ?_;rintro e wc ⟨rfl,hb⟩;replace H:=H.grew hb.below;clear hb) | (go_at_call 36;with_reducible refine Calls.mono (HR.out _) ?_;rintro e wc ⟨rfl,hwc⟩;obtain rfl:=hwc.symm) | (go_at_call 39;with_reducible refine Calls.mono (HP.out _ (H.get (A:=tabA T) pk) (H.known HK pk)) ?_;rintro e wc ⟨ad,c,lp,rfl,hrun,hpo,hb⟩;replace H:=H.call0 hb;clear hb;simp only [List.cons_append,List.nil_append] at H;have HRUN:=Lib.hid hrun;have HPO:=Lib.hid hpo;clear hrun hpo) | (go_at_call 29;with_reducible refine Calls.mono (HM.out _ (H.get (A:=tabA T) pk)) ?_;rintro e wc ⟨g1,o1,c1,g2,o2,c2,g3,o3,c3,rfl,hb⟩;replace H:=H.grew hb.below;clear hb) | (go_at_call 38;with_reducible refine Calls.mono (HT.out lp ad c HPO.out HRUN.out _ (H.sepK HK (A:=tabA T) (B:=stoA T.s lv m S) pk pk) (H.get (A:=rowsA encT 137 3 (.slice ad lp.length c) lp) pk) (H.apart2 (A:=rowsA encT 137 3 (.slice ad lp.length c) lp) (B:=tabA T) pk pk)) ?_;rintro e wc ⟨T1,rfl,hx1,hT1,hb⟩;replace H:=H.pick (A:=tabA T) pk;replace H:=H.call hb;clear hb;simp only [List.cons_append,List.nil_append] at H;have HX1:=Lib.hid hx1;have HT1:=Lib.hid hT1;clear hx1 hT1) | (go_at_call 40;with_reducible refine Calls.mono (HPA.out T1 HX1.out HT1.out _ (H.sepK HK (A:=tabA T1) (B:=stoA T.s lv m S) pk pk)) ?_;rintro e wc ⟨T2,rr,rfl,hx2,hT2,hb⟩;replace H:=H.pick (A:=tabA T1) pk;replace H:=H.call hb;clear hb;simp only [List.cons_append,List.nil_append] at H;have HX2:=Lib.hid hx2;have HT2:=Lib.hid hT2;clear hx2 hT2))
  go_ret2
  exact ⟨T2,rfl,HX2.out,HT2.out,(H.pick (A:=tabA T2) pk).onlyHead⟩
end
section
open Go.RowKit Go.Maps
attribute [local go_sem] InGr
structure TK (S:Sto) (p s:Nat) (mc:Mc) (bk:Bool) (T:Tab):Prop where
 ok:TabOk S T
 p:T.p = p
 s:T.s = s
 mc:T.mc = mc
 bk:T.back = bk
theorem TK.ext {S:Sto} {p s:Nat} {mc:Mc} {bk:Bool} {T T':Tab} (h:TK S p s mc bk T) (hx:T.Ext T') (hT:TabOk S T'):TK S p s mc bk T':=by
 obtain ⟨x1,x2,x3,x4,x5,x6⟩:=hx.same
 exact ⟨hT,x1.trans h.p,x2.trans h.s,x5.trans h.mc,x6.trans h.bk⟩
abbrev TPost (S:Sto) (p s:Nat) (mc:Mc) (bk:Bool) (v:Value) (w:World) (M:List Nat) (e:Ending) (w':World):Prop:=∃ T,e = .returned v∧TK S p s mc bk T∧St w M [tabA T] w'
def TC (S:Sto) (lv:Value) (m p s:Nat) (mc:Mc) (bk:Bool) (f:FuncId) (args:Array Value) (v:Value):Prop :=
 ∀ T w,TK S p s mc bk T→((tabA T).sep (stoA s lv m S)).ho w→Calls Tryz.prog f args w (TPost S p s mc bk v w (tabA T).fp)
def TQ (S:Sto) (lv:Value) (m p s:Nat) (mc:Mc) (bk:Bool) (f:FuncId) (args:Array Value) (v:Value):Prop :=
 ∀ T w,TK S p s mc bk T→(tabA T).ho w→(stoA s lv m S).ho w→Calls Tryz.prog f args w fun e w'=>e = .returned v∧St w [] [] w'
section
variable {S:Sto} {lv:Value} {m p s:Nat} {mc:Mc} {bk:Bool} {f:FuncId} {args:Array Value} {v:Value} {T:Tab} {w w0:World} {M:List Nat} {L R K:List As}
theorem TC.mk (k:∀ T w M,Hid (TK S p s mc bk T)→St w M [tabA T] w→Ks w M [stoA s lv m S]→Calls Tryz.prog f args w (TPost S p s mc bk v w M)):TC S lv m p s mc bk f args v:=fun T w hT h=>by
 rw [sep_ho] at h
 obtain ⟨h1,h2,hd⟩:=h
 exact k T w _ (Lib.hid hT) (St.one h1) ⟨by simpa using h2,by simpa using fun b hb hm=>hd b hm hb⟩
theorem TC.of (k:∀ T w,TK S p s mc bk T→((tabA T).sep (stoA T.s lv m S)).ho w→Calls Tryz.prog f args w (TabPost S T v (tabA T).fp w)):TC S lv m p s mc bk f args v:=fun T w hT h=>by
 refine (k T w hT (by rw [hT.s];exact h)).mono ?_
 rintro e w' ⟨T',he,hx,hT',hs⟩
 exact ⟨T',he,hT.ext hx hT',hs⟩
theorem TC.use (hc:TC S lv m p s mc bk f args v) (hT:TK S p s mc bk T) (H:St w0 M L w) (hp:Pick L (tabA T) R) (hs:((tabA T).sep (stoA s lv m S)).ho w) {Q:Ending→World→Prop} (k:∀ T' w',Hid (TK S p s mc bk T')→St w0 M (tabA T' :: R) w'→Q (.returned v) w'):Calls Tryz.prog f args w Q:=by
 refine (hc T w hT hs).mono ?_
 rintro e w' ⟨T',rfl,hT',hst⟩
 exact k T' w' (Lib.hid hT') (by simpa using (H.pick hp).call hst)
theorem TQ.use (hc:TQ S lv m p s mc bk f args v) (hT:TK S p s mc bk T) (H:St w0 M L w) (hp:Pick L (tabA T) R) (hs:((tabA T).sep (stoA s lv m S)).ho w) {Q:Ending→World→Prop} (k:∀ w',St w0 M L w'→Q (.returned v) w'):Calls Tryz.prog f args w Q:=by
 rw [sep_ho] at hs
 refine (hc T w hT hs.1 hs.2.1).mono ?_
 rintro e w' ⟨rfl,hst⟩
 exact k w' (H.grew hst.below)
theorem St.sepO {A B:As} {R R':List As} (h:St w0 M L w) (h1:Pick L A R) (h2:Pick R B R'):(A.sep B).ho w:=by
 have:=(h.pick2 h1 h2).join
 exact this.ho _ List.mem_cons_self
end
theorem ts {P:Prop} (h:P:=by first | exact H.sepK HK pk pk | exact H.sepO pk pk):P:=h
def Sto.dtx (S:Sto) (bk:Bool) (id:Nat):List Nat:=dirT bk (S.txt id)
end
section
open Go.RowKit
structure Turn (M:List Nat) (B:Nat) (W W':World):Prop where
 os:W'.os = W.os
 tape:W'.tape = W.tape
 output:W'.output = W.output
 size:W.heap.size≤W'.heap.size
 keep:∀ b,b < B→b ∉ M→W'.heap[b]? = W.heap[b]?
theorem Turn.refl (M:List Nat) (B:Nat) (W:World):Turn M B W W:=⟨rfl,rfl,rfl,Nat.le_refl _,fun _ _ _=>rfl⟩
theorem Turn.trans {M:List Nat} {B:Nat} {X Y Z:World} (h:Turn M B X Y) (k:Turn M B Y Z):Turn M B X Z:=⟨k.os.trans h.os,k.tape.trans h.tape,k.output.trans h.output,Nat.le_trans h.size k.size,fun b hb hm=>(k.keep b hb hm).trans (h.keep b hb hm)⟩
theorem Turn.widen {M M':List Nat} {B B':Nat} {W W':World} (h:Turn M B W W') (hM:∀ b∈M,b < B'→b∈M') (hB:B'≤B):Turn M' B' W W':=⟨h.os,h.tape,h.output,h.size,fun b hb hm=>h.keep b (by omega) fun hx=>hm (hM b hx hb)⟩
theorem Turn.putObj (M:List Nat) {B l:Nat} (W:World) (o:Obj) (h:l∈M∨B≤l):Turn M B W (W.putObj l o):=⟨rfl,rfl,rfl,by simp,fun b hb hm=>World.putObj_heap_other (fun e=>by subst e;rcases h with h | h;exact hm h;omega)⟩
theorem Turn.alloc (M:List Nat) {B:Nat} {W:World} (o:Obj) (h:B≤W.heap.size):Turn M B W (W.alloc o):=⟨rfl,rfl,rfl,by simp,fun b hb _=>Below.heap_alloc W o b (by omega)⟩
def Abd {β:Type} (M:List Nat) (B:Nat) (J:β→World→Prop):Prop:=∀ s W W',J s W→Turn M B W W'→J s W'
def SeqT {α:Type} (F:Fence) (n:Nat) (P:Program) (g:Nat) (lb:Array Value) (encs:α→Array Value) (M MB:List Nat) (Ok:List α→α→Prop) (S Sp:List α→Prop) (w:World):Prop :=
 ∀ (l:Nat) (J Jx:List α→World→Prop) (W:World),Below w.heap.size w W→l = w.heap.size + 1→W.heap.size = w.heap.size + 2→Abd M W.heap.size J→Abd M W.heap.size Jx →
  (∀ pre x W1,J pre W1→W.heap.size≤W1.heap.size→Ok pre x→YieldAt F (n - 1) P l (encs x) W1 fun e W' =>
   (e = .returned (.bool true)∧J (pre ++ [x]) W'∧Turn (l :: MB) W1.heap.size W1 W')∨(e = .returned (.bool false)∧Jx (pre ++ [x]) W')) →
  J [] W →
  CallsIn F n P g (#[.func (.yield l) #[] #[]] ++ lb) W fun e W'=>(∃ v,e = .returned v)∧((∃ xs,S xs∧J xs W')∨(∃ pre,Sp pre∧Jx pre W'))
def postT {α:Type} (MB:List Nat) (I:List α→World→Prop) (Ix:Code→List α→World→Prop) (xs:List α) (W:World):Exit→Act→World→Prop
 |.normal,_,W'=>Turn MB W.heap.size W W'∧I xs W'
 |.ret,_,W'=>Turn MB W.heap.size W W'∧Ix .ret xs W'
 |.exit id,_,W'=>Turn MB W.heap.size W W'∧Ix (.exit id) xs W'
 |.goto t,_,W'=>Turn MB W.heap.size W W'∧Ix (.goto t) xs W'
 |.panic _,_,_=>False
 |.outgrown,_,_=>False
variable {F:Fence} {n:Nat} {P:Program}
theorem wpIn_rangeFunc_T {α:Type} {g:Operand} {ps:Array Tmp} {assign body:Code} {Q:Exit→Act→World→Prop} {a:Act} {w:World}
  (hro:F.round = none) (h1:1≤n) {gf:Nat} {lb:Array Value} (hg:a.eval g = .func (.func gf) #[] lb) (hFg:F.fn gf) (eg:∀ args w,(callFunc gf args).run P w = .ok (.enter gf args) w)
  {encs:α→Array Value} {M MB:List Nat} {Ok:List α→α→Prop} {S Sp:List α→Prop} (hseq:SeqT F (n - 1) P gf lb encs M MB Ok S Sp w)
  (hM:∀ b∈M,b < w.heap.size) (hMB:∀ b∈MB,b < w.heap.size) (hps:∀ x,(encs x).size = ps.size)
  (I:List α→World→Prop) (Ix:Code→List α→World→Prop) (hI:Abd M w.heap.size I) (hIx:∀ c,Abd M w.heap.size (Ix c)) (h0:I [] w) (a₁:α→Act)
  (hassign:∀ (l:Nat) (x:α) (W:World) (K:Act→World→Prop),K (a₁ x) W →
   assign.wpIn (F.inRound l) (n - 1 - 1) P (Exit.then K (fun _ _ _=>False)) { tmps:=(ps.zip (encs x)).foldl (fun t (p,v)=>t.setIfInBounds p v) a.tmps,defers:=[] } W)
  (hbody:∀ (l:Nat) (pre:List α) (x:α) (W:World),w.heap.size≤W.heap.size→I pre W→Ok pre x→body.wpIn (F.inRound l) (n - 1 - 1) P (postT MB I Ix (pre ++ [x]) W) (a₁ x) W)
  (hdone:∀ (D:Nat) (xs:List α) (W:World),w.heap.size≤D→S xs→I xs W→W.heap[D]? = some (.deferred (some []))→Q .normal { a with defers:={ target:=.collected D,args:=#[] } :: a.defers } W)
  (hstop:∀ (D:Nat) (c:Code) (pre:List α) (W:World),w.heap.size≤D→Sp pre→Ix c pre W→W.heap[D]? = some (.deferred (some []))→c.wpIn F n P Q { a with defers:={ target:=.collected D,args:=#[] } :: a.defers } W) :
  (Code.rangeFunc g ps assign body).wpIn F n P Q a w:=by
 refine wpIn_rangeFunc ?_
 intro fn hfn
 rw [hro]
 obtain ⟨rec,hrec⟩:∃ rec:LoopState→Option Code→Loop,rec = fun st pe=>{ state:=st,pending:=pe,fn,tmps:=a.tmps,params:=ps,assign,body,defers:=w.heap.size }:=⟨_,rfl⟩
 obtain ⟨W1,hW1⟩:∃ W1,(w.alloc (.deferred (some []))).alloc (.loop (rec .ready none)) = W1:=⟨_,rfl⟩
 have hs1:W1.heap.size = w.heap.size + 2:=by rw [← hW1];simp
 have hL1:W1.heap[w.heap.size + 1]? = some (.loop (rec .ready none)):=by
  rw [← hW1];have:=World.alloc_heap_new (w.alloc (.deferred (some []))) (.loop (rec .ready none));rwa [World.size_alloc] at this
 have hK1:W1.heap[w.heap.size]? = some (.deferred (some [])):=by
  rw [← hW1];exact (Below.heap_alloc _ _ _ (by simp)).trans (World.alloc_heap_new w _)
 have hT1:Turn M w.heap.size w W1:=by
  rw [← hW1];exact (Turn.alloc M _ (Nat.le_refl _)).trans (Turn.alloc M _ (by simp))
 have hI1:I [] W1:=hI _ _ _ h0 hT1
 have hb1:Below w.heap.size w W1:=by
  rw [← hW1];exact (((Below.refl _ w).alloc (Nat.le_refl _) _).alloc (by simp) _)
 have hnM:∀ b,w.heap.size≤b→b ∉ M:=fun b hb h=>by have:=hM b h;omega
 have hnB:∀ b,w.heap.size≤b→b ∉ MB:=fun b hb h=>by have:=hMB b h;omega
 refine ⟨w.heap.size + 1,[{ target:=.collected w.heap.size,args:=#[] }],W1,{ target:=.fn (.func gf) lb,args:=#[.func (.yield (w.heap.size + 1)) #[] #[]] },W1,gf,
  #[.func (.yield (w.heap.size + 1)) #[] #[]] ++ lb,W1,?_,?_,?_,?_,fun _=>h1,?_⟩
 ·rw [← hW1,hrec];exact run_enterLoop_outer _ _ _ _ _
 ·simp only [resolve,hg]
  simp [go_sem]
 ·intro f' hf';simp [Target.leads] at hf';subst hf';exact hFg
 ·simp [invoke,go_sem,eg]
 ·refine (hseq (w.heap.size + 1)
   (fun pre W=>I pre W∧W.heap[w.heap.size + 1]? = some (.loop (rec .ready none))∧W.heap[w.heap.size]? = some (.deferred (some [])))
   (fun pre W=>∃ c,Ix c pre W∧W.heap[w.heap.size + 1]? = some (.loop (rec .done (some c)))∧W.heap[w.heap.size]? = some (.deferred (some [])))
   W1 hb1 rfl hs1
   (fun s A B hs ht=>⟨hI s A B hs.1 (ht.widen (fun b hb _=>hb) (by omega)),(ht.keep _ (by omega) (hnM _ (by omega))).trans hs.2.1,(ht.keep _ (by omega) (hnM _ (by omega))).trans hs.2.2⟩)
   (fun s A B hs ht=>by
    obtain ⟨c,hc,hl,hk⟩:=hs
    exact ⟨c,hIx c s A B hc (ht.widen (fun b hb _=>hb) (by omega)),(ht.keep _ (by omega) (hnM _ (by omega))).trans hl,(ht.keep _ (by omega) (hnM _ (by omega))).trans hk⟩)
   ?_ ⟨hI1,hL1,hK1⟩).mono ?_
  ·rintro pre x W ⟨hi,hl,hk⟩ hsz hlen
   have hlt:w.heap.size + 1 < W.heap.size:=(Array.getElem?_eq_some_iff.1 hl).1
   have hy:=run_yield (P:=P) (args:=encs x) hl (by rw [hrec];exact hps x)
   rw [hrec] at hy
   refine ⟨fn,_,assign,body,hy,roundIn_of_wpIn hfn (hassign _ x W _ ⟨_,run_beginRound hl (by rw [hrec]),?_⟩)⟩
   have hl2:(W.putObj (w.heap.size + 1) (.loop { rec .ready none with state:=.busy })).heap[w.heap.size + 1]? = some (.loop { rec .ready none with state:=.busy }):=World.putObj_heap_same hlt
   have hk2:(W.putObj (w.heap.size + 1) (.loop { rec .ready none with state:=.busy })).heap[w.heap.size]? = some (.deferred (some [])):=(World.putObj_heap_other (by omega)).trans hk
   have hsz2:(W.putObj (w.heap.size + 1) (.loop { rec .ready none with state:=.busy })).heap.size = W.heap.size:=by simp
   have hw2:Turn ((w.heap.size + 1) :: MB) W.heap.size W (W.putObj (w.heap.size + 1) (.loop { rec .ready none with state:=.busy })):=Turn.putObj _ _ _ (.inl (by simp))
   refine wpIn_mono (hbody _ pre x _ (by rw [hsz2];omega) (hI _ _ _ hi (Turn.putObj _ _ _ (.inr (by omega)))) hlen) ?_
   have fin:∀ (jump:Option Code) (W3:World),Turn MB W.heap.size (W.putObj (w.heap.size + 1) (.loop { rec .ready none with state:=.busy })) W3 →
     (Instr.endRound (w.heap.size + 1) jump).run P W3 = .ok (.bool jump.isNone) (W3.putObj (w.heap.size + 1) (.loop (rec (if jump.isNone then .ready else .done) jump))) ∧
     (W3.putObj (w.heap.size + 1) (.loop (rec (if jump.isNone then .ready else .done) jump))).heap[w.heap.size + 1]? = some (.loop (rec (if jump.isNone then .ready else .done) jump)) ∧
     (W3.putObj (w.heap.size + 1) (.loop (rec (if jump.isNone then .ready else .done) jump))).heap[w.heap.size]? = some (.deferred (some [])):=fun jump W3 hk3=>by
    have hl3:=(hk3.keep _ (by omega) (hnB _ (by omega))).trans hl2
    have hd3:=(hk3.keep _ (by omega) (hnB _ (by omega))).trans hk2
    have:=run_endRound (P:=P) jump hl3
    rw [hrec] at this ⊢
    exact ⟨this,World.putObj_heap_same (Array.getElem?_eq_some_iff.1 hl3).1,(World.putObj_heap_other (by omega)).trans hd3⟩
   rintro e a3 W3 hp
   cases e with
   |normal =>
    obtain ⟨hk3,hi3⟩:=hp
    rw [hsz2] at hk3
    obtain ⟨hr,hl4,hk4⟩:=fin none W3 hk3
    exact ⟨_,_,hr,.inl ⟨rfl,⟨hI _ _ _ hi3 (Turn.putObj _ _ _ (.inr (by omega))),hl4,hk4⟩,(hw2.trans (hk3.widen (fun b hb _=>List.mem_cons_of_mem _ hb) (Nat.le_refl _))).trans (Turn.putObj _ _ _ (.inl (by simp)))⟩⟩
   |ret =>
    obtain ⟨hk3,hi3⟩:=hp
    rw [hsz2] at hk3
    obtain ⟨hr,hl4,hk4⟩:=fin (some .ret) W3 hk3
    exact ⟨_,_,hr,.inr ⟨rfl,.ret,hIx _ _ _ _ hi3 (Turn.putObj _ _ _ (.inr (by omega))),hl4,hk4⟩⟩
   |exit id =>
    obtain ⟨hk3,hi3⟩:=hp
    rw [hsz2] at hk3
    obtain ⟨hr,hl4,hk4⟩:=fin (some (.exit id)) W3 hk3
    exact ⟨_,_,hr,.inr ⟨rfl,.exit id,hIx _ _ _ _ hi3 (Turn.putObj _ _ _ (.inr (by omega))),hl4,hk4⟩⟩
   |goto t =>
    obtain ⟨hk3,hi3⟩:=hp
    rw [hsz2] at hk3
    obtain ⟨hr,hl4,hk4⟩:=fin (some (.goto t)) W3 hk3
    exact ⟨_,_,hr,.inr ⟨rfl,.goto t,hIx _ _ _ _ hi3 (Turn.putObj _ _ _ (.inr (by omega))),hl4,hk4⟩⟩
   |panic ch=>exact hp.elim
   |outgrown=>exact hp.elim
  ·rintro e W2 ⟨⟨v,rfl⟩,(⟨xs,hS,hi,hl,hk⟩ | ⟨pre,hSp,c,hi,hl,hk⟩)⟩
   ·exact ⟨none,_,by have:=run_endLoop (P:=P) hl (by rw [hrec];simp);rw [hrec] at this;exact this,hdone _ xs _ (Nat.le_refl _) hS (hI _ _ _ hi (Turn.putObj _ _ _ (.inr (by omega)))) ((World.putObj_heap_other (by omega)).trans hk)⟩
   ·exact ⟨some c,_,by have:=run_endLoop (P:=P) hl (by rw [hrec];simp);rw [hrec] at this;exact this,hstop _ c pre _ (Nat.le_refl _) hSp (hIx c _ _ _ hi (Turn.putObj _ _ _ (.inr (by omega)))) ((World.putObj_heap_other (by omega)).trans hk)⟩
structure Its (M:List Nat) (B:Nat) (L:List As) (W:World):Prop where
 ho:∀ A∈L,A.ho W
 own:∀ A∈L,∀ b∈A.fp,b∈M∨B≤b
 dis:L.Pairwise fun A A'=>∀ b∈A.fp,b ∉ A'.fp
 le:B≤W.heap.size
def fps (L:List As):List Nat:=L.flatMap fun A=>A.fp
theorem Its.st {M:List Nat} {B:Nat} {L:List As} {W:World} (h:Its M B L W):St W (fps L) L W :=
 ⟨rfl,rfl,rfl,Nat.le_refl _,fun _ _ _=>rfl,h.ho,fun A hA b hb=>.inr (List.mem_flatMap.2 ⟨A,hA,hb⟩),h.dis⟩
theorem Its.of {M:List Nat} {B:Nat} {L L':List As} {W W':World} (h:Its M B L W) (hs:St W (fps L) L' W'):Its M B L' W'∧Turn M B W W':=by
 have hf:∀ b∈fps L,b∈M∨B≤b:=fun b hb=>by
  obtain ⟨A,hA,hb⟩:=List.mem_flatMap.1 hb
  exact h.own A hA b hb
 refine ⟨⟨hs.ho,fun A hA b hb=>?_,hs.dis,Nat.le_trans h.le hs.size⟩,hs.os,hs.tape,hs.output,hs.size,fun b hb hm=>hs.keep b (Nat.lt_of_lt_of_le hb h.le) fun hx=>?_⟩
 ·rcases hs.own A hA b hb with h1 | h1
  ·exact .inr (Nat.le_trans h.le h1)
  ·exact hf b h1
 ·rcases hf b hx with h1 | h1
  ·exact hm h1
  ·omega
theorem Its.turn {M MB:List Nat} {B:Nat} {L:List As} {W W':World} (h:Its M B L W) (ht:Turn MB W.heap.size W W') (hd:∀ b∈M,b ∉ MB) (hB:∀ b∈MB,b < B):Its M B L W':=by
 refine ⟨fun A hA=>A.loc W W' (fun b hb=>ht.keep b (A.lt W (h.ho A hA) b hb) fun hm=>?_) (h.ho A hA),h.own,h.dis,Nat.le_trans h.le ht.size⟩
 rcases h.own A hA b hb with h1 | h1
 ·exact hd b h1 hm
 ·have:=hB b hm;omega
theorem St.turned {w0 W W':World} {M:List Nat} {L:List As} {B:Nat} (h:St w0 [] L W) (ht:Turn M B W W') (h0:w0.heap.size≤B) (hM:∀ b∈M,w0.heap.size≤b) (hL:∀ A∈L,∀ b∈A.fp,b < B∧b ∉ M):St w0 [] L W' :=
 ⟨ht.os.trans h.os,ht.tape.trans h.tape,ht.output.trans h.output,Nat.le_trans h.size ht.size,fun b hb hm=>(ht.keep b (by omega) fun hx=>by have:=hM b hx;omega).trans (h.keep b hb hm),
  fun A hA=>A.loc W W' (fun b hb=>ht.keep b (hL A hA b hb).1 (hL A hA b hb).2) (h.ho A hA),h.own,h.dis⟩
end
end Go.Proofs.YtijnhpaafhcndaaGreat
section
namespace Go.Proofs.YtijnhpaafhcndaaGreat
set_option linter.unusedSimpArgs false
set_option linter.unusedVariables false
def hitF:List Nat→Nat
 |[]=>0
 |x :: r=>if 0 < x then 1 else if hitF r = 0 then 0 else hitF r + 1
def hitL:List Nat→Nat
 |[]=>0
 |x :: r=>if hitL r = 0 then (if 0 < x then 1 else 0) else hitL r + 1
namespace Mc
def fst (m:Mc) (q:Nat) (l:List Nat):Nat:=hitF (m.hits q l)
def lst (m:Mc) (q:Nat) (l:List Nat):Nat:=hitL (m.hits q l)
variable {m:Mc}
end Mc
theorem Orb.none {f:Nat→Nat} {q times tail:Nat} {xs:List Nat} {h:Nat→Bool} (o:Orb f q times xs tail) (h0:∀ c,c < xs.length→h (itr f c q) = false):∀ c,c < times→h (itr f c q) = false:=fun c hc=>by
 rcases Nat.lt_or_ge c xs.length with hl | hl
 ·exact h0 c hl
 ·obtain ⟨h1,h2,h3⟩:=o.at_high (by omega) (by omega:c≤times)
  have hj:=getElem_len h3
  have:=o.at_low hj
  rw [h3] at this
  injection this with this
  rw [this]
  exact h0 _ hj
end Go.Proofs.YtijnhpaafhcndaaGreat
end
namespace Go.Proofs.YtijnhpaafhcndaaGreat
section
open Go.RowKit Go.Maps
attribute [local go_sem] InGr
def Sto.stp (S:Sto) (mc:Mc) (bk:Bool) (id:Nat):Nat→Nat:=fun q=>mc.ends q (S.dtx bk id)
def Sto.hit (S:Sto) (mc:Mc) (bk:Bool) (id:Nat):Nat→Bool:=fun q=>decide (0 < mc.sum q (S.dtx bk id))
end
section
open Go.RowKit Go.Maps
attribute [local go_sem] InGr
end
section
open Go.RowKit Go.Maps
attribute [local go_sem] InGr
def TX (X:As) (S:Sto) (lv:Value) (m p s:Nat) (mc:Mc) (bk:Bool) (f:FuncId) (args:Array Value) (v:Value):Prop :=
 ∀ T w,TK S p s mc bk T→((tabA T).sep (stoA s lv m S)).ho w→((tabA T).sep X).ho w→Calls Tryz.prog f args w (TPost S p s mc bk v w (tabA T).fp)
section
variable {X:As} {S:Sto} {lv:Value} {m p s:Nat} {mc:Mc} {bk:Bool} {f:FuncId} {args:Array Value} {v:Value} {T:Tab} {w w0:World} {M:List Nat} {L R K:List As}
theorem TX.mk (k:∀ T w M,Hid (TK S p s mc bk T)→St w M [tabA T] w→Ks w M [stoA s lv m S,X]→Calls Tryz.prog f args w (TPost S p s mc bk v w M)):TX X S lv m p s mc bk f args v:=fun T w hT h hX=>by
 rw [sep_ho] at h hX
 obtain ⟨h1,h2,hd⟩:=h
 obtain ⟨_,h3,hd3⟩:=hX
 exact k T w _ (Lib.hid hT) (St.one h1) ⟨by simp [h2,h3],by simpa using ⟨fun b hb hm=>hd b hm hb,fun b hb hm=>hd3 b hm hb⟩⟩
theorem TX.use (hc:TX X S lv m p s mc bk f args v) (hT:TK S p s mc bk T) (H:St w0 M L w) (hp:Pick L (tabA T) R) (hs:((tabA T).sep (stoA s lv m S)).ho w) (hX:((tabA T).sep X).ho w) {Q:Ending→World→Prop} (k:∀ T' w',Hid (TK S p s mc bk T')→St w0 M (tabA T' :: R) w'→Q (.returned v) w'):Calls Tryz.prog f args w Q:=by
 refine (hc T w hT hs hX).mono ?_
 rintro e w' ⟨T',rfl,hT',hst⟩
 exact k T' w' (Lib.hid hT') (by simpa using (H.pick hp).call hst)
end
abbrev ptsA (ad:Option Addr) (c:Nat) (lp:List Pt):As:=rowsA encT 137 3 (.slice ad lp.length c) lp
def TP (S:Sto) (lv:Value) (m p s:Nat) (mc:Mc) (bk:Bool) (f:FuncId) (args:Array Value) (l:List Nat):Prop :=
 ∀ T w,TK S p s mc bk T→((tabA T).sep (stoA s lv m S)).ho w→Calls Tryz.prog f args w fun e w'=>∃ ad c lp,e = .returned (.slice ad lp.length c)∧runP S bk lp = l∧(∀ t∈lp,PtOk S (fun _=>True) t)∧St w [] [ptsA ad c lp] w'
section
variable {S:Sto} {lv:Value} {m p s:Nat} {mc:Mc} {bk:Bool} {f:FuncId} {args:Array Value} {l:List Nat} {T:Tab} {w w0:World} {M:List Nat} {L R K:List As}
theorem TP.use (hc:TP S lv m p s mc bk f args l) (hT:TK S p s mc bk T) (H:St w0 M L w) (hs:((tabA T).sep (stoA s lv m S)).ho w) {Q:Ending→World→Prop} (k:∀ ad c lp w',Hid (runP S bk lp = l∧∀ t∈lp,PtOk S (fun _=>True) t)→St w0 M (ptsA ad c lp :: L) w'→Q (.returned (.slice ad lp.length c)) w'):Calls Tryz.prog f args w Q:=by
 refine (hc T w hT hs).mono ?_
 rintro e w' ⟨ad,c,lp,rfl,h1,h2,hst⟩
 exact k ad c lp w' (Lib.hid ⟨h1,h2⟩) (by simpa using H.call0 hst)
end
end
section
open Go.RowKit Go.Maps
attribute [local go_sem] InGr
section
variable {S:Sto} {lv:Value} {m p s:Nat} {mc:Mc} {bk:Bool} {T:Tab} {w w0:World} {M:List Nat} {L R:List As}
def TO (S:Sto) (lv:Value) (m p s:Nat) (mc:Mc) (bk:Bool) (f:FuncId) (args:Array Value) (g:Nat→Nat) (q times:Nat):Prop :=
 ∀ T w,TK S p s mc bk T→((tabA T).sep (stoA s lv m S)).ho w→Calls Tryz.prog f args w fun e w'=>∃ T' ad c xs tail,e = .returned (.agg #[.slice ad xs.length c,.int .i64 (tail:Nat)])∧Orb g q times xs tail∧TK S p s mc bk T'∧St w (tabA T).fp [tabA T',rowsA encI 3 1 (.slice ad xs.length c) xs] w'
theorem TO.use {f:FuncId} {args:Array Value} {g:Nat→Nat} {q times:Nat} (hc:TO S lv m p s mc bk f args g q times) (hT:TK S p s mc bk T) (H:St w0 M L w) (hp:Pick L (tabA T) R) (hs:((tabA T).sep (stoA s lv m S)).ho w) {Q:Ending→World→Prop} (k:∀ T' ad c xs tail w',Hid (TK S p s mc bk T')→Hid (Orb g q times xs tail)→St w0 M (tabA T' :: rowsA encI 3 1 (.slice ad xs.length c) xs :: R) w'→Q (.returned (.agg #[.slice ad xs.length c,.int .i64 (tail:Nat)])) w'):Calls Tryz.prog f args w Q:=by
 refine (hc T w hT hs).mono ?_
 rintro e w' ⟨T',ad,c,xs,tail,rfl,ho,hT',hst⟩
 exact k T' ad c xs tail w' (Lib.hid hT') (Lib.hid ho) (by simpa using (H.pick hp).call hst)
end
end
section
open Go.RowKit Go.Maps
attribute [local go_sem] InGr
end
section
open Go.RowKit Go.Maps
attribute [local go_sem] InGr
theorem TQ.at {S:Sto} {lv:Value} {m p s:Nat} {mc:Mc} {bk:Bool} {f:FuncId} {args:Array Value} {v:Value} {T:Tab} {w:World} (hc:TQ S lv m p s mc bk f args v) (hT:TK S p s mc bk T) (h1:(tabA T).ho w) (h2:(stoA s lv m S).ho w):Calls Tryz.prog f args w fun e w'=>e = .returned v∧St w [] [] w':=hc T w hT h1 h2
end
section
open Go.RowKit Go.Maps
attribute [local go_sem] InGr
def Sto.nx (S:Sto) (mc:Mc) (id a:Nat):Nat:=mc.fst (mc.ends mc.start ((S.txt id).take a)) ((S.txt id).drop a)
def Sto.pv (S:Sto) (mc:Mc) (id a:Nat):Nat:=mc.lst mc.start ((S.txt id).take a)
end
section
open Go.RowKit Go.Maps
def ends:List Nat→Nat→List (Nat × Nat)
 |[],_=>[]
 |x :: r,b=>if 0 < x then (b + 1,x) :: ends r (b + 1) else ends r (b + 1)
theorem zends_append:∀ (a b:List Nat) (s:Nat),ends (a ++ b) s = ends a s ++ ends b (s + a.length)
 |[],b,s=>rfl
 |x :: a,b,s=>by
  have ih:=zends_append a b (s + 1)
  rw [List.cons_append,ends,ends,ih,List.length_cons,show s + 1 + a.length = s + (a.length + 1) by omega]
  split <;> rfl
theorem ends_zero:∀ {a:List Nat} (s:Nat),a.sum = 0→ends a s = []
 |[],s,_=>rfl
 |x :: a,s,h=>by
  rw [List.sum_cons] at h
  rw [ends,if_neg (by omega),ends_zero (s + 1) (by omega)]
def stkT (S:Sto) (st:List (Nat × Nat)):List Nat:=(st.reverse.map fun p=>rep p.2 (S.txt p.1)).flatten
theorem stkT_snoc (S:Sto) (st:List (Nat × Nat)) (p:Nat × Nat):stkT S (st ++ [p]) = rep p.2 (S.txt p.1) ++ stkT S st:=by simp [stkT]
def wE (S:Sto) (id:Nat):Nat:=2 * (S.txt id).length - 1
def stkM (S:Sto):List (Nat × Nat)→Nat
 |[]=>0
 |p :: r=>p.2 * wE S p.1 + stkM S r
theorem stkM_append (S:Sto):∀ a b,stkM S (a ++ b) = stkM S a + stkM S b
 |[],b=>by simp [stkM]
 |p :: a,b=>by rw [List.cons_append,stkM,stkM,stkM_append S a b];omega
theorem stkM_one (S:Sto) (id t:Nat):stkM S [(id,t)] = t * wE S id:=by simp [stkM]
structure AInv (S:Sto) (mc:Mc) (XS:List (Nat × Nat)) (id0 q at_:Nat) (st:List (Nat × Nat)) (pre:List (Nat × Nat)):Prop where
 txt:pre ++ ends (mc.hits q (stkT S st)) at_ = XS
 len:at_ + (stkT S st).length≤1152921504606846976
 lt:q < mc.n
 ent:∀ p∈st,1≤p.1∧p.1≤S.list.length∧1≤p.2∧p.2≤1152921504606846976
 pos:∀ j p,st[j]? = some p→j + 2 * p.1≤2 * id0
structure AHit (S:Sto) (mc:Mc) (XS:List (Nat × Nat)) (id0 q at_:Nat) (st:List (Nat × Nat)) (pre:List (Nat × Nat)) (id:Nat) (m:Nat):Prop where
 txt:pre ++ ends (mc.hits q (S.txt id ++ stkT S st)) at_ = XS
 len:at_ + (S.txt id).length + (stkT S st).length≤1152921504606846976
 lt:q < mc.n
 hit:0 < mc.sum q (S.txt id)
 ent:∀ p∈st,1≤p.1∧p.1≤S.list.length∧1≤p.2∧p.2≤1152921504606846976
 pos:∀ j p,st[j]? = some p→j + 2 * p.1≤2 * id0
 top:st.length + 2 * id≤2 * id0 + 1
 cost:stkM S st + wE S id≤m
section
variable {S:Sto} {mc:Mc} {XS:List (Nat × Nat)} {id0 q at_ id t:Nat} {st pre:List (Nat × Nat)}
theorem pos_snoc {id0:Nat} {st:List (Nat × Nat)} {p:Nat × Nat} (h:∀ j p,st[j]? = some p→j + 2 * p.1≤2 * id0) (hp:st.length + 2 * p.1≤2 * id0):∀ j p',(st ++ [p])[j]? = some p'→j + 2 * p'.1≤2 * id0:=fun j p' hj=>by
 rcases Nat.lt_trichotomy j st.length with h1 | h1 | h1
 ·rw [List.getElem?_append_left h1] at hj
  exact h j p' hj
 ·subst h1
  rw [List.getElem?_append_right (Nat.le_refl _),Nat.sub_self] at hj
  have:p = p':=by simpa using hj
  subst this
  exact hp
 ·rw [List.getElem?_append_right (by omega)] at hj
  have:j - st.length = (j - st.length - 1) + 1:=by omega
  rw [this] at hj
  simp at hj
theorem pos_init {id0:Nat} {st:List (Nat × Nat)} {p:Nat × Nat} (h:∀ j p',(st ++ [p])[j]? = some p'→j + 2 * p'.1≤2 * id0):(∀ j p',st[j]? = some p'→j + 2 * p'.1≤2 * id0)∧st.length + 2 * p.1≤2 * id0 :=
 ⟨fun j p' hj=>h j p' (by rw [List.getElem?_append_left (List.getElem?_eq_some_iff.1 hj).1];exact hj),h st.length p (by simp)⟩
theorem AInv.none (h:AInv S mc XS id0 q at_ (st ++ [(id,t)]) pre) (hn:itr (S.stp mc false id) t q < mc.n) (hs:mc.sum q (rep t (S.txt id)) = 0):AInv S mc XS id0 (itr (S.stp mc false id) t q) (at_ + t * (S.txt id).length) st pre∧stkM S st + t * wE S id = stkM S (st ++ [(id,t)]):=by
 obtain ⟨h1,h2,h3,h4,h5⟩:=h
 rw [stkT_snoc] at h1 h2
 simp only at h1 h2
 rw [List.length_append,rep_len] at h2
 have he:mc.ends q (rep t (S.txt id)) = itr (S.stp mc false id) t q:=ends_rep ..
 rw [Mc.hits_append,zends_append,ends_zero _ (by rw [Mc.hits_sum];exact hs),Mc.hits_len,rep_len,he,List.nil_append] at h1
 exact ⟨⟨h1,by omega,hn,fun p hp=>h4 p (List.mem_append_left _ hp),(pos_init h5).1⟩,by rw [stkM_append,stkM_one]⟩
theorem AInv.hit {c:Nat} {st':List (Nat × Nat)} (h:AInv S mc XS id0 q at_ (st ++ [(id,t)]) pre) (hn:itr (S.stp mc false id) c q < mc.n) (hc:c < t) (hs:mc.sum q (rep c (S.txt id)) = 0) (hh:0 < mc.sum (itr (S.stp mc false id) c q) (S.txt id))
  (hst:(st' = st∧t - c - 1 = 0)∨(st' = st ++ [(id,t - c - 1)]∧0 < t - c - 1)):AHit S mc XS id0 (itr (S.stp mc false id) c q) (at_ + c * (S.txt id).length) st' pre id (stkM S (st ++ [(id,t)])):=by
 obtain ⟨h1,h2,h3,h4,h5⟩:=h
 obtain ⟨p1,p2⟩:=pos_init h5
 simp only at p2
 have hent:=h4 (id,t) (by simp)
 have hT:stkT S st' = rep (t - c - 1) (S.txt id) ++ stkT S st:=by
  rcases hst with ⟨rfl,h0⟩ | ⟨rfl,_⟩
  ·rw [h0,rep_zero];rfl
  ·rw [stkT_snoc]
 have hrep:rep t (S.txt id) = rep c (S.txt id) ++ (S.txt id ++ rep (t - c - 1) (S.txt id)):=by
  have:rep (c + (1 + (t - c - 1))) (S.txt id) = _:=rep_add c (1 + (t - c - 1)) (S.txt id)
  rw [rep_add 1,rep_one] at this
  rwa [show c + (1 + (t - c - 1)) = t by omega] at this
 have he:mc.ends q (rep c (S.txt id)) = itr (S.stp mc false id) c q:=ends_rep ..
 rw [stkT_snoc] at h1 h2
 simp only at h1 h2
 rw [hrep,List.append_assoc,List.append_assoc,← hT] at h1 h2
 rw [Mc.hits_append,zends_append,ends_zero _ (by rw [Mc.hits_sum];exact hs),Mc.hits_len,rep_len,he,List.nil_append] at h1
 rw [List.length_append,List.length_append,rep_len] at h2
 refine ⟨h1,by omega,hn,hh,?_,?_,?_,?_⟩
 ·intro p hp
  rcases hst with ⟨rfl,h0⟩ | ⟨rfl,h0⟩
  ·exact h4 p (List.mem_append_left _ hp)
  ·rcases List.mem_append.1 hp with hp | hp
   ·exact h4 p (List.mem_append_left _ hp)
   ·have:p = (id,t - c - 1):=by simpa using hp
    subst this
    simp only at hent ⊢
    omega
 ·rcases hst with ⟨rfl,h0⟩ | ⟨rfl,h0⟩
  ·exact p1
  ·exact pos_snoc p1 p2
 ·rcases hst with ⟨rfl,h0⟩ | ⟨rfl,h0⟩
  ·omega
  ·simp;omega
 ·rw [stkM_append,stkM_one]
  have hw:(t - c - 1) * wE S id + wE S id≤t * wE S id:=by
   have:(t - c - 1 + 1) * wE S id≤t * wE S id:=Nat.mul_le_mul_right _ (by omega)
   rwa [Nat.succ_mul] at this
  rcases hst with ⟨rfl,h0⟩ | ⟨rfl,h0⟩
  ·rw [h0] at hw;omega
  ·rw [stkM_append,stkM_one];omega
variable {m:Nat}
theorem AHit.pair {l r:Nat} (h:AHit S mc XS id0 q at_ st pre id m) (ht:S.txt id = S.txt l ++ S.txt r) (hl:l < id) (hr:r < id) (hl1:1≤l) (hr1:1≤r) (hid:id≤S.list.length) (hll:1≤(S.txt l).length) (hrl:1≤(S.txt r).length):AInv S mc XS id0 q at_ (st ++ [(r,1)] ++ [(l,1)]) pre∧stkM S (st ++ [(r,1)] ++ [(l,1)]) < m:=by
 obtain ⟨h1,h2,h3,h4,h5,h6,h7,h8⟩:=h
 have hT:stkT S (st ++ [(r,1)] ++ [(l,1)]) = S.txt id ++ stkT S st:=by
  rw [stkT_snoc,stkT_snoc,rep_one,rep_one,ht,List.append_assoc]
 have hw:=congrArg List.length ht
 rw [List.length_append] at hw
 refine ⟨⟨by rw [hT];exact h1,by rw [hT,List.length_append];omega,h3,?_,pos_snoc (pos_snoc h6 (by simp only;omega)) (by simp only [List.length_append,List.length_singleton];omega)⟩,?_⟩
 ·intro p hp
  simp only [List.mem_append,List.mem_singleton] at hp
  rcases hp with (hp | rfl) | rfl
  ·exact h5 p hp
  ·simp only;omega
  ·simp only;omega
 ·rw [stkM_append,stkM_append,stkM_one,stkM_one]
  unfold wE at h8 ⊢
  omega
theorem AHit.power {l k:Nat} (h:AHit S mc XS id0 q at_ st pre id m) (ht:S.txt id = rep k (S.txt l)) (hl:l < id) (hl1:1≤l) (hid:id≤S.list.length) (hll:1≤(S.txt l).length) (hk:2≤k) (hkm:k≤1152921504606846976):AInv S mc XS id0 q at_ (st ++ [(l,k)]) pre∧stkM S (st ++ [(l,k)]) < m:=by
 obtain ⟨h1,h2,h3,h4,h5,h6,h7,h8⟩:=h
 have hT:stkT S (st ++ [(l,k)]) = S.txt id ++ stkT S st:=by rw [stkT_snoc,ht]
 have hw:=congrArg List.length ht
 rw [rep_len] at hw
 refine ⟨⟨by rw [hT];exact h1,by rw [hT,List.length_append];omega,h3,?_,pos_snoc h6 (by simp only;omega)⟩,?_⟩
 ·intro p hp
  simp only [List.mem_append,List.mem_singleton] at hp
  rcases hp with hp | rfl
  ·exact h5 p hp
  ·simp only;omega
 ·rw [stkM_append,stkM_one]
  unfold wE at h8 ⊢
  obtain ⟨n,hn⟩:∃ n,(S.txt l).length = n + 1:=⟨(S.txt l).length - 1,by omega⟩
  rw [hn] at hw ⊢
  have e1:k * (2 * (n + 1) - 1) = 2 * (k * n) + k:=by
   rw [show 2 * (n + 1) - 1 = 2 * n + 1 by omega,Nat.mul_add,Nat.mul_one,Nat.mul_left_comm]
  have e2:k * (n + 1) = k * n + k:=by rw [Nat.mul_add,Nat.mul_one]
  rw [e1]
  rw [e2] at hw
  omega
theorem AHit.letter {b:Nat} (h:AHit S mc XS id0 q at_ st pre id m) (ht:S.txt id = [b]) (hq:mc.step q b < mc.n):AInv S mc XS id0 (mc.step q b) (at_ + 1) st (pre ++ [(at_ + 1,mc.wt (mc.step q b))])∧stkM S st < m∧0 < mc.wt (mc.step q b):=by
 obtain ⟨h1,h2,h3,h4,h5,h6,h7,h8⟩:=h
 rw [ht] at h1 h2 h4
 have hw:0 < mc.wt (mc.step q b):=by simpa [Mc.sum] using h4
 refine ⟨⟨?_,by simp at h2;omega,hq,h5,h6⟩,?_,hw⟩
 ·simp only [List.cons_append,List.nil_append,Mc.hits,ends,hw,if_true] at h1
  rw [List.append_assoc]
  exact h1
 ·unfold wE at h8
  rw [ht] at h8
  simp at h8
  omega
end
end
section
open Go.RowKit Go.Maps
attribute [local go_sem] InGr
section
variable {ops:Array Oper} {Q:Exit→Act→World→Prop} {rest:List Oper} {a:Act} {w w0:World} {M:List Nat} {L:List As} {o1:Oper}
theorem AtSlice.zero {α:Type} (enc:α→List Value) {t e:TypeId} (H:St w0 M L w) (hw:Region.wanted o1 (yielded ops a.tmps) = true) (ho:o1.op = .buildSlice t 0 #[]) (hte:sliceO t = some e) {z:Value} {k bytes:Nat} (hi:infoO e = some (z,k,bytes)) (hk:∀ x,(enc x).length = k)
  (h:∀ b w',St w0 M (rowsA enc e k (.slice (some ⟨b,0,none⟩) 0 0) [] :: L) w'→wpList Tryz.prog ops Q rest (a.put o1.dst (.slice (some ⟨b,0,none⟩) 0 0)) w'):AtSlice Tryz.prog ops Q o1 t 0 #[] rest a w :=
 wpList_step fun _ hK=>by
  rw [if_pos hw]
  unfold Oper.wp execOp
  simp only [ho,List.map_toArray,List.map_nil,Sem.run_bind,run_slice0 hte hi,Result.andThen_ok,Sem.run_pure]
  exact hK _ _ (h _ _ ((H.alloc (.cells #[] e)).conv (by rw [rowsA_fp',blk_fp];rfl) fun hb=>rowsA_of_blk (xs:=[]) (by rw [blk_ho] at hb;exact hb) (by simp [maxLen]) (by simp [flatG]) hk))
end
end
section
open Go.RowKit Go.Maps
attribute [local go_sem] InGr
end
section
open Go.RowKit Go.Maps
attribute [local go_sem] InGr
end
section
open Go.RowKit Go.Maps
attribute [local go_sem] InGr
theorem run_assert_int {P:Program} {t xT:TypeId} {k:IntKind} {v:Value} {w:World} (h:P.underlying t = some (.int k)):(Instr.typeAssert (.iface t v) xT t true).run P w = .ok (.tuple #[v,.bool true]) w:=by
 simp [Instr.typeAssert,run_underlying h,go_sem,Result.andThen]
theorem errno_under:Tryz.prog.underlying 42 = some (.int .i64):=by kernel_rfl
section
variable {ops:Array Oper} {Q:Exit→Act→World→Prop} {rest:List Oper} {a:Act} {w:World} {o1:Oper} {dst:Option Tmp} {ty0:TypeId} {pos:String} {aft:Array Edge} {gd:Option (Nat × Bool)}
def AtAssert (P:Program) (ops:Array Oper) (Q:Exit→Act→World→Prop) (o:Oper) (_:Operand) (_ _:TypeId) (_:Bool) (rest:List Oper) (a:Act) (w:World):Prop:=wpList P ops Q (o :: rest) a w
theorem isAssert {P:Program} {t u:TypeId} {x:Operand} {ok:Bool} (h:AtAssert P ops Q ⟨dst,.typeAssert x t u ok,ty0,pos,aft,gd⟩ x t u ok rest a w):wpList P ops Q (⟨dst,.typeAssert x t u ok,ty0,pos,aft,gd⟩ :: rest) a w:=h
theorem AtAssert.errno {x:Operand} {xT:TypeId} {v:Value} (hw:Region.wanted o1 (yielded ops a.tmps) = true) (ho:o1.op = .typeAssert x xT 42 true) (hx:a.eval x = .iface 42 v)
  (h:wpList Tryz.prog ops Q rest (a.put o1.dst (.tuple #[v,.bool true])) w):AtAssert Tryz.prog ops Q o1 x xT 42 true rest a w :=
 wpList_step fun _ hK=>by
  rw [if_pos hw]
  unfold Oper.wp execOp
  simp only [ho,hx,Sem.run_bind,run_assert_int errno_under,Result.andThen_ok]
  exact hK _ _ h
end
theorem num_ev (n:Nat) (w:World):Calls Tryz.prog 32 #[.iface 42 (.int .i64 n)] w fun e w'=>e = .returned (.int .i64 n)∧w' = w:=by
 have H:=St.nil w []
 have HK:=Ks.nil w []
 go_enter Tryz.func32,Tryz.ntmps32
 go_wp2_with (first | refine sL ?_ | ((with_reducible refine isAssert ?_);refine AtAssert.errno rfl rfl rfl ?_;simp only [Act.put,puA,puB,puC]))
 go_ret
 exact ⟨rfl,rfl⟩
theorem is_ev (n k:Nat) (hk:0 < k) (b:Bool) (hb:((n:Int) == (k:Int)) = b) (w:World):Calls Tryz.prog 9 #[.iface 42 (.int .i64 n),.int .i64 k] w fun e w'=>e = .returned (.bool b)∧w' = w:=by
 have H:=St.nil w []
 have HK:=Ks.nil w []
 have HN:=Lib.hid (fun w=>num_ev n w)
 have h0:((k:Int) == 0) = false:=by simp;omega
 have h1:((k:Int) != 0) = true:=by simp;omega
 cases b with
 |false =>
  go_enter Tryz.func9,Tryz.ntmps9
  go_wp2_with (first | refine sL ?_ | (go_at_call 32;with_reducible refine same (HN.out _) ?_))
  go_ret
  exact ⟨rfl,rfl⟩
 |true =>
  go_enter Tryz.func9,Tryz.ntmps9
  go_wp2_with (first | refine sL ?_ | (go_at_call 32;with_reducible refine same (HN.out _) ?_))
  go_ret
  exact ⟨rfl,rfl⟩
def encZ (x:Int):List Value:=[.int .i64 x]
theorem encZ_len (x:Int):(encZ x).length = 1:=rfl
def RowPost (r:List Int) (c n:Nat) (w:World) (e:Ending) (w':World):Prop:=∃ b,e = .returned (.bool b)∧(b = true ↔ (r.length = c∧∀ z∈r,0≤z∧z < n))∧St w [] [] w'
theorem row_c {P:PoolT} {rv:Value} {r:List Int} {c n:Nat} (hr:RowIn P encZ 1 rv r) (hc:c≤256) (hn:n≤8) (w:World) (hp:(poolA P).ho w) :
  Calls Tryz.prog 48 #[rv,.int .i64 c,.int .i64 n] w (RowPost r c n w):=by
 have H:=St.nil w []
 have HK:=Ks.one hp
 obtain ⟨ad,cp,rfl,hm⟩:=hr.shape
 unfold maxLen at hm
 have HR:=Lib.hid hr
 by_cases hl:r.length = c
 ·have h0:((r.length:Int) != (c:Int)) = false:=by simp [hl]
  have h1:((r.length:Int) == (c:Int)) = true:=by simp [hl]
  have HL:=Lib.hid hl
  clear hr hp hl
  go_enter Tryz.func48,Tryz.ntmps48
  go_wp2_with (first | refine sL ?_)
  go_loopw [7] (fun v7 wr=>∃ k:Nat,v7 = .int .i64 k∧k≤c∧(∀ (j:Nat) (z:Int),j < k→r[j]? = some z→0≤z∧z < n)∧St w [] [] wr) (fun v7 _=>c - (intOf v7).toNat)
  case atStart=>exact ⟨0,rfl,Nat.zero_le _,by intro j z hj;omega,H⟩
  case round =>
   clear H
   obtain ⟨k,rfl,hk,hall,H⟩:=hrel
   have HA:=Lib.hid hall
   clear hall
   by_cases hlt:k < c
   ·obtain ⟨z,hz⟩:∃ z,r[k]? = some z:=⟨_,List.getElem?_eq_getElem (by rw [HL.out];exact hlt)⟩
    obtain ⟨g,o,c',he,hrow⟩:=HR.out.has (by rw [HL.out];omega)
    injection he with e1 e2 e3
    subst e1
    have HZ:=Lib.hid hz
    have hkl:=getElem_len hz
    clear hz hrow e2 e3
    by_cases z0:z < 0
    ·have d0:decide (z < 0) = true:=by simpa using z0
     go_wp2_with (first | refine sL ?_ | ((with_reducible refine isLoad ?_);refine AtLoad.cel rfl rfl rfl rfl (HR.out.cell (H.known HK pk) encZ_len HZ.out rfl) ?_;simp only [Act.put,puA,puB,puC]))
     go_ret
     exact ⟨false,rfl,⟨fun h=>(by cases h),fun h=>by have:=h.2 z (List.mem_of_getElem? HZ.out);omega⟩,H⟩
    ·have d0:decide (z < 0) = false:=by simpa using z0
     by_cases zn:(n:Int)≤z
     ·have d1:decide ((n:Int)≤z) = true:=by simpa using zn
      go_wp2_with (first | refine sL ?_ | ((with_reducible refine isLoad ?_);refine AtLoad.cel rfl rfl rfl rfl (HR.out.cell (H.known HK pk) encZ_len HZ.out rfl) ?_;simp only [Act.put,puA,puB,puC]))
      go_ret
      exact ⟨false,rfl,⟨fun h=>(by cases h),fun h=>by have:=h.2 z (List.mem_of_getElem? HZ.out);omega⟩,H⟩
     ·have d1:decide ((n:Int)≤z) = false:=by simpa using zn
      go_wp2_with (first | refine sL ?_ | ((with_reducible refine isLoad ?_);refine AtLoad.cel rfl rfl rfl rfl (HR.out.cell (H.known HK pk) encZ_len HZ.out rfl) ?_;simp only [Act.put,puA,puB,puC]))
      refine ⟨⟨k + 1,by go_num,by omega,fun j y hj hy=>?_,H⟩,by simp [intOf];omega⟩
      rcases Nat.lt_or_ge j k with h | h
      ·exact HA.out j y h hy
      ·obtain rfl:j = k:=by omega
       rw [HZ.out] at hy
       injection hy with hy
       subst hy
       omega
   ·have hke:k = c:=by omega
    subst hke
    go_wp2_with (first | refine sL ?_)
    go_ret
    refine ⟨true,rfl,⟨fun _=>⟨HL.out,fun z hz=>?_⟩,fun _=>rfl⟩,H⟩
    obtain ⟨j,hj⟩:=List.getElem?_of_mem hz
    exact HA.out j z (by have:=getElem_len hj;rw [HL.out] at this;exact this) hj
 ·have h0:((r.length:Int) != (c:Int)) = true:=by simp;omega
  have h1:((r.length:Int) == (c:Int)) = false:=by simp;omega
  have HL:=Lib.hid hl
  clear hr hp hl
  go_enter Tryz.func48,Tryz.ntmps48
  go_wp2_with (first | refine sL ?_)
  go_ret
  exact ⟨false,rfl,⟨fun h=>(by cases h),fun h=>absurd h.1 HL.out⟩,H⟩
end
end Go.Proofs.YtijnhpaafhcndaaGreat
