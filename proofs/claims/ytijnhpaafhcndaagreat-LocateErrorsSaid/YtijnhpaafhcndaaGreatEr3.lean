/-
  Part 3 of the texts behind the statements of this seat: walks and laws Te, Tg, Th, Ti, Tj, Tk, Tl, Su, Tm, Tn, Tq, Tr, Rv, Ts, Pq, Pr, Tt, Ru, Pv. Conditions: as each states.
-/
import Derived.Test.YtijnhpaafhcndaaGreatEr2
import Derived.Deep.LoopGhost
import Derived.Ground.SlgnProg
import Derived.Laws.Bits64b
import Derived.Shelf.SlicesQ.Reverse
set_option linter.unusedSimpArgs false
set_option linter.unusedVariables false
set_option maxRecDepth 100000
set_option maxHeartbeats 80000000
namespace Go.Proofs.YtijnhpaafhcndaaGreat
section
open Go.RowKit Go.Maps
attribute [local go_sem] InGr
def dirT (b:Bool) (l:List Nat):List Nat:=if b then l.reverse else l
def EffAt (P:PoolT) (m:Mc) (l:List Nat) (ev hv:Value):Prop:=RowIn P enc8 1 ev (effE m l)∧RowIn P encI 1 hv (effH m l)
theorem EffAt.mono {P Q:PoolT} {m:Mc} {l:List Nat} {ev hv:Value} (h:EffAt P m l ev hv) (hs:∀ x∈P,x∈Q):EffAt Q m l ev hv:=⟨h.1.mono hs,h.2.mono hs⟩
theorem EffAt.shape {P:PoolT} {m:Mc} {l:List Nat} {ev hv:Value} (h:EffAt P m l ev hv) (hn:1≤m.n):∃ g o c g' o' c',ev = .slice (some ⟨g,o,none⟩) m.n c∧hv = .slice (some ⟨g',o',none⟩) m.n c':=by
 obtain ⟨g,o,c,h1,_⟩:=h.1.hasN (effE_len m l) hn
 obtain ⟨g',o',c',h2,_⟩:=h.2.hasN (effH_len m l) hn
 exact ⟨g,o,c,g',o',c',h1,h2⟩
def encP (p:Value × Value):List Value:=[p.1,p.2]
theorem encP_len (p:Value × Value):(encP p).length = 2:=rfl
structure EntAt (P:PoolT) (m:Mc) (b:Bool) (S:Sto) (i:Nat) (x:En) (ev hv cv:Value):Prop where
 eff:EffAt P m (dirT b (S.txt (i + 1))) ev hv
 plain:x.r.kind≠3→cv = .slice none 0 0
 copies:x.r.kind = 3→∃ cps:List (Value × Value),RowIn P encP 2 cv cps∧1≤cps.length∧cps.length≤64∧x.r.times < 2 ^ cps.length∧∀ (j:Nat) (p:Value × Value),cps[j]? = some p→EffAt P m (dirT b (rep (2 ^ j) (S.txt x.r.left))) p.1 p.2
theorem EntAt.mono {P Q:PoolT} {m:Mc} {b:Bool} {S:Sto} {i:Nat} {x:En} {ev hv cv:Value} (h:EntAt P m b S i x ev hv cv) (hs:∀ x∈P,x∈Q):EntAt Q m b S i x ev hv cv :=
 ⟨h.eff.mono hs,h.plain,fun hk=>by
  obtain ⟨cps,h1,h2,h3,h4,h5⟩:=h.copies hk
  exact ⟨cps,h1.mono hs,h2,h3,h4,fun j p hp=>(h5 j p hp).mono hs⟩⟩
structure Tab where
 p:Nat
 km:Nat
 s:Nat
 mc:Mc
 cv:Value
 nv:Value
 av:Value
 hv:Value
 rvs:List Value
 back:Bool
 P:PoolT
 es:List (Nat × (Value × Value × Value))
def tabCells (T:Tab):Array Value:=#[.pointer (some ⟨T.s,0,none⟩),.int .i64 T.mc.start,T.cv,T.nv,T.av,T.hv,.bool T.back,.map (some T.km)]
def entV (e:Nat × (Value × Value × Value)):Value × Value:=(.int .i64 (e.1:Int),.agg #[e.2.1,e.2.2.1,e.2.2.2])
def tabA (T:Tab):As:=(blk T.p (.cells (tabCells T) 90)).sep ((poolA T.P).sep (mapA Tryz.prog 32 T.km (T.es.map entV)))
def Tab.Known (T:Tab) (i:Nat):Prop:=∃ v,(i,v)∈T.es
structure TabOk (S:Sto) (T:Tab):Prop where
 ok:∃ c,T.mc.Ok c
 mac:MacAt T.P T.cv T.nv T.av T.rvs T.mc
 hits:RowIn T.P encI 1 T.hv T.mc.wts
 ents:∀ e∈T.es,∃ i x,e.1 = i + 1∧S.list[i]? = some x∧EntAt T.P T.mc T.back S i x e.2.1 e.2.2.1 e.2.2.2
 closed:S.Closed T.Known
 uniq:∀ (i:Nat) (v v':Value × Value × Value),(i,v)∈T.es→(i,v')∈T.es→v = v'
theorem tabA_open {T:Tab} {w0 w:World} {M:List Nat} {R:List As} (h:St w0 M (tabA T :: R) w):St w0 M (blk T.p (.cells (tabCells T) 90) :: poolA T.P :: mapA Tryz.prog 32 T.km (T.es.map entV) :: R) w:=by
 unfold tabA at h
 have h1:=h.sep
 have h2:=(h1.pick (.there .here)).sep
 exact h2.pick (.there (.there .here))
theorem tabA_shut {T:Tab} {w0 w:World} {M:List Nat} {R:List As} (h:St w0 M (blk T.p (.cells (tabCells T) 90) :: poolA T.P :: mapA Tryz.prog 32 T.km (T.es.map entV) :: R) w):St w0 M (tabA T :: R) w:=by
 unfold tabA
 have h1:=(h.pick2 (.there .here) (.there .here)).join
 exact (h1.pick (.there .here)).join
theorem tabA_ks {T:Tab} {w:World} (h:(tabA T).ho w):Ks w [] [blk T.p (.cells (tabCells T) 90),poolA T.P,mapA Tryz.prog 32 T.km (T.es.map entV)]:=by
 unfold tabA at h
 have k:=(Ks.one h).sep
 have k2:Ks w [] [(poolA T.P).sep (mapA Tryz.prog 32 T.km (T.es.map entV)),blk T.p (.cells (tabCells T) 90)] :=
  ⟨fun A hA=>k.ho A (by simp at hA ⊢;rcases hA with h | h <;> simp [h]),fun A hA=>k.apart A (by simp at hA ⊢;rcases hA with h | h <;> simp [h])⟩
 have k3:=k2.sep
 exact ⟨fun A hA=>k3.ho A (by simp at hA ⊢;rcases hA with h | h | h <;> simp [h]),fun A hA=>k3.apart A (by simp at hA ⊢;rcases hA with h | h | h <;> simp [h])⟩
attribute [irreducible] tabA
theorem TabOk.shapes {S:Sto} {T:Tab} (h:TabOk S T):∃ gc oc cc gn on cn ga oa ca gh oh ch,T.cv = .slice (some ⟨gc,oc,none⟩) 256 cc∧T.nv = .slice (some ⟨gn,on,none⟩) T.mc.n cn∧T.av = .slice (some ⟨ga,oa,none⟩) T.mc.n ca∧T.hv = .slice (some ⟨gh,oh,none⟩) T.mc.n ch:=by
 obtain ⟨c,ok⟩:=h.ok
 obtain ⟨gc,oc,cc,e1,_⟩:=h.mac.cls.hasN ok.cls (by omega)
 obtain ⟨gn,on,cn,e2,_⟩:=h.mac.next.hasN h.mac.len ok.n1
 obtain ⟨ga,oa,ca,e3,_⟩:=h.mac.acc.hasN ok.acc ok.n1
 obtain ⟨gh,oh,ch,e4,_⟩:=h.hits.hasN ok.wts ok.n1
 exact ⟨gc,oc,cc,gn,on,cn,ga,oa,ca,gh,oh,ch,e1,e2,e3,e4⟩
def NewPost (m:Mc) (s:Nat) (b:Bool) (w:World) (e:Ending) (w':World):Prop:=∃ T:Tab,T.mc = m∧T.s = s∧T.back = b∧T.es = []∧(∀ S,TabOk S T)∧e = .returned (.tuple #[.pointer (some ⟨T.p,0,none⟩),.nilIface])∧St w [] [tabA T] w'
theorem tnew_c {P:PoolT} {cv nv av hv:Value} {rvs:List Value} {m:Mc} {c:Nat} (s:Nat) (b:Bool) (ok:m.Ok c) (h:MacAt P cv nv av rvs m) (hh:RowIn P encI 1 hv m.wts) (w:World) (hp:(poolA P).ho w) :
  Calls Tryz.prog 11 #[.pointer (some ⟨s,0,none⟩),.agg #[.int .i64 m.start,cv,nv,av],hv,.bool b] w (NewPost m s b w):=by
 have HK:=Ks.one hp
 have H:=St.nil w []
 have hn1:=ok.n1
 have hn256:=ok.n256
 have HM:=Lib.hid h
 have HO:=Lib.hid ok
 have HCK:Hid (∀ w,(poolA P).ho w→Calls Tryz.prog 33 #[.agg #[.int .i64 m.start,cv,nv,av]] w fun e w'=>e = .returned .nilIface∧St w [] [] w'):=Lib.hid fun w hp=>mcheck_c ok h w hp
 have HCL:Hid (∀ w,(poolA P).ho w→Calls Tryz.prog 34 #[.agg #[.int .i64 m.start,cv,nv,av]] w fun e w'=>∃ g1 o1 c1 g2 o2 c2 g3 o3 c3 rvs P,e = .returned (.agg #[.int .i64 m.start,.slice (some ⟨g1,o1,none⟩) 256 c1,.slice (some ⟨g2,o2,none⟩) m.n c2,.slice (some ⟨g3,o3,none⟩) m.n c3])∧MacAt P (.slice (some ⟨g1,o1,none⟩) 256 c1) (.slice (some ⟨g2,o2,none⟩) m.n c2) (.slice (some ⟨g3,o3,none⟩) m.n c3) rvs m∧St w [] [poolA P] w'):=Lib.hid fun w hp=>by
  refine (clone_c ok h w hp).mono ?_
  rintro e w' ⟨cv,nv,av,rvs,P,he,hm,hs⟩
  obtain ⟨g1,o1,c1,rfl,_⟩:=hm.cls.hasN ok.cls (by omega)
  obtain ⟨g2,o2,c2,rfl,_⟩:=hm.next.hasN hm.len (by omega)
  obtain ⟨g3,o3,c3,rfl,_⟩:=hm.acc.hasN ok.acc (by omega)
  exact ⟨g1,o1,c1,g2,o2,c2,g3,o3,c3,rvs,P,he,hm,hs⟩
 obtain ⟨gc,oc,cc,rfl,hrc⟩:=h.cls.hasN ok.cls (by omega)
 obtain ⟨gn,on,cn,rfl,hrn⟩:=h.next.hasN h.len (by omega)
 obtain ⟨ga,oa,ca,rfl,hra⟩:=h.acc.hasN ok.acc (by omega)
 obtain ⟨gh,oh,ch,rfl,hrh⟩:=hh.hasN ok.wts (by omega)
 have HC1:Hid (∀ w,(poolA P).ho w→Calls Tryz.prog 35 #[.slice (some ⟨gh,oh,none⟩) m.n ch] w fun e w'=>∃ g d,e = .returned (.slice (some ⟨g,0,none⟩) m.n d)∧m.n≤d∧d≤maxLen∧St w [] [rowsA encI 3 1 (.slice (some ⟨g,0,none⟩) m.n d) m.wts] w'):=Lib.hid fun w hp=>by
  have:=clone_int (P:=P) (xs:=m.wts) (g:=gh) (o:=oh) (c:=ch) (by rw [ok.wts];omega) (by rw [ok.wts];omega) (by rw [ok.wts];exact hrh) w hp
  rw [ok.wts] at this
  refine this.mono ?_
  rintro e w' ⟨g,d,he,h1,h2,h3⟩
  rw [ok.wts] at he h1 h3
  exact ⟨g,d,he,h1,h2,h3⟩
 have HRH:=Lib.hid hrh
 generalize hN:m.n = n at *
 generalize hS:m.start = st at *
 clear h ok hp hrc hrn hra hrh hh
 go_enter Tryz.func11,Tryz.ntmps11
 go_wp2_with (first | refine sL ?_ | (refine sS ?_;clear H;intros;rename_i H) | (go_at_call 33;with_reducible refine Calls.mono (HCK.out _ (H.known HK pk)) ?_;rintro e wc ⟨rfl,hb⟩;replace H:=H.grew hb.below;clear hb))
 rename_i b1 _ _ _
 go_loopw [30] (fun v wr=>∃ j:Nat,v = .int .i64 j∧j≤n∧St w [] [blk b1 (.cells #[.int .i64 st,.slice (some ⟨gc,oc,none⟩) 256 cc,.slice (some ⟨gn,on,none⟩) n cn,.slice (some ⟨ga,oa,none⟩) n ca] 26)] wr) (fun v _=>n - (intOf v).toNat)
 case atStart=>exact ⟨0,rfl,Nat.zero_le _,H⟩
 case round =>
  clear H
  obtain ⟨j,rfl,hj,H⟩:=hrel
  by_cases hltj:j < n
  ·obtain ⟨hx,hxc⟩:=HO.out.wt_get (q:=j) (by omega)
   have HX:=Lib.hid hx
   generalize m.wt j = x at *
   have hx0:decide ((x:Int) < 0) = false:=by simp
   have hxn2:decide (1048576 < x) = false:=by simp;omega
   clear hx
   go_wp2_with (first | refine sL ?_ | (refine sS ?_;clear H;intros;rename_i H) | ((with_reducible refine isLoad ?_);refine AtLoad.cel rfl rfl rfl rfl (HRH.out.cell (H.known HK pk) encI_len HX.out rfl) ?_;simp only [Act.put,puA,puB,puC]))
   exact ⟨⟨j + 1,by go_num,by omega,H⟩,by simp [intOf];omega⟩
  ·go_wp2_with (first | refine sL ?_ | (refine sS ?_;clear H;intros;rename_i H) | (go_at_call 34;with_reducible refine Calls.mono (HCL.out _ (H.known HK pk)) ?_;rintro e wc ⟨g1,o1,c1,g2,o2,c2,g3,o3,c3,rv1,P1,rfl,hma,hb⟩;replace H:=H.call0 hb;have HMA:=Lib.hid hma;clear hb hma;simp only [List.cons_append,List.nil_append] at H) | (go_at_call 35;with_reducible refine Calls.mono (HC1.out _ (H.known HK pk)) ?_;rintro e wc ⟨g5,d5,rfl,_,_,hb⟩;replace H:=H.call0 hb;clear hb;simp only [List.cons_append,List.nil_append] at H) | ((with_reducible refine isMakeMap ?_);refine AtMakeMap.go 32 H rfl rfl ?_;clear H;intro km _ H;simp only [Act.put,puA,puB,puC]))
   rename_i bt _
   subst hS hN
   go_ret2
   obtain ⟨Q,hq,H⟩:=(H.pick (A:=rowsA encI 3 1 (.slice (some ⟨g5,0,none⟩) m.n d5) m.wts) pk).to_pool encI_len
   replace H:=(H.pick (A:=poolA P1) pk).pool_add
   have hl:∀ x∈P1,x∈P1 ++ Q:=fun x hx=>List.mem_append.2 (.inl hx)
   have hr:∀ x∈Q,x∈P1 ++ Q:=fun x hx=>List.mem_append.2 (.inr hx)
   refine ⟨⟨bt,km,s,m,_,_,_,.slice (some ⟨g5,0,none⟩) m.n d5,rv1,b,P1 ++ Q,[]⟩,rfl,rfl,rfl,rfl,fun S=>⟨⟨c,HO.out⟩,HMA.out.mono hl,hq.mono hr,by simp,fun i x hx=>(by obtain ⟨v,hv⟩:=hx;simp at hv),by simp⟩,rfl,?_⟩
   refine (tabA_shut (R:=[blk b1 (.cells #[.int .i64 m.start,.slice (some ⟨gc,oc,none⟩) 256 cc,.slice (some ⟨gn,on,none⟩) m.n cn,.slice (some ⟨ga,oa,none⟩) m.n ca] 26)]) ?_).onlyHead
   exact H.perm (by
    refine (List.Perm.swap _ _ _).trans ((List.Perm.refl _).cons _)
    )
end
section
open Go.RowKit Go.Maps
section
variable {ops:Array Oper} {a:Act} {w w' w0:World} {M:List Nat} {L:List As} {o:Oper} {R:Value→World→Prop}
theorem OneStep.val {P:Program} {v:Value} (hw:Region.wanted o (yielded ops a.tmps) = true) (hr:(execOp a.eval o).run P w = .ok (.value v) w') (hg:Grew w w') (h:R v w'):OneStep P ops o a w R false:=by
 unfold OneStep
 rw [if_pos hw]
 unfold growAt
 rw [hr]
 exact ⟨hg,h,fun h=>by cases h⟩
theorem OneStep.cellT {ty:TypeId} {x:Operand} (hw:Region.wanted o (yielded ops a.tmps) = true) (ho:o.op = .load ty x) {g off:Nat} (hx:a.eval x = .pointer (some ⟨g,off,none⟩)) {cs:Array Value} {t:TypeId} {fr:Nat × Nat} (hg:w.heap[g]? = some (.cells cs t fr))
  (hr:isCellT ty = true) {v:Value} (hv:nth cs.toList off = some v) (h:R v w):OneStep Tryz.prog ops o a w R false :=
 OneStep.val hw (by unfold execOp;simp only [ho,hx,Sem.run_bind,run_load_cell (isCellT_ok hr) hg (by rw [nth_eq] at hv;simpa using hv),Result.andThen_ok];rfl) (Below.refl _ _) h
def IsMk (n0:Nat) (cs:Array Value) (ty:TypeId) (n:Nat) (v:Value) (w:World):Prop:=∃ b,v = .slice (some ⟨b,0,none⟩) n n∧n0≤b∧w.heap[b]? = some (.cells cs ty)
theorem IsMk.stable (n0:Nat) (cs:Array Value) (ty:TypeId) (n:Nat):∀ v w w',Grew w w'→IsMk n0 cs ty n v w→IsMk n0 cs ty n v w':=fun _ _ _ hg ⟨b,hv,hn,hb⟩=>⟨b,hv,hn,block_below' hg hb⟩
def IsMk2 (n0:Nat) (cs:Array Value) (ty:TypeId) (ds:Array Value) (ty2:TypeId) (n:Nat) (v:Value) (w:World):Prop:=∃ p q,v = .agg #[p,q]∧IsMk n0 cs ty n p w∧IsMk n0 ds ty2 n q w
theorem IsMk2.stable (n0:Nat) (cs:Array Value) (ty:TypeId) (ds:Array Value) (ty2:TypeId) (n:Nat):∀ v w w',Grew w w'→IsMk2 n0 cs ty ds ty2 n v w→IsMk2 n0 cs ty ds ty2 n v w':=fun _ _ _ hg ⟨p,q,h,h1,h2⟩=>⟨p,q,h,IsMk.stable _ _ _ _ _ _ _ hg h1,IsMk.stable _ _ _ _ _ _ _ hg h2⟩
theorem OneStep.makeT {t e:TypeId} {x y:Operand} {n n0:Nat} {z:Value} {bytes:Nat} (hw:Region.wanted o (yielded ops a.tmps) = true) (ho:o.op = .makeSlice t x y) (hx:a.eval x = .int .i64 (n:Int)) (hy:a.eval y = .int .i64 (n:Int)) (hte:sliceO t = some e) (hi:infoO e = some (z,1,bytes)) (hz:z.cells = #[z]) (hn:n * bytes≤281474976710656) (h63:n≤16777216) (h0:n0≤w.heap.size):OneStep Tryz.prog ops o a w (IsMk n0 (madeCells #[z] n) e n) false:=by
 obtain ⟨i,h2,h3,h4,h5⟩:=infoO_ok hi
 have hb3:(bytes:Int) * (n:Int)≤281474976710656:=by
  have h9:((n * bytes:Nat):Int)≤281474976710656:=by omega
  rw [Nat.mul_comm] at h9
  rwa [Int.natCast_mul] at h9
 have hrun:=run_makeSlice (P:=Tryz.prog) (w:=w) t e i z (sliceO_ok hte) h2 h3 .i64 .i64 n n (by omega) (Int.le_refl _) (by rw [h4];simp;omega) (by rw [h5];exact hb3) (by omega)
 refine OneStep.val (w':=w.alloc (.cells (madeCells #[z] n) e)) (v:=.slice (some ⟨w.heap.size,0,none⟩) n n) hw ?_ (grew_alloc _ _) ⟨w.heap.size,rfl,h0,heap1 _ _⟩
 unfold execOp
 rw [hz,h4] at hrun
 simp only [Int.toNat_natCast,Nat.mul_one] at hrun
 simp only [ho,hx,hy,Sem.run_bind,hrun,Result.andThen_ok,Sem.run_pure]
theorem OneStep.allocT {ty:TypeId} {n0:Nat} (hw:Region.wanted o (yielded ops a.tmps) = true) (ho:o.op = .alloc ty) {z:Value} (hz:zO ty = some z) {cs:Array Value} (hc:cellsO z = some cs) (h0:n0≤w.heap.size):OneStep Tryz.prog ops o a w (IsBoxN n0 cs ty) false :=
 OneStep.val hw (by unfold execOp;simp only [ho,Instr.alloc,Sem.run_bind,zO_ok hz,Result.andThen_ok,newVar,newRow,cellsO_eq hc,run_newObj_alloc,Sem.run_pure]) (grew_alloc _ _) ⟨w.heap.size,rfl,h0,heap1 _ _⟩
theorem St.take_in {b:Nat} {ob:Obj} (H:St w0 M L w) (h0:w0.heap.size≤b) (hb:w.heap[b]? = some ob) (hL:∀ A∈L,b ∉ A.fp):St w0 M (blk b ob :: L) w :=
 ⟨H.os,H.tape,H.output,H.size,H.keep,fun A hA=>by
  rcases List.mem_cons.1 hA with rfl | hA
  ·rw [blk_ho];exact hb
  ·exact H.ho A hA,fun A hA c hc=>by
  rcases List.mem_cons.1 hA with rfl | hA
  ·rw [blk_fp] at hc;simp at hc;subst hc;exact .inl h0
  ·exact H.own A hA c hc,List.pairwise_cons.2 ⟨fun A hA c hc=>by rw [blk_fp] at hc;simp at hc;subst hc;exact hL A hA,H.dis⟩⟩
theorem ne_of_types {b c:Nat} {cs ds:Array Value} {t t':TypeId} (hb:w.heap[b]? = some (.cells cs t)) (hc:w.heap[c]? = some (.cells ds t')) (h:t≠t'):b≠c:=by
 intro e
 subst e
 rw [hb] at hc
 injection hc with hc
 injection hc with _ h2
 exact h h2
theorem St.take_three {ws:World} {n:Nat} {cs ds es:Array Value} {t t2 t3:TypeId} {v u:Value} (H:St w0 M L ws) (hg:Grew ws w) (h1:t≠t2) (h2:t≠t3) (h3:t2≠t3) (hv:IsMk2 ws.heap.size cs t ds t2 n v w) (hu:IsBoxN ws.heap.size es t3 u w) :
  ∃ b c d,v = .agg #[.slice (some ⟨b,0,none⟩) n n,.slice (some ⟨c,0,none⟩) n n]∧u = .pointer (some ⟨d,0,none⟩)∧St w0 M (blk d (.cells es t3) :: blk b (.cells cs t) :: blk c (.cells ds t2) :: L) w:=by
 obtain ⟨p,q,rfl,⟨b,rfl,hb0,hb⟩,⟨c,rfl,hc0,hc⟩⟩:=hv
 obtain ⟨d,rfl,hd0,hd⟩:=hu
 refine ⟨b,c,d,rfl,rfl,?_⟩
 have HL:∀ A∈L,∀ x∈A.fp,x < ws.heap.size:=fun A hA x hx=>H.fpLt hA x hx
 have hsz:=H.size
 have H1:=(H.grew hg).take_in (b:=c) (by omega) hc fun A hA h=>by have:=HL A hA c h;omega
 have H2:=H1.take_in (b:=b) (by omega) hb fun A hA h=>by
  rcases List.mem_cons.1 hA with rfl | hA
  ·rw [blk_fp] at h;simp at h;exact ne_of_types hb hc h1 h
  ·have:=HL A hA b h;omega
 exact H2.take_in (b:=d) (by omega) hd fun A hA h=>by
  rcases List.mem_cons.1 hA with rfl | hA
  ·rw [blk_fp] at h;simp at h;exact ne_of_types hb hd h2 h.symm
  ·rcases List.mem_cons.1 hA with rfl | hA
   ·rw [blk_fp] at h;simp at h;exact ne_of_types hc hd h3 h.symm
   ·have:=HL A hA d h;omega
end
end
section
open Go.RowKit Go.Maps
attribute [local go_sem] InGr
theorem run_c {P:PoolT} {m:Mc} {l:List Nat} {ev hv:Value} {c:Nat} (ok:m.Ok c) (hl:∀ b∈l,b < 256) (h:EffAt P m l ev hv) {q:Nat} (hq:q < m.n) {k:Nat} (hk:k≤beyond) (w:World) (hp:(poolA P).ho w) :
  Calls Tryz.prog 68 #[.agg #[ev,hv],.int .i64 q,.int .i64 k] w fun e w'=>e = .returned (.tuple #[.int .i64 (m.ends q l),.int .i64 (capN (k + m.sum q l))])∧St w [] [] w':=by
 have HK:=Ks.one hp
 have H:=St.nil w []
 have he:=effE_get hq l
 have hh:=effH_get hq l
 have hle:=effH_le m l _ (List.mem_of_getElem? hh)
 have hlt:=ok.ends_lt hq hl
 have hn256:=ok.n256
 have HC:=Lib.hid (show capN (k + m.sum q l) = min (k + capN (m.sum q l)) beyond from by unfold capN;omega)
 obtain ⟨ge,oe,ce,gh,oh,ch,rfl,rfl⟩:=h.shape ok.n1
 have H1:=Lib.hid h.1
 have H2:=Lib.hid h.2
 generalize hN:m.n = n at *
 generalize m.ends q l = e at *
 generalize capN (m.sum q l) = x at *
 generalize capN (k + m.sum q l) = y at *
 have HE:=Lib.hid he
 have HH:=Lib.hid hh
 unfold beyond at hk hle
 clear h ok hp he hh hl
 go_enter Tryz.func68,Tryz.ntmps68
 go_wp2_with (first | refine sL ?_ | (refine sS ?_;clear H;intros;rename_i H))
 refine wp_region_h H 16 [] [] (by kernel_rfl) (by kernel_rfl) ?_
 apply Exists.intro
 refine ⟨fun w1 hw1 HX=>?_,fun bs wr Hr=>?_⟩
 ·refine sG ?_
  repeat (first | refine sQ ?_ | ((with_reducible refine isQLoad ?_);refine QtLoad.cel rfl rfl rfl rfl (fun y=>H1.out.cell ((HX y).known HK pk) enc8_len HE.out rfl) ?_;simp only [Act.put,puA,puB,puC]) | ((with_reducible refine isQLoad ?_);refine QtLoad.cel rfl rfl rfl rfl (fun y=>H2.out.cell ((HX y).known HK pk) encI_len HH.out rfl) ?_;simp only [Act.put,puA,puB,puC]) | go_big_quiet_step (fail))
  exact wpQuiet_nil rfl
 clear H
 have H:=Hr
 clear Hr
 replace H:=sH H;refine sT ?_
 go_wp2_with (first | refine sL ?_ | (refine sS ?_;clear H;intros;rename_i H))
 have hy:((y:Nat):Int) = min ((k:Int) + x) 1152921504606846977:=by rw [HC.out];unfold beyond;omega
 go_ret2
 exact ⟨by rw [hy];rfl,H.nix⟩
theorem St.made_rows {α:Type} {enc:α→List Value} {w0 w:World} {M:List Nat} {R:List As} {b n:Nat} {z:Value} {e:TypeId} (h:St w0 M (blk b (.cells (madeCells #[z] n) e) :: R) w) (z0:α) (hz0:enc z0 = [z]) (hk:∀ x,(enc x).length = 1) (hn:n≤maxLen):St w0 M (rowsA enc e 1 (.slice (some ⟨b,0,none⟩) n n) (List.replicate n z0) :: R) w:=by
 refine h.conv (by rw [rowsA_fp',blk_fp];rfl) fun hb=>?_
 rw [blk_ho] at hb
 have:=rowsA_of_blk (enc:=enc) (k:=1) (xs:=List.replicate n z0) hb (by simpa using hn) (by rw [toList_madeCells_one,flatG_one hk];simp [hz0]) hk
 simpa using this
theorem fill_take {xs:List Nat} {j n x:Nat} (hx:xs[j]? = some x) (hn:xs.length = n):(xs.take j ++ List.replicate (n - j) 0).set j x = xs.take (j + 1) ++ List.replicate (n - (j + 1)) 0:=by
 have hj:=getElem_len hx
 rw [fill_next (k:=j) (by simp;omega) (by omega),List.take_add_one,hx]
 rfl
attribute [local go_sem] OneStep growAt growUpon in
theorem join_c {P:PoolT} {m:Mc} {la lb:List Nat} {ea ha eb hb:Value} {c:Nat} (ok:m.Ok c) (hla:∀ b∈la,b < 256) (hlb:∀ b∈lb,b < 256) (hA:EffAt P m la ea ha) (hB:EffAt P m lb eb hb) (w:World) (hp:(poolA P).ho w) :
  Calls Tryz.prog 101 #[.agg #[ea,ha],.agg #[eb,hb]] w fun e w'=>∃ ev hv P',e = .returned (.agg #[ev,hv])∧EffAt P' m (la ++ lb) ev hv∧St w [] [poolA P'] w':=by
 have HK:=Ks.one hp
 have H:=St.nil w []
 have hn256:=ok.n256
 have hn1:=ok.n1
 have HRUN:Hid (∀ (q k:Nat),q < m.n→k≤beyond→∀ w,(poolA P).ho w→Calls Tryz.prog 68 #[.agg #[eb,hb],.int .i64 q,.int .i64 k] w fun e w'=>e = .returned (.tuple #[.int .i64 (m.ends q lb),.int .i64 (capN (k + m.sum q lb))])∧St w [] [] w'):=Lib.hid fun q k hq hk w hp=>run_c ok hlb hB hq hk w hp
 obtain ⟨ge,oe,ce,gh,oh,ch,rfl,rfl⟩:=hA.shape ok.n1
 obtain ⟨ge2,oe2,ce2,gh2,oh2,ch2,rfl,rfl⟩:=hB.shape ok.n1
 have H1:=Lib.hid hA.1
 have H2:=Lib.hid hA.2
 have HSE:Hid (∀ j,j < m.n→(effE m la)[j]? = some (m.ends j la)∧(effH m la)[j]? = some (capN (m.sum j la))∧(effE m (la ++ lb))[j]? = some (m.ends (m.ends j la) lb)∧(effH m (la ++ lb))[j]? = some (capN (capN (m.sum j la) + m.sum (m.ends j la) lb))∧m.ends j la < m.n∧m.ends (m.ends j la) lb < m.n):=Lib.hid fun j hj=>by
  have h1:=ok.ends_lt hj hla
  refine ⟨effE_get hj _,effH_get hj _,by rw [effE_get hj,Mc.ends_append],?_,h1,ok.ends_lt h1 hlb⟩
  rw [effH_get hj,Mc.sum_append]
  unfold capN
  congr 1;omega
 have hE:=Lib.hid (effE_len m (la ++ lb))
 have hH:=Lib.hid (effH_len m (la ++ lb))
 generalize hEE:effE m (la ++ lb) = E at *
 generalize hHH:effH m (la ++ lb) = Hs at *
 generalize hN:m.n = n at *
 clear hp hA hB
 go_enter Tryz.func101,Tryz.ntmps101
 go_wp2_with (first | refine sL ?_ | (refine sS ?_;clear H;intros;rename_i H))
 rename_i b2 _ b3 _ b4 wz K0 hK0
 refine wp_region_grows 10 [IsV (.pointer (some ⟨b2,0,none⟩)),IsV (.slice (some ⟨ge,oe,none⟩) n ce),IsV (.int .i64 n),IsMk wz.heap.size (madeCells #[.int .u8 0] n) 5 n,IsV (.pointer (some ⟨b2,0,none⟩)),IsV (.slice (some ⟨ge,oe,none⟩) n ce),IsV (.int .i64 n),IsMk wz.heap.size (madeCells #[.int .i64 0] n) 3 n,IsMk2 wz.heap.size (madeCells #[.int .u8 0] n) 5 (madeCells #[.int .i64 0] n) 3 n,IsBoxN wz.heap.size #[.slice none 0 0,.slice none 0 0] 147] [] [[],[(0,9)],[(1,10)],[(2,11)],[],[(4,13)],[(5,14)],[(6,15)],[(3,12),(7,16)],[]] [(0,9),(1,10),(2,11),(3,12),(4,13),(5,14),(6,15),(7,16),(8,17),(9,5)] (by kernel_rfl) (by kernel_rfl) rfl ⟨IsV.stable _,IsV.stable _,IsV.stable _,IsMk.stable _ _ _ _,IsV.stable _,IsV.stable _,IsV.stable _,IsMk.stable _ _ _ _,IsMk2.stable _ _ _ _ _ _,IsBoxN.stable _ _ _,trivial⟩ ⟨?o0,?o1,?o2,?o3,?o4,?o5,?o6,?o7,?o8,?o9,trivial⟩ ?fin
 case o0 =>
  intro vals w' hg hd
  clear hd
  simp only [putS,List.foldl_nil,List.foldl_cons,Act.put,List.setIfInBounds_toArray,List.set_cons_zero,List.set_cons_succ]
  clear hg 
  go_simp
  try go_bits
  exact isV_mk _ _
 case o1 =>
  intro vals w' hg hd
  have h0:vals 0 = .pointer (some ⟨b2,0,none⟩):=hd.1
  clear hd
  simp only [putS,List.foldl_nil,List.foldl_cons,Act.put,List.setIfInBounds_toArray,List.set_cons_zero,List.set_cons_succ,h0]
  have Hg:=H.grew hg
  exact OneStep.cellT rfl rfl rfl (Hg.at pk) rfl rfl rfl
 case o2 =>
  intro vals w' hg hd
  have h1:vals 1 = .slice (some ⟨ge,oe,none⟩) n ce:=hd.1
  clear hd
  simp only [putS,List.foldl_nil,List.foldl_cons,Act.put,List.setIfInBounds_toArray,List.set_cons_zero,List.set_cons_succ,h1]
  clear hg h1
  go_simp
  try go_bits
  exact isV_mk _ _
 case o3 =>
  intro vals w' hg hd
  have h2:vals 2 = .int .i64 n:=hd.1
  clear hd
  simp only [putS,List.foldl_nil,List.foldl_cons,Act.put,List.setIfInBounds_toArray,List.set_cons_zero,List.set_cons_succ,h2]
  exact OneStep.makeT (bytes:=1) rfl rfl rfl rfl rfl rfl rfl (by omega) (by omega) hg.size
 case o4 =>
  intro vals w' hg hd
  clear hd
  simp only [putS,List.foldl_nil,List.foldl_cons,Act.put,List.setIfInBounds_toArray,List.set_cons_zero,List.set_cons_succ]
  clear hg 
  go_simp
  try go_bits
  exact isV_mk _ _
 case o5 =>
  intro vals w' hg hd
  have h4:vals 4 = .pointer (some ⟨b2,0,none⟩):=hd.1
  clear hd
  simp only [putS,List.foldl_nil,List.foldl_cons,Act.put,List.setIfInBounds_toArray,List.set_cons_zero,List.set_cons_succ,h4]
  have Hg:=H.grew hg
  exact OneStep.cellT rfl rfl rfl (Hg.at pk) rfl rfl rfl
 case o6 =>
  intro vals w' hg hd
  have h5:vals 5 = .slice (some ⟨ge,oe,none⟩) n ce:=hd.1
  clear hd
  simp only [putS,List.foldl_nil,List.foldl_cons,Act.put,List.setIfInBounds_toArray,List.set_cons_zero,List.set_cons_succ,h5]
  clear hg h5
  go_simp
  try go_bits
  exact isV_mk _ _
 case o7 =>
  intro vals w' hg hd
  have h6:vals 6 = .int .i64 n:=hd.1
  clear hd
  simp only [putS,List.foldl_nil,List.foldl_cons,Act.put,List.setIfInBounds_toArray,List.set_cons_zero,List.set_cons_succ,h6]
  exact OneStep.makeT (bytes:=8) rfl rfl rfl rfl rfl rfl rfl (by omega) (by omega) hg.size
 case o8 =>
  intro vals w' hg hd
  have h3:=hd.1
  have h7:=hd.2.1
  clear hd
  simp only [putS,List.foldl_nil,List.foldl_cons,Act.put,List.setIfInBounds_toArray,List.set_cons_zero,List.set_cons_succ]
  refine OneStep.val (v:=.agg #[vals 3,vals 7]) rfl ?_ (Below.refl _ _) ⟨vals 3,vals 7,rfl,h3,h7⟩
  obtain ⟨x3,e3,_⟩:IsMk _ _ _ _ (vals 3) w':=h3
  obtain ⟨x7,e7,_⟩:IsMk _ _ _ _ (vals 7) w':=h7
  rw [e3,e7]
  clear hg e3 e7
  go_simp
  trace_state
 case o9 =>
  intro vals w' hg hd
  clear hd
  simp only [putS,List.foldl_nil,List.foldl_cons,Act.put,List.setIfInBounds_toArray,List.set_cons_zero,List.set_cons_succ]
  exact OneStep.allocT rfl rfl rfl rfl hg.size
 case fin =>
  intro vals w' hg hd _
  have h0:vals 0 = _:=hd.1
  have h1:vals 1 = _:=hd.2.1
  have h2:vals 2 = _:=hd.2.2.1
  have h4:vals 4 = _:=hd.2.2.2.2.1
  have h5:vals 5 = _:=hd.2.2.2.2.2.1
  have h6:vals 6 = _:=hd.2.2.2.2.2.2.1
  have h8:=hd.2.2.2.2.2.2.2.2.1
  have h9:=hd.2.2.2.2.2.2.2.2.2.1
  clear hd
  obtain ⟨be,bh,b5,e8,e9,H⟩:=H.take_three hg (by decide) (by decide) (by decide) h8 h9
  replace e8:vals 8 = _:=e8
  replace e9:vals 9 = _:=e9
  generalize vals 3 = v3
  generalize vals 7 = v7
  simp only [putS,List.foldl_nil,List.foldl_cons,Act.put,List.setIfInBounds_toArray,List.set_cons_zero,List.set_cons_succ,List.drop_succ_cons,List.drop_zero,h0,h1,h2,h4,h5,h6,e8,e9]
  clear h0 h1 h2 h4 h5 h6 e8 e9
  go_wp2_with (first | refine sL ?_ | (refine sS ?_;clear H;intros;rename_i H))
  replace H:=(H.pick (A:=blk bh (.cells (madeCells #[.int .i64 0] n) 3)) pk).made_rows (enc:=encI) 0 rfl encI_len (by simp [maxLen];omega)
  replace H:=(H.pick (A:=blk be (.cells (madeCells #[.int .u8 0] n) 5)) pk).made_rows (enc:=enc8) 0 rfl enc8_len (by simp [maxLen];omega)
  go_loopw [21] (fun v wr=>∃ j:Nat,v = .int .i64 j∧j≤n∧St w [] [rowsA enc8 5 1 (.slice (some ⟨be,0,none⟩) n n) (E.take j ++ List.replicate (n - j) 0),rowsA encI 3 1 (.slice (some ⟨bh,0,none⟩) n n) (Hs.take j ++ List.replicate (n - j) 0),blk b5 (.cells #[.slice (some ⟨be,0,none⟩) n n,.slice (some ⟨bh,0,none⟩) n n] 147),blk b4 (.cells #[.slice none 0 0,.slice none 0 0] 147),blk b3 (.cells #[.slice (some ⟨ge2,oe2,none⟩) n ce2,.slice (some ⟨gh2,oh2,none⟩) n ch2] 147),blk b2 (.cells #[.slice (some ⟨ge,oe,none⟩) n ce,.slice (some ⟨gh,oh,none⟩) n ch] 147)] wr) (fun v _=>n - (intOf v).toNat)
  case atStart=>exact ⟨0,rfl,Nat.zero_le _,by simpa using H⟩
  case round =>
   clear H
   obtain ⟨j,rfl,hj,H⟩:=hrel
   by_cases hltj:j < n
   ·obtain ⟨h1,h2,h3,h4,h5,h6⟩:=HSE.out j hltj
    have hk1:=capN_le (m.sum j la)
    have HR:=Lib.hid (HRUN.out (m.ends j la) (capN (m.sum j la)) h5 hk1)
    generalize hq1:m.ends j la = q1 at *
    generalize hk2:capN (m.sum j la) = k1 at *
    generalize m.ends q1 lb = q2 at *
    generalize capN (k1 + m.sum q1 lb) = k2 at *
    have HX1:=Lib.hid h1
    have HX2:=Lib.hid h2
    have HX3:=Lib.hid h3
    have HX4:=Lib.hid h4
    unfold beyond at hk1
    clear h1 h2 h3 h4 hq1 hk2
    go_wp2_with (first | refine sL ?_ | (refine sS ?_;clear H;intros;rename_i H))
    refine wp_region_h H 18 [] [] (by kernel_rfl) (by kernel_rfl) ?_
    apply Exists.intro
    refine ⟨fun w1 hw1 HX=>?_,fun bs wr Hr=>?_⟩
    ·refine sG ?_
     repeat (first | refine sQ ?_ | ((with_reducible refine isQLoad ?_);refine QtLoad.cel rfl rfl rfl rfl (fun y=>H1.out.cell ((HX y).known HK pk) enc8_len HX1.out rfl) ?_;simp only [Act.put,puA,puB,puC]) | ((with_reducible refine isQLoad ?_);refine QtLoad.cel rfl rfl rfl rfl (fun y=>H2.out.cell ((HX y).known HK pk) encI_len HX2.out rfl) ?_;simp only [Act.put,puA,puB,puC]) | go_big_quiet_step ((go_at_call 68;with_reducible exact quiet_st_x (HR.out _ ((HX _).known HK pk)))) | go_big_quiet_step (fail))
     exact wpQuiet_nil rfl
    clear H
    have H:=Hr
    clear Hr
    replace H:=sH H;refine sT ?_
    go_wp2_with (first | refine sL ?_ | (refine sS ?_;clear H;intros;rename_i H) | ((with_reducible refine isStore ?_);first | (refine AtStore.rowA (enc:=enc8) (n:=n) (c:=n) H rfl rfl rfl rfl rfl rfl pk _ rfl enc8_len ?bd ?_;(case bd=>rw [fill_len (by rw [List.length_take,hE.out];omega) hj];exact hltj);clear H;intro _ H;simp only [Act.put,puA,puB,puC]) | (refine AtStore.rowA (enc:=encI) (n:=n) (c:=n) H rfl rfl rfl rfl rfl rfl pk _ rfl encI_len ?bd ?_;(case bd=>rw [fill_len (by rw [List.length_take,hH.out];omega) hj];exact hltj);clear H;intro _ H;simp only [Act.put,puA,puB,puC])))
    rw [fill_take HX3.out hE.out,fill_take HX4.out hH.out] at H
    refine ⟨⟨j + 1,by go_num,by omega,H.pick (A:=rowsA enc8 5 1 (.slice (some ⟨be,0,none⟩) n n) (E.take (j + 1) ++ List.replicate (n - (j + 1)) 0)) pk⟩,by simp [intOf];omega⟩
   ·obtain rfl:n = j:=by omega
    go_wp2_with (first | refine sL ?_ | (refine sS ?_;clear H;intros;rename_i H))
    refine bodyPost_ret (res_row rfl H rfl pk rfl) rfl ?_
    have t1:E.take n ++ List.replicate (n - n) 0 = E:=by rw [List.take_of_length_le (by rw [hE.out];omega)];simp
    have t2:Hs.take n ++ List.replicate (n - n) 0 = Hs:=by rw [List.take_of_length_le (by rw [hH.out];omega)];simp
    rw [t1,t2] at H
    obtain ⟨Q1,q1,H⟩:=H.to_pool enc8_len
    obtain ⟨Q2,q2,H⟩:=(H.pick (A:=rowsA encI 3 1 (.slice (some ⟨bh,0,none⟩) n n) Hs) pk).to_pool encI_len
    replace H:=H.pool_add
    exact ⟨_,_,_,rfl,⟨by rw [hEE];exact q1.mono fun x hx=>List.mem_append.2 (.inr hx),by rw [hHH];exact q2.mono fun x hx=>List.mem_append.2 (.inl hx)⟩,H.onlyHead⟩
end
section
open Go.RowKit Go.Maps
theorem entV_mem {T:Tab} {i:Nat} {v:Value} (h:(Value.int .i64 (i:Int),v)∈T.es.map entV):∃ e,(i,e)∈T.es∧v = .agg #[e.1,e.2.1,e.2.2]:=by
 obtain ⟨⟨j,e⟩,hm,he⟩:=List.mem_map.1 h
 simp only [entV,Prod.mk.injEq,Value.int.injEq,true_and,Int.natCast_inj] at he
 obtain ⟨rfl,he⟩:=he
 exact ⟨e,hm,he.symm⟩
theorem id_key {i:Nat} (hi:i≤1048577):∃ l,keyOf Tryz.prog 32 (.int .i64 (i:Int)) = some l:=by
 refine ⟨_,keyOf_int_mk (q:=.i64) un_32 (wf_i64 i (by omega))⟩
theorem look_known {S:Sto} {T:Tab} (hT:TabOk S T) {i:Nat} (hi:i≤1048577) {e:Value × Value × Value} (he:(i,e)∈T.es) {w:World} (h:(mapA Tryz.prog 32 T.km (T.es.map entV)).ho w) (ok:Bool) :
  (Instr.lookup 88 (.map (some T.km)) (.int .i64 (i:Int)) ok).run Tryz.prog w = .ok (if ok then .tuple #[.agg #[e.1,e.2.1,e.2.2],.bool true] else .agg #[e.1,e.2.1,e.2.2]) w:=by
 obtain ⟨l,hl⟩:=id_key hi
 obtain ⟨v,b,hf,hr⟩:=run_lookup_st keyed_32 h mt_88 hl (fun w=>zO_ok (t:=150) (z:=.agg #[.slice none 0 0,.slice none 0 0,.slice none 0 0]) rfl w) ok
 rw [hr]
 rcases hf with ⟨rfl,hm⟩ | ⟨rfl,_,hn⟩
 ·obtain ⟨e',he',rfl⟩:=entV_mem hm
  rw [hT.uniq i e e' he he']
 ·exact absurd rfl (hn _ (List.mem_map.2 ⟨(i,e),he,rfl⟩))
theorem look_unknown {T:Tab} {i:Nat} (hi:i≤1048577) (hn:¬ T.Known i) {w:World} (h:(mapA Tryz.prog 32 T.km (T.es.map entV)).ho w) (ok:Bool) :
  (Instr.lookup 88 (.map (some T.km)) (.int .i64 (i:Int)) ok).run Tryz.prog w = .ok (if ok then .tuple #[.agg #[.slice none 0 0,.slice none 0 0,.slice none 0 0],.bool false] else .agg #[.slice none 0 0,.slice none 0 0,.slice none 0 0]) w:=by
 obtain ⟨l,hl⟩:=id_key hi
 obtain ⟨v,b,hf,hr⟩:=run_lookup_st keyed_32 h mt_88 hl (fun w=>zO_ok (t:=150) (z:=.agg #[.slice none 0 0,.slice none 0 0,.slice none 0 0]) rfl w) ok
 rw [hr]
 rcases hf with ⟨rfl,hm⟩ | ⟨rfl,rfl,_⟩
 ·obtain ⟨e',he',_⟩:=entV_mem hm
  exact absurd ⟨e',he'⟩ hn
 ·rfl
section
variable {ops:Array Oper} {Q:Exit→Act→World→Prop} {rest:List Oper} {a:Act} {w w0 w1:World} {o o1:Oper} {ty:TypeId} {x y:Operand} {Rr:Value→World→Prop} {K:Act→Prop} {dst:Option Tmp} {ty0:TypeId} {pos:String} {aft:Array Edge} {gd:Option (Nat × Bool)}
theorem StStep.look {T:TypeId} {ok:Bool} {m:Nat} {v r:Value} (hw:Region.wanted o (yielded ops a.tmps) = true) (ho:o.op = .lookup T x y ok) (hx:a.eval x = .map (some m)) (hy:a.eval y = v) (hr:(Instr.lookup T (.map (some m)) v ok).run Tryz.prog w = .ok r w) (h:Rr r w):StStep Tryz.prog ops o a w Rr :=
 StStep.val hw (by unfold execOp;simp only [ho,hx,hy,Sem.run_bind,hr,Result.andThen_ok];rfl) h
theorem StStep.fieldR {f:Nat} (hw:Region.wanted o (yielded ops a.tmps) = true) (ho:o.op = .field ty x f) {cs:Array Value} (hx:a.eval x = .agg cs) {ft off:Nat} (hf:fldO ty f = some (ft,off)) {n:Nat} (hs:szO ft = some n) {vs:List Value} (hl:segO cs.toList off n = some vs) (h:Rr (.agg vs.toArray) w):StStep Tryz.prog ops o a w Rr :=
 StStep.val hw (by unfold execOp;simp only [ho,hx,Sem.run_bind,run_field (fldO_ok hf) cs w,run_part_row (szO_ok hs) hl w,Result.andThen_ok];rfl) h
def QtField (P:Program) (ops:Array Oper) (C:World→Prop) (K:Act→Prop) (o:Oper) (_:TypeId) (_:Operand) (_:Nat) (rest:List Oper) (a:Act):Prop:=wpQuiet P ops C K (o :: rest) a
theorem isQField {P:Program} {C:World→Prop} {t:TypeId} {x:Operand} {f:Nat} (h:QtField P ops C K ⟨dst,.field t x f,ty0,pos,aft,gd⟩ t x f rest a):wpQuiet P ops C K (⟨dst,.field t x f,ty0,pos,aft,gd⟩ :: rest) a:=h
theorem QtField.rowT {f:Nat} (hw:Region.wanted o1 (yielded ops a.tmps) = true) (ho:o1.op = .field ty x f) {cs:Array Value} (hx:a.eval x = .agg cs) {ft off:Nat} (hf:fldO ty f = some (ft,off)) {n:Nat} (hs:szO ft = some n) {vs:List Value} (hl:segO cs.toList off n = some vs)
  (h:wpQuiet Tryz.prog ops (InGr w1) K rest (a.put o1.dst (.agg vs.toArray))):QtField Tryz.prog ops (InGr w1) K o1 ty x f rest a :=
 wpQuiet_step fun _ hK=>by
  rw [if_pos hw]
  refine ⟨.agg vs.toArray,fun w2 ⟨z,hz⟩=>?_,hK _ h⟩
  subst hz
  unfold Oper.quietAt execOp
  simp only [ho,hx,Sem.run_bind,run_field (fldO_ok hf) cs z.1,run_part_row (szO_ok hs) hl z.1,Result.andThen_ok]
  exact ⟨rfl,rfl⟩
theorem QtField.cellT {f:Nat} (hw:Region.wanted o1 (yielded ops a.tmps) = true) (ho:o1.op = .field ty x f) {cs:Array Value} (hx:a.eval x = .agg cs) {ft off:Nat} (hf:fldO ty f = some (ft,off)) (hs:isCellT ft = true) {v:Value} (hl:nth cs.toList off = some v)
  (h:wpQuiet Tryz.prog ops (InGr w1) K rest (a.put o1.dst v)):QtField Tryz.prog ops (InGr w1) K o1 ty x f rest a :=
 wpQuiet_step fun _ hK=>by
  rw [if_pos hw]
  refine ⟨v,fun w2 ⟨z,hz⟩=>?_,hK _ h⟩
  subst hz
  unfold Oper.quietAt execOp
  simp only [ho,hx,Sem.run_bind,run_field (fldO_ok hf) cs z.1,run_part_cell (isCellT_ok hs) hl z.1,Result.andThen_ok]
  exact ⟨rfl,rfl⟩
def AtLook (P:Program) (ops:Array Oper) (Q:Exit→Act→World→Prop) (o:Oper) (_:TypeId) (_ _:Operand) (_:Bool) (rest:List Oper) (a:Act) (w:World):Prop:=wpList P ops Q (o :: rest) a w
theorem isLook {P:Program} {t:TypeId} {x y:Operand} {ok:Bool} (h:AtLook P ops Q ⟨dst,.lookup t x y ok,ty0,pos,aft,gd⟩ t x y ok rest a w):wpList P ops Q (⟨dst,.lookup t x y ok,ty0,pos,aft,gd⟩ :: rest) a w:=h
theorem AtLook.go {T:TypeId} {ok:Bool} {m:Nat} {v r:Value} (hw:Region.wanted o1 (yielded ops a.tmps) = true) (ho:o1.op = .lookup T x y ok) (hx:a.eval x = .map (some m)) (hy:a.eval y = v) (hr:(Instr.lookup T (.map (some m)) v ok).run Tryz.prog w = .ok r w)
  (h:wpList Tryz.prog ops Q rest (a.put o1.dst r) w):AtLook Tryz.prog ops Q o1 T x y ok rest a w :=
 wpList_step fun _ hK=>by
  rw [if_pos hw]
  unfold Oper.wp execOp
  simp only [ho,hx,hy,Sem.run_bind,hr,Result.andThen_ok,Sem.run_pure]
  exact hK _ _ h
end
end
section
open Go.RowKit Go.Maps
attribute [local go_sem] InGr
def EntPost (S:Sto) (T:Tab) (i:Nat) (x:En) (w:World) (e:Ending) (w':World):Prop :=
 ∃ ev hv cv P',e = .returned (.agg #[ev,hv,cv])∧EntAt (T.P ++ P') T.mc T.back S i x ev hv cv∧St w [] [poolA P'] w'
theorem dirT_one (b:Bool) (x:Nat):dirT b [x] = [x]:=by cases b <;> rfl
attribute [local go_sem] OneStep growAt growUpon in
theorem entry_letter {S:Sto} {T:Tab} {i b:Nat} (hT:TabOk S T) (hx:S.list[i]? = some (letterE b)) (hb:b < 256) (w:World) (h:(tabA T).ho w) :
  Calls Tryz.prog 94 #[.pointer (some ⟨T.p,0,none⟩),.agg #[.int .i64 (1:Nat),.int .u8 b,.int .i64 (0:Nat),.int .i64 (0:Nat),.int .i64 (0:Nat)]] w (EntPost S T i (letterE b) w):=by
 have HK:=tabA_ks h
 have H:=St.nil w []
 obtain ⟨c,ok⟩:=hT.ok
 have HO:=Lib.hid ok
 have hn1:=ok.n1
 have hn256:=ok.n256
 have hc1:=ok.c1
 have htx:=Lib.hid (S.txt_letter hx)
 obtain ⟨gc,oc,cc,e1,hrc⟩:=hT.mac.cls.hasN ok.cls (by omega)
 obtain ⟨gn,on,cn,e2,hrn⟩:=hT.mac.next.hasN hT.mac.len ok.n1
 obtain ⟨ga,oa,ca,e3,_⟩:=hT.mac.acc.hasN ok.acc ok.n1
 obtain ⟨gh,oh,ch,e4,hrh⟩:=hT.hits.hasN ok.wts ok.n1
 have hcells:tabCells T = #[.pointer (some ⟨T.s,0,none⟩),.int .i64 T.mc.start,.slice (some ⟨gc,oc,none⟩) 256 cc,.slice (some ⟨gn,on,none⟩) T.mc.n cn,.slice (some ⟨ga,oa,none⟩) T.mc.n ca,.slice (some ⟨gh,oh,none⟩) T.mc.n ch,.bool T.back,.map (some T.km)]:=by
  unfold tabCells;rw [e1,e2,e3,e4]
 rw [hcells] at HK
 have HRC:=Lib.hid hrc
 have HRN:=Lib.hid hrn
 have HRH:=Lib.hid hrh
 have HM:=Lib.hid hT.mac
 have HE:=Lib.hid (fun q (hq:q < T.mc.n)=>effE_get hq [b])
 have HH:=Lib.hid (fun q (hq:q < T.mc.n)=>effH_get hq [b])
 have hE:=Lib.hid (effE_len T.mc [b])
 have hH:=Lib.hid (effH_len T.mc [b])
 generalize hEE:effE T.mc [b] = E at *
 generalize hHH:effH T.mc [b] = Hs at *
 generalize hN:T.mc.n = n at *
 generalize T.mc.start = st at *
 clear e1 e2 e3 e4 hrc hrn hrh hcells h ok hT hx
 go_enter Tryz.func94,Tryz.ntmps94
 go_wp2_with (first | refine sL ?_ | (refine sS ?_;clear H;intros;rename_i H))
 rename_i b3 _ b4 wz K0 hK0
 refine wp_region_grows 6 [IsV (.int .i64 n),IsMk wz.heap.size (madeCells #[.int .u8 0] n) 5 n,IsV (.int .i64 n),IsMk wz.heap.size (madeCells #[.int .i64 0] n) 3 n,IsMk2 wz.heap.size (madeCells #[.int .u8 0] n) 5 (madeCells #[.int .i64 0] n) 3 n,IsBoxN wz.heap.size #[.slice none 0 0,.slice none 0 0] 147] [] [[],[(0,102)],[],[(2,104)],[(1,103),(3,105)],[]] [(0,102),(1,103),(2,104),(3,105),(4,106),(5,13)] (by kernel_rfl) (by kernel_rfl) rfl ⟨IsV.stable _,IsMk.stable _ _ _ _,IsV.stable _,IsMk.stable _ _ _ _,IsMk2.stable _ _ _ _ _ _,IsBoxN.stable _ _ _,trivial⟩ ⟨?o0,?o1,?o2,?o3,?o4,?o5,trivial⟩ ?fin
 case o0 =>
  intro vals w' hg hd
  clear hd
  simp only [putS,List.foldl_nil,List.foldl_cons,Act.put,List.setIfInBounds_toArray,List.set_cons_zero,List.set_cons_succ]
  clear hg
  go_simp
  try go_bits
  exact isV_mk _ _
 case o1 =>
  intro vals w' hg hd
  have h0:vals 0 = .int .i64 n:=hd.1
  clear hd
  simp only [putS,List.foldl_nil,List.foldl_cons,Act.put,List.setIfInBounds_toArray,List.set_cons_zero,List.set_cons_succ,h0]
  exact OneStep.makeT (bytes:=1) rfl rfl rfl rfl rfl rfl rfl (by omega) (by omega) hg.size
 case o2 =>
  intro vals w' hg hd
  clear hd
  simp only [putS,List.foldl_nil,List.foldl_cons,Act.put,List.setIfInBounds_toArray,List.set_cons_zero,List.set_cons_succ]
  clear hg
  go_simp
  try go_bits
  exact isV_mk _ _
 case o3 =>
  intro vals w' hg hd
  have h2:vals 2 = .int .i64 n:=hd.1
  clear hd
  simp only [putS,List.foldl_nil,List.foldl_cons,Act.put,List.setIfInBounds_toArray,List.set_cons_zero,List.set_cons_succ,h2]
  exact OneStep.makeT (bytes:=8) rfl rfl rfl rfl rfl rfl rfl (by omega) (by omega) hg.size
 case o4 =>
  intro vals w' hg hd
  have h3:=hd.1
  have h7:=hd.2.1
  clear hd
  simp only [putS,List.foldl_nil,List.foldl_cons,Act.put,List.setIfInBounds_toArray,List.set_cons_zero,List.set_cons_succ]
  refine OneStep.val (v:=.agg #[vals 1,vals 3]) rfl ?_ (Below.refl _ _) ⟨vals 1,vals 3,rfl,h3,h7⟩
  obtain ⟨x3,e3,_⟩:IsMk _ _ _ _ (vals 1) w':=h3
  obtain ⟨x7,e7,_⟩:IsMk _ _ _ _ (vals 3) w':=h7
  rw [e3,e7]
  clear hg e3 e7
  go_simp
 case o5 =>
  intro vals w' hg hd
  clear hd
  simp only [putS,List.foldl_nil,List.foldl_cons,Act.put,List.setIfInBounds_toArray,List.set_cons_zero,List.set_cons_succ]
  exact OneStep.allocT rfl rfl rfl rfl hg.size
 case fin =>
  intro vals w' hg hd _
  have h0:vals 0 = _:=hd.1
  have h2:vals 2 = _:=hd.2.2.1
  have h4:=hd.2.2.2.2.1
  have h5:=hd.2.2.2.2.2.1
  clear hd
  obtain ⟨be,bh,b5,e8,e9,H⟩:=H.take_three hg (by decide) (by decide) (by decide) h4 h5
  replace e8:vals 4 = _:=e8
  replace e9:vals 5 = _:=e9
  generalize vals 1 = v1
  generalize vals 3 = v3
  simp only [putS,List.foldl_nil,List.foldl_cons,Act.put,List.setIfInBounds_toArray,List.set_cons_zero,List.set_cons_succ,List.drop_succ_cons,List.drop_zero,h0,h2,e8,e9]
  clear h0 h2 e8 e9
  go_wp2_with (first | refine sL ?_ | (refine sS ?_;clear H;intros;rename_i H))
  replace H:=(H.pick (A:=blk bh (.cells (madeCells #[.int .i64 0] n) 3)) pk).made_rows (enc:=encI) 0 rfl encI_len (by simp [maxLen];omega)
  replace H:=(H.pick (A:=blk be (.cells (madeCells #[.int .u8 0] n) 5)) pk).made_rows (enc:=enc8) 0 rfl enc8_len (by simp [maxLen];omega)
  go_loopw [113] (fun v wr=>∃ j:Nat,v = .int .i64 j∧j≤n∧St w [] [rowsA enc8 5 1 (.slice (some ⟨be,0,none⟩) n n) (E.take j ++ List.replicate (n - j) 0),rowsA encI 3 1 (.slice (some ⟨bh,0,none⟩) n n) (Hs.take j ++ List.replicate (n - j) 0),blk b5 (.cells #[.slice (some ⟨be,0,none⟩) n n,.slice (some ⟨bh,0,none⟩) n n] 147),blk b4 (.cells #[.slice none 0 0,.slice none 0 0,.slice none 0 0] 150),blk b3 (.cells #[.int .i64 (1:Nat),.int .u8 b,.int .i64 (0:Nat),.int .i64 (0:Nat),.int .i64 (0:Nat)] 110)] wr) (fun v _=>n - (intOf v).toNat)
  case atStart=>exact ⟨0,rfl,Nat.zero_le _,by simpa using H⟩
  case round =>
   clear H
   obtain ⟨j,rfl,hj,H⟩:=hrel
   by_cases hltj:j < n
   ·obtain ⟨r,xc,hr,hxc,hrx,hst,hxcc,hrl⟩:=HO.out.step_get (q:=j) (b:=b) (by rw [hN];exact hltj) hb
    obtain ⟨gr,or_,dr,r',hrv,hr',hrow,_⟩:=HM.out.row HO.out (q:=j) (by rw [hN];exact hltj)
    rw [hr] at hr'
    obtain rfl:=Option.some.inj hr'
    obtain ⟨hw1,hw2⟩:=HO.out.wt_get hst
    have hx3:E[j]? = some (T.mc.step j b):=HE.out j hltj
    have hx4:Hs[j]? = some (T.mc.wt (T.mc.step j b)):=by
     rw [HH.out j hltj]
     simp only [Mc.sum,Nat.add_zero]
     rw [capN_small (by unfold beyond;omega)]
    rw [hN] at hst
    generalize T.mc.step j b = q2 at *
    generalize T.mc.wt q2 = k2 at *
    have HX1:=Lib.hid hxc
    have HX2:=Lib.hid hrx
    have HX3:=Lib.hid hx3
    have HX4:=Lib.hid hx4
    have HX5:=Lib.hid hw1
    have HRV:=Lib.hid hrv
    have HROW:=Lib.hid hrow
    clear hxc hrx hx3 hx4 hw1 hrv hrow hr hr' hrl
    go_wp2_with (first | refine sL ?_ | (refine sS ?_;clear H;intros;rename_i H) | ((with_reducible refine isLoad ?_);refine AtLoad.cel rfl rfl rfl rfl (HRN.out.cell (H.known HK pk) encV_len HRV.out rfl) ?_;simp only [Act.put,puA,puB,puC]))
    refine wp_region_h H 13 [] [] (by kernel_rfl) (by kernel_rfl) ?_
    apply Exists.intro
    refine ⟨fun w1 hw1 HX=>?_,fun bs wr Hr=>?_⟩
    ·refine sG ?_
     repeat (first | refine sQ ?_ | ((with_reducible refine isQLoad ?_);refine QtLoad.cel rfl rfl rfl rfl (fun y=>HRC.out.cell ((HX y).known HK pk) encI_len HX1.out rfl) ?_;simp only [Act.put,puA,puB,puC]) | ((with_reducible refine isQLoad ?_);refine QtLoad.cel rfl rfl rfl rfl (fun y=>HROW.out.cell ((HX y).known HK pk) encI_len HX2.out rfl) ?_;simp only [Act.put,puA,puB,puC]) | go_big_quiet_step (fail))
     exact wpQuiet_nil rfl
    clear H
    have H:=Hr
    clear Hr
    replace H:=sH H;refine sT ?_
    go_wp2_with (first | refine sL ?_ | (refine sS ?_;clear H;intros;rename_i H) | ((with_reducible refine isStore ?_);(refine AtStore.rowA (enc:=enc8) (n:=n) (c:=n) H rfl rfl rfl rfl rfl rfl pk _ rfl enc8_len ?bd ?_;(case bd=>rw [fill_len (by rw [List.length_take,hE.out];omega) hj];exact hltj);clear H;intro _ H;simp only [Act.put,puA,puB,puC])))
    refine wp_region_h H 11 [] [] (by kernel_rfl) (by kernel_rfl) ?_
    apply Exists.intro
    refine ⟨fun w1 hw1 HX=>?_,fun bs wr Hr=>?_⟩
    ·refine sG ?_
     repeat (first | refine sQ ?_ | ((with_reducible refine isQLoad ?_);refine QtLoad.cel rfl rfl rfl rfl (fun y=>HRH.out.cell ((HX y).known HK pk) encI_len HX5.out rfl) ?_;simp only [Act.put,puA,puB,puC]) | go_big_quiet_step (fail))
     exact wpQuiet_nil rfl
    clear H
    have H:=Hr
    clear Hr
    replace H:=sH H;refine sT ?_
    go_wp2_with (first | refine sL ?_ | (refine sS ?_;clear H;intros;rename_i H) | ((with_reducible refine isStore ?_);(refine AtStore.rowA (enc:=encI) (n:=n) (c:=n) H rfl rfl rfl rfl rfl rfl pk _ rfl encI_len ?bd ?_;(case bd=>rw [fill_len (by rw [List.length_take,hH.out];omega) hj];exact hltj);clear H;intro _ H;simp only [Act.put,puA,puB,puC])))
    rw [fill_take HX3.out hE.out,fill_take HX4.out hH.out] at H
    refine ⟨⟨j + 1,by go_num,by omega,H.pick (A:=rowsA enc8 5 1 (.slice (some ⟨be,0,none⟩) n n) (E.take (j + 1) ++ List.replicate (n - (j + 1)) 0)) pk⟩,by simp [intOf];omega⟩
   ·obtain rfl:n = j:=by omega
    go_wp2_with (first | refine sL ?_ | (refine sS ?_;clear H;intros;rename_i H))
    refine bodyPost_ret (res_row rfl H rfl pk rfl) rfl ?_
    have t1:E.take n ++ List.replicate (n - n) 0 = E:=by rw [List.take_of_length_le (by rw [hE.out];omega)];simp
    have t2:Hs.take n ++ List.replicate (n - n) 0 = Hs:=by rw [List.take_of_length_le (by rw [hH.out];omega)];simp
    rw [t1,t2] at H
    obtain ⟨Q1,q1,H⟩:=H.to_pool enc8_len
    obtain ⟨Q2,q2,H⟩:=(H.pick (A:=rowsA encI 3 1 (.slice (some ⟨bh,0,none⟩) n n) Hs) pk).to_pool encI_len
    replace H:=H.pool_add
    refine ⟨_,_,_,_,rfl,⟨⟨?_,?_⟩,fun _=>rfl,fun hk=>by simp [letterE] at hk⟩,H.onlyHead⟩
    ·rw [htx.out,dirT_one,hEE]
     exact q1.mono fun x hx=>by simp only [List.mem_append];exact .inr (.inr hx)
    ·rw [htx.out,dirT_one,hHH]
     exact q2.mono fun x hx=>by simp only [List.mem_append];exact .inr (.inl hx)
end
section
open Go.RowKit Go.Maps
attribute [local go_sem] InGr
attribute [local go_sem] StStep stAt stUpon in
theorem entry_pair {S:Sto} {T:Tab} {i L R:Nat} {x y:En} {e1 e2:Value × Value × Value} (hS:S.Ok) (hT:TabOk S T) (hx:S.list[i]? = some (pairE x y L R)) (htx:S.txt (i + 1) = S.txt L ++ S.txt R) (hL:L≤1048577) (hR:R≤1048577) (hLl:L≤S.list.length) (hRl:R≤S.list.length)
  (he1:(L,e1)∈T.es) (he2:(R,e2)∈T.es) (hA:EffAt T.P T.mc (dirT T.back (S.txt L)) e1.1 e1.2.1) (hB:EffAt T.P T.mc (dirT T.back (S.txt R)) e2.1 e2.2.1) (w:World) (h:(tabA T).ho w) :
  Calls Tryz.prog 94 #[.pointer (some ⟨T.p,0,none⟩),.agg #[.int .i64 (2:Nat),.int .u8 (0:Nat),.int .i64 L,.int .i64 R,.int .i64 (0:Nat)]] w (EntPost S T i (pairE x y L R) w):=by
 have HK:=tabA_ks h
 have H:=St.nil w []
 obtain ⟨c,ok⟩:=hT.ok
 have hn1:=ok.n1
 obtain ⟨ev1,hv1,cv1⟩:=e1
 obtain ⟨ev2,hv2,cv2⟩:=e2
 simp only at hA hB
 have hd1:∀ b∈dirT T.back (S.txt L),b < 256:=fun b hb=>S.txt_lt hS hLl b (by unfold dirT at hb;split at hb;simpa using hb;exact hb)
 have hd2:∀ b∈dirT T.back (S.txt R),b < 256:=fun b hb=>S.txt_lt hS hRl b (by unfold dirT at hb;split at hb;simpa using hb;exact hb)
 have hjoin:∀ {la lb:List Nat} {ea ha eb hb:Value},(∀ b∈la,b < 256)→(∀ b∈lb,b < 256)→EffAt T.P T.mc la ea ha→EffAt T.P T.mc lb eb hb→dirT T.back (S.txt (i + 1)) = la ++ lb→∀ w,(poolA T.P).ho w→Calls Tryz.prog 101 #[.agg #[ea,ha],.agg #[eb,hb]] w fun e w'=>∃ g o c g' o' c' P',e = .returned (.agg #[.slice (some ⟨g,o,none⟩) T.mc.n c,.slice (some ⟨g',o',none⟩) T.mc.n c'])∧EffAt P' T.mc (dirT T.back (S.txt (i + 1))) (.slice (some ⟨g,o,none⟩) T.mc.n c) (.slice (some ⟨g',o',none⟩) T.mc.n c')∧St w [] [poolA P'] w':=by
  intro la lb ea ha eb hb h1 h2 h3 h4 h5 w hp
  refine (join_c ok h1 h2 h3 h4 w hp).mono ?_
  rintro e w' ⟨ev,hv,P',rfl,he,hs⟩
  obtain ⟨g,o,c,g',o',c',rfl,rfl⟩:=he.shape ok.n1
  exact ⟨g,o,c,g',o',c',P',rfl,by rw [h5];exact he,hs⟩
 obtain ⟨g1,o1,c1,g2,o2,c2,rfl,rfl⟩:=hA.shape ok.n1
 obtain ⟨g3,o3,c3,g4,o4,c4,rfl,rfl⟩:=hB.shape ok.n1
 obtain ⟨gc,oc,cc,gn,on,cn,ga,oa,ca,gh,oh,ch,e1,e2,e3,e4⟩:=hT.shapes
 have hcells:tabCells T = #[.pointer (some ⟨T.s,0,none⟩),.int .i64 T.mc.start,.slice (some ⟨gc,oc,none⟩) 256 cc,.slice (some ⟨gn,on,none⟩) T.mc.n cn,.slice (some ⟨ga,oa,none⟩) T.mc.n ca,.slice (some ⟨gh,oh,none⟩) T.mc.n ch,.bool T.back,.map (some T.km)]:=by
  unfold tabCells;rw [e1,e2,e3,e4]
 rw [hcells] at HK
 have HE1:=Lib.hid he1
 have HE2:=Lib.hid he2
 have HT:=Lib.hid hT
 have HJ1:=Lib.hid (fun hb:T.back = false=>hjoin hd1 hd2 hA hB (by rw [htx,hb];rfl))
 have HJ2:=Lib.hid (fun hb:T.back = true=>hjoin hd2 hd1 hB hA (by rw [htx,hb];simp [dirT]))
 generalize hbk:T.back = bk at *
 generalize hN:T.mc.n = n at *
 generalize T.mc.start = st at *
 clear e1 e2 e3 e4 hcells h hT hx he1 he2 hjoin hd1 hd2 hA hB htx ok
 go_enter Tryz.func94,Tryz.ntmps94
 go_wp2_with (first | refine sL ?_ | (refine sS ?_;clear H;intros;rename_i H))
 rename_i b3 _ b4 _ _ _ _ _
 refine wp_region_rgx H [blk b4 (.cells #[.slice none 0 0,.slice none 0 0,.slice none 0 0] 150),blk b3 (.cells #[.int .i64 (2:Nat),.int .u8 (0:Nat),.int .i64 L,.int .i64 R,.int .i64 (0:Nat)] 110)] 20 [⟨[],[],[],fun v _=>v = .pointer (some ⟨T.p,0,none⟩),fun _ _=>[]⟩,⟨[],[],[0],fun v _=>v = .pointer (some ⟨T.p,0,none⟩),fun _ _=>[]⟩,⟨[],[],[1],fun v _=>v = .pointer (some ⟨T.p,7,none⟩),fun _ _=>[]⟩,⟨[],[],[2],fun v _=>v = .map (some T.km),fun _ _=>[]⟩,⟨[],[],[],fun v _=>v = .pointer (some ⟨b3,2,none⟩),fun _ _=>[]⟩,⟨[],[],[4],fun v _=>v = .int .i64 L,fun _ _=>[]⟩,⟨[],[],[3,5],fun v _=>v = .agg #[.slice (some ⟨g1,o1,none⟩) n c1,.slice (some ⟨g2,o2,none⟩) n c2,cv1],fun _ _=>[]⟩,⟨[],[],[6],fun v _=>v = .agg #[.slice (some ⟨g1,o1,none⟩) n c1,.slice (some ⟨g2,o2,none⟩) n c2],fun _ _=>[]⟩,⟨[],[],[],fun v _=>v = .pointer (some ⟨T.p,0,none⟩),fun _ _=>[]⟩,⟨[],[],[8],fun v _=>v = .pointer (some ⟨T.p,0,none⟩),fun _ _=>[]⟩,⟨[],[],[9],fun v _=>v = .pointer (some ⟨T.p,7,none⟩),fun _ _=>[]⟩,⟨[],[],[10],fun v _=>v = .map (some T.km),fun _ _=>[]⟩,⟨[],[],[],fun v _=>v = .pointer (some ⟨b3,3,none⟩),fun _ _=>[]⟩,⟨[],[],[12],fun v _=>v = .int .i64 R,fun _ _=>[]⟩,⟨[],[],[11,13],fun v _=>v = .agg #[.slice (some ⟨g3,o3,none⟩) n c3,.slice (some ⟨g4,o4,none⟩) n c4,cv2],fun _ _=>[]⟩,⟨[],[],[14],fun v _=>v = .agg #[.slice (some ⟨g3,o3,none⟩) n c3,.slice (some ⟨g4,o4,none⟩) n c4],fun _ _=>[]⟩,⟨[],[],[],fun v _=>v = .pointer (some ⟨blockOf v,0,none⟩),fun v _=>[blk (blockOf v) (.cells #[.slice none 0 0,.slice none 0 0] 147)]⟩,⟨[],[],[],fun v _=>v = .pointer (some ⟨blockOf v,0,none⟩),fun v _=>[blk (blockOf v) (.cells #[.slice none 0 0,.slice none 0 0] 147)]⟩,⟨[16],[],[7,16],fun _ _=>True,fun _ ds=>match ds with | [_,b]=>[blk (blockOf b) (.cells #[.slice (some ⟨g1,o1,none⟩) n c1,.slice (some ⟨g2,o2,none⟩) n c2] 147)] | _=>[]⟩,⟨[17],[],[15,17],fun _ _=>True,fun _ ds=>match ds with | [_,b]=>[blk (blockOf b) (.cells #[.slice (some ⟨g3,o3,none⟩) n c3,.slice (some ⟨g4,o4,none⟩) n c4] 147)] | _=>[]⟩] (by kernel_rfl)
  [[],[(0,21)],[(1,22)],[(2,23)],[],[(4,25)],[(3,24),(5,26)],[(6,27)],[],[(8,29)],[(9,30)],[(10,31)],[],[(12,33)],[(11,32),(13,34)],[(14,35)],[],[],[(7,28),(16,5)],[(15,36),(17,6)]] [(0,21),(1,22),(2,23),(3,24),(4,25),(5,26),(6,27),(7,28),(8,29),(9,30),(10,31),(11,32),(12,33),(13,34),(14,35),(15,36),(16,5),(17,6)] [0,1,2,3,4,5,6,7,8,9,10,11,12,13,14,15,18,19] (by kernel_rfl) (by kernel_rfl) (by kernel_rfl) ⟨?o0,?o1,?o2,?o3,?o4,?o5,?o6,?o7,?o8,?o9,?o10,?o11,?o12,?o13,?o14,?o15,?o16,?o17,?o18,?o19,trivial⟩ ?fin
 case o0 =>
  intro vals wx X hd H
  clear hd
  replace H:=sP H
  simp only [putS,List.foldl_nil]
  go_simp
  first | exact H | exact ⟨rfl,H⟩
 case o1 =>
  intro vals wx X hd H
  have h0:vals 0 = .pointer (some ⟨T.p,0,none⟩):=hd.1
  clear hd
  replace H:=sP H
  simp only [putS,List.foldl_nil,List.foldl_cons,Act.put,List.setIfInBounds_toArray,List.set_cons_zero,List.set_cons_succ,h0]
  clear h0
  go_simp
  first | exact H | exact ⟨rfl,H⟩
 case o2 =>
  intro vals wx X hd H
  have h1:vals 1 = .pointer (some ⟨T.p,0,none⟩):=hd.1
  clear hd
  replace H:=sP H
  simp only [putS,List.foldl_nil,List.foldl_cons,Act.put,List.setIfInBounds_toArray,List.set_cons_zero,List.set_cons_succ,h1]
  clear h1
  go_simp
  first | exact H | exact ⟨rfl,H⟩
 case o3 =>
  intro vals wx X hd H
  have h2:vals 2 = .pointer (some ⟨T.p,7,none⟩):=hd.1
  clear hd
  replace H:=sP H
  simp only [putS,List.foldl_nil,List.foldl_cons,Act.put,List.setIfInBounds_toArray,List.set_cons_zero,List.set_cons_succ,h2]
  first | refine StStep.cellT rfl rfl rfl gt rfl rfl ⟨rfl,H⟩ | refine StStep.wholeT rfl rfl rfl gt rfl ⟨rfl,H⟩
 case o4 =>
  intro vals wx X hd H
  clear hd
  replace H:=sP H
  simp only [putS,List.foldl_nil]
  go_simp
  first | exact H | exact ⟨rfl,H⟩
 case o5 =>
  intro vals wx X hd H
  have h4:vals 4 = .pointer (some ⟨b3,2,none⟩):=hd.1
  clear hd
  replace H:=sP H
  simp only [putS,List.foldl_nil,List.foldl_cons,Act.put,List.setIfInBounds_toArray,List.set_cons_zero,List.set_cons_succ,h4]
  first | refine StStep.cellT rfl rfl rfl gt rfl rfl ⟨rfl,H⟩ | refine StStep.wholeT rfl rfl rfl gt rfl ⟨rfl,H⟩
 case o6 =>
  intro vals wx X hd H
  have h3:vals 3 = .map (some T.km):=hd.1
  have h5:vals 5 = .int .i64 L:=hd.2.1
  clear hd
  replace H:=sP H
  simp only [putS,List.foldl_nil,List.foldl_cons,Act.put,List.setIfInBounds_toArray,List.set_cons_zero,List.set_cons_succ,h3,h5]
  exact StStep.look rfl rfl rfl rfl (look_known HT.out hL HE1.out (H.known HK pk) false) ⟨rfl,H⟩
 case o7 =>
  intro vals wx X hd H
  have h6:vals 6 = .agg #[.slice (some ⟨g1,o1,none⟩) n c1,.slice (some ⟨g2,o2,none⟩) n c2,cv1]:=hd.1
  clear hd
  replace H:=sP H
  simp only [putS,List.foldl_nil,List.foldl_cons,Act.put,List.setIfInBounds_toArray,List.set_cons_zero,List.set_cons_succ,h6]
  exact StStep.fieldR rfl rfl rfl rfl rfl rfl ⟨rfl,H⟩
 case o8 =>
  intro vals wx X hd H
  clear hd
  replace H:=sP H
  simp only [putS,List.foldl_nil]
  go_simp
  first | exact H | exact ⟨rfl,H⟩
 case o9 =>
  intro vals wx X hd H
  have h8:vals 8 = .pointer (some ⟨T.p,0,none⟩):=hd.1
  clear hd
  replace H:=sP H
  simp only [putS,List.foldl_nil,List.foldl_cons,Act.put,List.setIfInBounds_toArray,List.set_cons_zero,List.set_cons_succ,h8]
  clear h8
  go_simp
  first | exact H | exact ⟨rfl,H⟩
 case o10 =>
  intro vals wx X hd H
  have h9:vals 9 = .pointer (some ⟨T.p,0,none⟩):=hd.1
  clear hd
  replace H:=sP H
  simp only [putS,List.foldl_nil,List.foldl_cons,Act.put,List.setIfInBounds_toArray,List.set_cons_zero,List.set_cons_succ,h9]
  clear h9
  go_simp
  first | exact H | exact ⟨rfl,H⟩
 case o11 =>
  intro vals wx X hd H
  have h10:vals 10 = .pointer (some ⟨T.p,7,none⟩):=hd.1
  clear hd
  replace H:=sP H
  simp only [putS,List.foldl_nil,List.foldl_cons,Act.put,List.setIfInBounds_toArray,List.set_cons_zero,List.set_cons_succ,h10]
  first | refine StStep.cellT rfl rfl rfl gt rfl rfl ⟨rfl,H⟩ | refine StStep.wholeT rfl rfl rfl gt rfl ⟨rfl,H⟩
 case o12 =>
  intro vals wx X hd H
  clear hd
  replace H:=sP H
  simp only [putS,List.foldl_nil]
  go_simp
  first | exact H | exact ⟨rfl,H⟩
 case o13 =>
  intro vals wx X hd H
  have h12:vals 12 = .pointer (some ⟨b3,3,none⟩):=hd.1
  clear hd
  replace H:=sP H
  simp only [putS,List.foldl_nil,List.foldl_cons,Act.put,List.setIfInBounds_toArray,List.set_cons_zero,List.set_cons_succ,h12]
  first | refine StStep.cellT rfl rfl rfl gt rfl rfl ⟨rfl,H⟩ | refine StStep.wholeT rfl rfl rfl gt rfl ⟨rfl,H⟩
 case o14 =>
  intro vals wx X hd H
  have h11:vals 11 = .map (some T.km):=hd.1
  have h13:vals 13 = .int .i64 R:=hd.2.1
  clear hd
  replace H:=sP H
  simp only [putS,List.foldl_nil,List.foldl_cons,Act.put,List.setIfInBounds_toArray,List.set_cons_zero,List.set_cons_succ,h11,h13]
  exact StStep.look rfl rfl rfl rfl (look_known HT.out hR HE2.out (H.known HK pk) false) ⟨rfl,H⟩
 case o15 =>
  intro vals wx X hd H
  have h14:vals 14 = .agg #[.slice (some ⟨g3,o3,none⟩) n c3,.slice (some ⟨g4,o4,none⟩) n c4,cv2]:=hd.1
  clear hd
  replace H:=sP H
  simp only [putS,List.foldl_nil,List.foldl_cons,Act.put,List.setIfInBounds_toArray,List.set_cons_zero,List.set_cons_succ,h14]
  exact StStep.fieldR rfl rfl rfl rfl rfl rfl ⟨rfl,H⟩
 case o16 =>
  intro vals wx X hd H
  clear hd
  replace H:=sP H
  simp only [putS,List.foldl_nil]
  exact StStep.allocT H rfl rfl rfl rfl fun b w' H=>⟨rfl,H⟩
 case o17 =>
  intro vals wx X hd H
  clear hd
  replace H:=sP H
  simp only [putS,List.foldl_nil]
  exact StStep.allocT H rfl rfl rfl rfl fun b w' H=>⟨rfl,H⟩
 case o18 =>
  intro vals wx X hd H
  have h7:vals 7 = .agg #[.slice (some ⟨g1,o1,none⟩) n c1,.slice (some ⟨g2,o2,none⟩) n c2]:=hd.1
  have h16:=hd.2.1
  clear hd
  replace H:=sP H
  simp only [putS,List.foldl_nil,List.foldl_cons,Act.put,List.setIfInBounds_toArray,List.set_cons_zero,List.set_cons_succ,h7]
  have ea:vals 16 = .pointer (some ⟨blockOf (vals 16),0,none⟩):=h16
  clear h16
  exact StStep.storeT (cs':=#[.slice (some ⟨g1,o1,none⟩) n c1,.slice (some ⟨g2,o2,none⟩) n c2]) rfl rfl ea rfl rfl rfl H rfl fun w' H=>⟨trivial,H⟩
 case o19 =>
  intro vals wx X hd H
  have h15:vals 15 = .agg #[.slice (some ⟨g3,o3,none⟩) n c3,.slice (some ⟨g4,o4,none⟩) n c4]:=hd.1
  have h17:=hd.2.1
  clear hd
  replace H:=sP H
  simp only [putS,List.foldl_nil,List.foldl_cons,Act.put,List.setIfInBounds_toArray,List.set_cons_zero,List.set_cons_succ,h15]
  have ea:vals 17 = .pointer (some ⟨blockOf (vals 17),0,none⟩):=h17
  clear h17
  exact StStep.storeT (cs':=#[.slice (some ⟨g3,o3,none⟩) n c3,.slice (some ⟨g4,o4,none⟩) n c4]) rfl rfl ea rfl rfl rfl H rfl fun w' H=>⟨trivial,H⟩
 case fin =>
  intro vals wx hd H
  have h0:vals 0 = .pointer (some ⟨T.p,0,none⟩):=hd.1
  have h1:vals 1 = .pointer (some ⟨T.p,0,none⟩):=hd.2.1
  have h2:vals 2 = .pointer (some ⟨T.p,7,none⟩):=hd.2.2.1
  have h3:vals 3 = .map (some T.km):=hd.2.2.2.1
  have h4:vals 4 = .pointer (some ⟨b3,2,none⟩):=hd.2.2.2.2.1
  have h5:vals 5 = .int .i64 L:=hd.2.2.2.2.2.1
  have h6:vals 6 = .agg #[.slice (some ⟨g1,o1,none⟩) n c1,.slice (some ⟨g2,o2,none⟩) n c2,cv1]:=hd.2.2.2.2.2.2.1
  have h7:vals 7 = .agg #[.slice (some ⟨g1,o1,none⟩) n c1,.slice (some ⟨g2,o2,none⟩) n c2]:=hd.2.2.2.2.2.2.2.1
  have h8:vals 8 = .pointer (some ⟨T.p,0,none⟩):=hd.2.2.2.2.2.2.2.2.1
  have h9:vals 9 = .pointer (some ⟨T.p,0,none⟩):=hd.2.2.2.2.2.2.2.2.2.1
  have h10:vals 10 = .pointer (some ⟨T.p,7,none⟩):=hd.2.2.2.2.2.2.2.2.2.2.1
  have h11:vals 11 = .map (some T.km):=hd.2.2.2.2.2.2.2.2.2.2.2.1
  have h12:vals 12 = .pointer (some ⟨b3,3,none⟩):=hd.2.2.2.2.2.2.2.2.2.2.2.2.1
  have h13:vals 13 = .int .i64 R:=hd.2.2.2.2.2.2.2.2.2.2.2.2.2.1
  have h14:vals 14 = .agg #[.slice (some ⟨g3,o3,none⟩) n c3,.slice (some ⟨g4,o4,none⟩) n c4,cv2]:=hd.2.2.2.2.2.2.2.2.2.2.2.2.2.2.1
  have h15:vals 15 = .agg #[.slice (some ⟨g3,o3,none⟩) n c3,.slice (some ⟨g4,o4,none⟩) n c4]:=hd.2.2.2.2.2.2.2.2.2.2.2.2.2.2.2.1
  have h16:=hd.2.2.2.2.2.2.2.2.2.2.2.2.2.2.2.2.1
  have h17:=hd.2.2.2.2.2.2.2.2.2.2.2.2.2.2.2.2.2.1
  clear hd
  replace H:=sP H
  simp only [putS,List.foldl_nil,List.foldl_cons,Act.put,List.setIfInBounds_toArray,List.set_cons_zero,List.set_cons_succ,List.drop_succ_cons,List.drop_zero,h0,h1,h2,h3,h4,h5,h6,h7,h8,h9,h10,h11,h12,h13,h14,h15]
  clear h0 h1 h2 h3 h4 h5 h6 h7 h8 h9 h10 h11 h12 h13 h14 h15
  have e16:vals 16 = .pointer (some ⟨blockOf (vals 16),0,none⟩):=h16
  have e17:vals 17 = .pointer (some ⟨blockOf (vals 17),0,none⟩):=h17
  clear h16 h17
  simp only [List.map_cons,List.map_nil,List.cons_append,List.nil_append] at H
  generalize blockOf (vals 16) = b5 at e16 H
  generalize blockOf (vals 17) = b6 at e17 H
  simp only [e16,e17]
  clear e16 e17
  cases bk
  ·have HJ:=Lib.hid (HJ1.out rfl)
   clear HJ1 HJ2
   go_wp2_with (first | refine sL ?_ | (refine sS ?_;clear H;intros;rename_i H) | (go_at_call 101;with_reducible refine Calls.mono (HJ.out _ (H.known HK pk)) ?_;rintro e wc ⟨q1,q2,q3,q4,q5,q6,P1,rfl,hef,hb⟩;replace H:=H.call0 hb;have HEF:=Lib.hid hef;clear hb hef;simp only [List.cons_append,List.nil_append] at H))
   refine bodyPost_ret (res_row rfl H rfl pk rfl) rfl ?_
   refine ⟨_,_,_,P1,rfl,⟨by rw [hbk];exact HEF.out.mono fun x hx=>List.mem_append.2 (.inr hx),fun _=>rfl,fun hk=>by simp [pairE] at hk⟩,(H.pick (A:=poolA P1) pk).onlyHead⟩
  ·have HJ:=Lib.hid (HJ2.out rfl)
   clear HJ1 HJ2
   go_wp2_with (first | refine sL ?_ | (refine sS ?_;clear H;intros;rename_i H) | (go_at_call 101;with_reducible refine Calls.mono (HJ.out _ (H.known HK pk)) ?_;rintro e wc ⟨q1,q2,q3,q4,q5,q6,P1,rfl,hef,hb⟩;replace H:=H.call0 hb;have HEF:=Lib.hid hef;clear hb hef;simp only [List.cons_append,List.nil_append] at H))
   refine bodyPost_ret (res_row rfl H rfl pk rfl) rfl ?_
   refine ⟨_,_,_,P1,rfl,⟨by rw [hbk];exact HEF.out.mono fun x hx=>List.mem_append.2 (.inr hx),fun _=>rfl,fun hk=>by simp [pairE] at hk⟩,(H.pick (A:=poolA P1) pk).onlyHead⟩
end
section
open Go.RowKit Go.Maps
attribute [local go_sem] InGr
structure Sl6 where
 g1:Nat
 o1:Nat
 c1:Nat
 g2:Nat
 o2:Nat
 c2:Nat
def encS (n:Nat) (p:Sl6):List Value:=[.slice (some ⟨p.g1,p.o1,none⟩) n p.c1,.slice (some ⟨p.g2,p.o2,none⟩) n p.c2]
theorem encS_len (n:Nat) (p:Sl6):(encS n p).length = 2:=rfl
theorem encS_one (n:Nat) (p:Sl6):∀ u∈encS n p,u.oneCell' = true:=by
 intro u hu
 simp only [encS,List.mem_cons,List.not_mem_nil,or_false] at hu
 rcases hu with rfl | rfl <;> rfl
def Sl6.pair (n:Nat) (p:Sl6):Value × Value:=(.slice (some ⟨p.g1,p.o1,none⟩) n p.c1,.slice (some ⟨p.g2,p.o2,none⟩) n p.c2)
theorem encS_pairs (n:Nat) (xs:List Sl6):flatG encP (xs.map (Sl6.pair n)) = flatG (encS n) xs:=by
 induction xs with
 |nil=>rfl
 |cons a xs ih =>
  have h1:flatG encP ((a :: xs).map (Sl6.pair n)) = encP (a.pair n) ++ flatG encP (xs.map (Sl6.pair n)):=by simp [flatG]
  have h2:flatG (encS n) (a :: xs) = encS n a ++ flatG (encS n) xs:=by simp [flatG]
  rw [h1,h2,ih];rfl
theorem RowIn.pairs {P:PoolT} {n:Nat} {v:Value} {xs:List Sl6} (h:RowIn P (encS n) 2 v xs):RowIn P encP 2 v (xs.map (Sl6.pair n)):=by
 obtain ⟨ad,c,h1,h2,h3⟩:=h
 refine ⟨ad,c,by rw [List.length_map];exact h1,by rw [List.length_map];exact h2,fun hx=>?_⟩
 rw [List.length_map] at hx
 obtain ⟨g,o,e,hm⟩:=h3 hx
 exact ⟨g,o,e,by rw [encS_pairs];exact hm⟩
theorem dirT_rep (b:Bool) (k:Nat) (l:List Nat):dirT b (rep k l) = rep k (dirT b l):=by
 cases b
 ·rfl
 ·simp only [dirT,if_true]
  induction k with
  |zero=>simp [rep_zero]
  |succ k ih=>rw [rep_succ,List.reverse_append,ih,rep_add k 1,rep_one]
theorem and_one_i64 (a:Nat) (ha:a < 9223372036854775808):bits .and .i64 (a:Int) 1 = ((a % 2:Nat):Int):=by
 have h1:(BitVec.ofInt 64 (a:Int)).toNat = a:=by
  rw [BitVec.ofInt_natCast,BitVec.toNat_ofNat];exact Nat.mod_eq_of_lt (by omega)
 have h2:(BitVec.ofInt 64 (1:Int)).toNat = 1:=rfl
 show IntKind.i64.wrap ((BitVec.ofInt 64 (a:Int) &&& BitVec.ofInt 64 (1:Int)).toNat:Int) = _
 rw [BitVec.toNat_and,h1,h2,Nat.and_one_is_mod,IntKind.wrap_i64]
 omega
theorem pool_sub (A B C:PoolT):∀ x∈A ++ B,x∈A ++ (C ++ B):=fun x hx=>by simp only [List.mem_append] at hx ⊢;rcases hx with h | h;exact .inl h;exact .inr (.inr h)
theorem pool_new (A B C:PoolT):∀ x∈C,x∈A ++ (C ++ B):=fun x hx=>by simp only [List.mem_append];exact .inr (.inl hx)
theorem half_next (k j:Nat):k / 2 ^ (j + 1) / 2 = k / 2 ^ (j + 1 + 1):=by rw [Nat.div_div_eq_div_mul,← Nat.pow_succ]
theorem St.conv2 {w0 w:World} {M:List Nat} {L R:List As} {A A':As} (h:St w0 M L w) (hp:Pick L A R) (hf:A'.fp = A.fp) (hh:A.ho w→A'.ho w):St w0 M (A' :: R) w:=(h.pick hp).conv hf hh
theorem St.heads {w0 w:World} {M:List Nat} {K L:List As} (h:St w0 M (K ++ L) w):St w0 M K w :=
 ⟨h.os,h.tape,h.output,h.size,h.keep,fun B hB=>h.ho B (by simp [hB]),fun B hB=>h.own B (by simp [hB]),(List.pairwise_append.1 h.dis).1⟩
theorem St.only6 {w0 w:World} {M:List Nat} {L R1 R2 R3 R4 R5 R6:List As} {A B C D E F:As} (h:St w0 M L w) (h1:Pick L A R1) (h2:Pick R1 B R2) (h3:Pick R2 C R3) (h4:Pick R3 D R4) (h5:Pick R4 E R5) (h6:Pick R5 F R6):St w0 M [A,B,C,D,E,F] w :=
 (h.perm (L':=[A,B,C,D,E,F] ++ R6) (h1.perm.trans ((h2.perm.trans ((h3.perm.trans ((h4.perm.trans ((h5.perm.trans ((h6.perm).cons _)).cons _)).cons _)).cons _)).cons _))).heads
theorem odd_dec (k:Nat):((k:Int) % 2 == 1) = decide (k % 2 = 1):=by
 by_cases h:k % 2 = 1
 ·have:(k:Int) % 2 = 1:=by omega
  simp [h,this]
 ·have:(k:Int) % 2 = 0:=by omega
  simp [h,this]
def effS (Q:PoolT) (m:Mc) (n:Nat) (l:List Nat) (p:Sl6):Prop:=EffAt Q m l (.slice (some ⟨p.g1,p.o1,none⟩) n p.c1) (.slice (some ⟨p.g2,p.o2,none⟩) n p.c2)
theorem effS.up {Q Q':PoolT} {m:Mc} {n:Nat} {l:List Nat} {p:Sl6} (h:effS Q m n l p) (hs:∀ x∈Q,x∈Q'):EffAt Q' m l (.slice (some ⟨p.g1,p.o1,none⟩) n p.c1) (.slice (some ⟨p.g2,p.o2,none⟩) n p.c2):=EffAt.mono h hs
structure Pw (Q:PoolT) (m:Mc) (n k:Nat) (t:List Nat) (j:Nat) (bg:Bool) (cps:List Sl6) (p q:Sl6) (wn:Nat):Prop where
 le:2 ^ j≤k
 bgs:bg = decide (k % 2 ^ (j + 1)≠0)
 len:cps.length = j + 1
 cp:∀ (j':Nat) (s:Sl6),cps[j']? = some s→effS Q m n (rep (2 ^ j') t) s
 one:effS Q m n (rep (2 ^ j) t) p
 whole:effS Q m n (rep wn t) q
 count:bg = true→wn = k % 2 ^ (j + 1)
section
variable {Q Q':PoolT} {m:Mc} {n k j wn:Nat} {t:List Nat} {bg:Bool} {cps:List Sl6} {p q p' q':Sl6}
theorem mod_next (k j:Nat):k % 2 ^ (j + 2) = k % 2 ^ (j + 1) + 2 ^ (j + 1) * (k / 2 ^ (j + 1) % 2):=Nat.mod_pow_succ
theorem Pw.le_next (hk:0 < k / 2 ^ (j + 1)):2 ^ (j + 1)≤k:=by
 rcases Nat.lt_or_ge k (2 ^ (j + 1)) with h | h
 ·rw [Nat.div_eq_of_lt h] at hk;omega
 ·exact h
theorem Pw.cps_next (h:Pw Q m n k t j bg cps p q wn) (hs:∀ x∈Q,x∈Q') (hp:effS Q' m n (rep (2 ^ j + 2 ^ j) t) p'):∀ (j':Nat) (s:Sl6),(cps ++ [p'])[j']? = some s→effS Q' m n (rep (2 ^ j') t) s:=by
 intro j' s hj
 rw [List.getElem?_append] at hj
 split at hj
 ·exact EffAt.mono (h.cp j' s hj) hs
 ·have hl:=getElem_len hj
  have:=h.len
  simp at hl
  obtain rfl:j' = j + 1:=by omega
  rw [h.len,Nat.sub_self] at hj
  simp at hj
  subst hj
  rw [show 2 ^ (j + 1) = 2 ^ j + 2 ^ j by rw [Nat.pow_succ];omega]
  exact hp
theorem Pw.odd_on (h:Pw Q m n k t j true cps p q wn) (hk:0 < k / 2 ^ (j + 1)) (ho:k / 2 ^ (j + 1) % 2 = 1) (hs:∀ x∈Q,x∈Q') (hp:effS Q' m n (rep (2 ^ j + 2 ^ j) t) p') (hq:effS Q' m n (rep (wn + (2 ^ j + 2 ^ j)) t) q') :
  Pw Q' m n k t (j + 1) true (cps ++ [p']) p' q' (wn + (2 ^ j + 2 ^ j)):=by
 have e:2 ^ j + 2 ^ j = 2 ^ (j + 1):=by rw [Nat.pow_succ];omega
 have hm:=mod_next k j
 rw [ho,Nat.mul_one] at hm
 have hpos:0 < 2 ^ (j + 1):=Nat.two_pow_pos _
 refine ⟨Pw.le_next hk,?_,by simp [h.len],h.cps_next hs hp,by rw [← e];exact hp,hq,fun _=>?_⟩
 ·symm;rw [decide_eq_true_eq,hm];omega
 ·rw [hm,h.count rfl,e]
theorem Pw.odd_off (h:Pw Q m n k t j false cps p q wn) (hk:0 < k / 2 ^ (j + 1)) (ho:k / 2 ^ (j + 1) % 2 = 1) (hs:∀ x∈Q,x∈Q') (hp:effS Q' m n (rep (2 ^ j + 2 ^ j) t) p') :
  Pw Q' m n k t (j + 1) true (cps ++ [p']) p' p' (2 ^ j + 2 ^ j):=by
 have e:2 ^ j + 2 ^ j = 2 ^ (j + 1):=by rw [Nat.pow_succ];omega
 have hm:=mod_next k j
 rw [ho,Nat.mul_one] at hm
 have hz:k % 2 ^ (j + 1) = 0:=by
  have:=h.bgs
  simpa using this.symm
 have hpos:0 < 2 ^ (j + 1):=Nat.two_pow_pos _
 refine ⟨Pw.le_next hk,?_,by simp [h.len],h.cps_next hs hp,by rw [← e];exact hp,hp,fun _=>?_⟩
 ·symm;rw [decide_eq_true_eq,hm];omega
 ·rw [hm,hz,e];omega
theorem Pw.even (h:Pw Q m n k t j bg cps p q wn) (hk:0 < k / 2 ^ (j + 1)) (ho:k / 2 ^ (j + 1) % 2≠1) (hs:∀ x∈Q,x∈Q') (hp:effS Q' m n (rep (2 ^ j + 2 ^ j) t) p') :
  Pw Q' m n k t (j + 1) bg (cps ++ [p']) p' q wn:=by
 have e:2 ^ j + 2 ^ j = 2 ^ (j + 1):=by rw [Nat.pow_succ];omega
 have hm:=mod_next k j
 rw [show k / 2 ^ (j + 1) % 2 = 0 by omega,Nat.mul_zero,Nat.add_zero] at hm
 refine ⟨Pw.le_next hk,?_,by simp [h.len],h.cps_next hs hp,by rw [← e];exact hp,EffAt.mono h.whole hs,fun hb=>?_⟩
 ·rw [hm];exact h.bgs
 ·rw [hm];exact h.count hb
theorem Pw.small (h:Pw Q m n k t j bg cps p q wn) (hk:k≤1152921504606846976):j≤60:=by
 rcases Nat.lt_or_ge 60 j with h1 | h1
 ·have h2:2 ^ 61≤2 ^ j:=Nat.pow_le_pow_right (by omega) h1
  have:=h.le
  omega
 ·exact h1
theorem Pw.done (h:Pw Q m n k t j bg cps p q wn) (hk:k / 2 ^ (j + 1) = 0):effS Q m n (rep k t) q∧k < 2 ^ cps.length:=by
 have hlt:k < 2 ^ (j + 1):=by
  rcases Nat.lt_or_ge k (2 ^ (j + 1)) with h1 | h1
  ·exact h1
  ·have:=Nat.div_pos h1 (Nat.two_pow_pos _);omega
 have hm:k % 2 ^ (j + 1) = k:=Nat.mod_eq_of_lt hlt
 have hpos:=Nat.two_pow_pos j
 have hle:=h.le
 have hb:bg = true:=by rw [h.bgs,hm,decide_eq_true_eq];omega
 have hw:=h.count hb
 rw [hm] at hw
 subst hw
 exact ⟨h.whole,by rw [h.len];exact hlt⟩
theorem Pw.first (hk:2≤k) (h:effS Q m n t p):Pw Q m n k t 0 (decide (k % 2 = 1)) [p] p p 1:=by
 have h1:effS Q m n (rep (2 ^ 0) t) p:=by rw [Nat.pow_zero,rep_one];exact h
 refine ⟨by simp;omega,?_,rfl,fun j' s hj=>?_,h1,by simpa using h1,fun hb=>?_⟩
 ·simp only [Nat.zero_add,Nat.pow_one]
  congr 1
  simp
 ·have:=getElem_len hj
  simp at this
  subst this
  simp at hj
  subst hj
  exact h1
 ·simp at hb ⊢
  omega
end
def PwRel (w:World) (T:Tab) (n k L:Nat) (t:List Nat) (b3 b4 b7 b9:Nat) (v8 v10 v11:Value) (wr:World):Prop :=
 ∃ (j:Nat) (bg:Bool) (P1:PoolT) (cps:List Sl6) (p q:Sl6) (wn:Nat),v11 = .int .i64 ((k / 2 ^ (j + 1):Nat):Int)∧v10 = .bool bg∧Pw (T.P ++ P1) T.mc n k t j bg cps p q wn∧St w [] [poolA P1,rowsA (encS n) 147 2 v8 cps,blk b7 (.cells #[.slice (some ⟨p.g1,p.o1,none⟩) n p.c1,.slice (some ⟨p.g2,p.o2,none⟩) n p.c2] 147),blk b9 (.cells #[.slice (some ⟨q.g1,q.o1,none⟩) n q.c1,.slice (some ⟨q.g2,q.o2,none⟩) n q.c2] 147),blk b4 (.cells #[.slice none 0 0,.slice none 0 0,.slice none 0 0] 150),blk b3 (.cells #[.int .i64 (3:Nat),.int .u8 (0:Nat),.int .i64 L,.int .i64 (0:Nat),.int .i64 k] 110)] wr
attribute [local go_sem] StStep stAt stUpon in
theorem entry_power {S:Sto} {T:Tab} {i L k:Nat} {x:En} {e1:Value × Value × Value} (hS:S.Ok) (hT:TabOk S T) (hx:S.list[i]? = some (powerE x L k)) (htx:S.txt (i + 1) = rep k (S.txt L)) (hL:L≤1048577) (hLl:L≤S.list.length) (hk2:2≤k) (hkm:k≤maxT)
  (he1:(L,e1)∈T.es) (hA:EffAt T.P T.mc (dirT T.back (S.txt L)) e1.1 e1.2.1) (w:World) (h:(tabA T).ho w) :
  Calls Tryz.prog 94 #[.pointer (some ⟨T.p,0,none⟩),.agg #[.int .i64 (3:Nat),.int .u8 (0:Nat),.int .i64 L,.int .i64 (0:Nat),.int .i64 k]] w (EntPost S T i (powerE x L k) w):=by
 have HK:=tabA_ks h
 have H:=St.nil w []
 obtain ⟨c,ok⟩:=hT.ok
 have hn1:=ok.n1
 rw [maxT_eq] at hkm
 obtain ⟨ev1,hv1,cv1⟩:=e1
 simp only at hA
 have hd1:∀ b∈dirT T.back (S.txt L),b < 256:=fun b hb=>S.txt_lt hS hLl b (by unfold dirT at hb;split at hb;simpa using hb;exact hb)
 have htd:dirT T.back (S.txt (i + 1)) = rep k (dirT T.back (S.txt L)):=by rw [htx,dirT_rep]
 have hdr:∀ j,dirT T.back (rep (2 ^ j) (S.txt L)) = rep (2 ^ j) (dirT T.back (S.txt L)):=fun j=>dirT_rep _ _ _
 generalize htt:dirT T.back (S.txt L) = t at *
 have HJ:Hid (∀ (a b:Nat) (ea ha eb hb:Value) (P1:PoolT),EffAt P1 T.mc (rep a t) ea ha→EffAt P1 T.mc (rep b t) eb hb→∀ w,(poolA P1).ho w→Calls Tryz.prog 101 #[.agg #[ea,ha],.agg #[eb,hb]] w fun e w'=>∃ (q:Sl6) (P':PoolT),e = .returned (.agg #[.slice (some ⟨q.g1,q.o1,none⟩) T.mc.n q.c1,.slice (some ⟨q.g2,q.o2,none⟩) T.mc.n q.c2])∧EffAt P' T.mc (rep (a + b) t) (.slice (some ⟨q.g1,q.o1,none⟩) T.mc.n q.c1) (.slice (some ⟨q.g2,q.o2,none⟩) T.mc.n q.c2)∧St w [] [poolA P'] w'):=Lib.hid fun a b ea ha eb hb P1 h3 h4 w hp=>by
  refine (join_c ok (fun b hb=>hd1 b (rep_mem hb)) (fun b hb=>hd1 b (rep_mem hb)) h3 h4 w hp).mono ?_
  rintro e w' ⟨ev,hv,P',rfl,he,hs⟩
  obtain ⟨g,o,c,g',o',c',rfl,rfl⟩:=he.shape ok.n1
  exact ⟨⟨g,o,c,g',o',c'⟩,P',rfl,by rw [rep_add];exact he,hs⟩
 obtain ⟨g1,o1,c1,g2,o2,c2,rfl,rfl⟩:=hA.shape ok.n1
 obtain ⟨gc,oc,cc,gn,on,cn,ga,oa,ca,gh,oh,ch,e1,e2,e3,e4⟩:=hT.shapes
 have hcells:tabCells T = #[.pointer (some ⟨T.s,0,none⟩),.int .i64 T.mc.start,.slice (some ⟨gc,oc,none⟩) 256 cc,.slice (some ⟨gn,on,none⟩) T.mc.n cn,.slice (some ⟨ga,oa,none⟩) T.mc.n ca,.slice (some ⟨gh,oh,none⟩) T.mc.n ch,.bool T.back,.map (some T.km)]:=by
  unfold tabCells;rw [e1,e2,e3,e4]
 rw [hcells] at HK
 have HE1:=Lib.hid he1
 have HT:=Lib.hid hT
 have HA:=Lib.hid hA
 have HTD:=Lib.hid htd
 have HDR:=Lib.hid hdr
 have hand:=and_one_i64 k (by omega)
 generalize hN:T.mc.n = n at *
 generalize T.mc.start = st at *
 clear e1 e2 e3 e4 hcells h hT hx he1 hd1 hA htx ok htd hdr
 go_enter Tryz.func94,Tryz.ntmps94
 go_wp2_with (first | refine sL ?_ | (refine sS ?_;clear H;intros;rename_i H))
 refine wp_region_h H 9 [(8,147,#[.slice none 0 0,.slice none 0 0],none)] [(8,7)] (by kernel_rfl) (by kernel_rfl) ?_
 apply Exists.intro
 refine ⟨fun w1 hw1 HX=>?_,fun bs wr Hr=>?_⟩
 ·refine sG ?_
  repeat (first | refine sQ ?_ | ((with_reducible refine isQLook ?_);refine QtLook.go (kt:=0) (et:=0) rfl rfl rfl _ (fun z=>look_known HT.out hL HE1.out ((HX z).known HK pk) false) rfl ?_;simp only [Act.put,puA,puB,puC]) | ((with_reducible refine isQField ?_);refine QtField.rowT rfl rfl rfl rfl rfl rfl ?_;simp only [Act.put,puA,puB,puC]) | go_big_quiet_step (fail))
  apply wpQuiet_nil
  first | refine ⟨fstep_allocT rfl rfl hw1 rfl rfl,?_⟩ | refine ⟨fstep_slice1 rfl rfl rfl rfl rfl rfl rfl rfl rfl hw1,?_⟩
  simp only [Act.put,puA,puB,puC]
  repeat (first | refine sQ ?_ | ((with_reducible refine isQLook ?_);refine QtLook.go (kt:=0) (et:=0) rfl rfl rfl _ (fun z=>look_known HT.out hL HE1.out ((HX z).known HK pk) false) rfl ?_;simp only [Act.put,puA,puB,puC]) | ((with_reducible refine isQField ?_);refine QtField.rowT rfl rfl rfl rfl rfl rfl ?_;simp only [Act.put,puA,puB,puC]) | go_big_quiet_step (fail))
  exact wpQuiet_nil rfl
 clear H
 have H:=Hr
 clear Hr
 replace H:=sH H;refine sT ?_
 go_wp2_with (first | refine sL ?_ | (refine sS ?_;clear H;intros;rename_i H) | ((with_reducible refine isSlice ?_);refine AtSlice.one H rfl rfl rfl rfl rfl rfl rfl rfl rfl ?_;clear H;intro bc _ H;simp only [Act.put,puA,puB,puC]))
 rename_i b3 _ b4 _ _ _ _ _ _ _
 generalize bs 8 = b7 at *
 refine wp_region_rgx H [blk bc (.cells #[.slice (some ⟨g1,o1,none⟩) n c1,.slice (some ⟨g2,o2,none⟩) n c2] 147),blk b7 (.cells #[.slice (some ⟨g1,o1,none⟩) n c1,.slice (some ⟨g2,o2,none⟩) n c2] 147),blk b4 (.cells #[.slice none 0 0,.slice none 0 0,.slice none 0 0] 150),blk b3 (.cells #[.int .i64 (3:Nat),.int .u8 (0:Nat),.int .i64 L,.int .i64 (0:Nat),.int .i64 k] 110)] 8 [⟨[],[],[],fun v _=>v = .agg #[.slice (some ⟨g1,o1,none⟩) n c1,.slice (some ⟨g2,o2,none⟩) n c2],fun _ _=>[]⟩,⟨[],[],[],fun v _=>v = .pointer (some ⟨b3,4,none⟩),fun _ _=>[]⟩,⟨[],[],[1],fun v _=>v = .int .i64 k,fun _ _=>[]⟩,⟨[],[],[2],fun v _=>v = .int .i64 (k % 2:Nat),fun _ _=>[]⟩,⟨[],[],[3],fun v _=>v = .bool (decide (k % 2 = 1)),fun _ _=>[]⟩,⟨[],[],[],fun v _=>v = .pointer (some ⟨blockOf v,0,none⟩),fun v _=>[blk (blockOf v) (.cells #[.slice none 0 0,.slice none 0 0] 147)]⟩,⟨[5],[],[0,5],fun _ _=>True,fun _ ds=>match ds with | [_,b]=>[blk (blockOf b) (.cells #[.slice (some ⟨g1,o1,none⟩) n c1,.slice (some ⟨g2,o2,none⟩) n c2] 147)] | _=>[]⟩,⟨[],[],[4],fun v _=>v = .bool (decide (k % 2 = 1)),fun _ _=>[]⟩] (by kernel_rfl)
  [[],[],[(1,60)],[(2,61)],[(3,62)],[],[(0,59),(5,9)],[(4,63)]] [(0,59),(1,60),(2,61),(3,62),(4,63),(5,9),(7,10)] [0,1,2,3,4,6,7] (by kernel_rfl) (by kernel_rfl) (by kernel_rfl) ⟨?o0,?o1,?o2,?o3,?o4,?o5,?o6,?o7,trivial⟩ ?fin
 case o0 =>
  intro vals wx X hd H
  clear hd
  replace H:=sP H
  simp only [putS,List.foldl_nil]
  first | refine StStep.cellT rfl rfl rfl gt rfl rfl ⟨rfl,H⟩ | refine StStep.wholeT rfl rfl rfl gt rfl ⟨rfl,H⟩
 case o1 =>
  intro vals wx X hd H
  clear hd
  replace H:=sP H
  simp only [putS,List.foldl_nil]
  go_simp
  first | exact H | exact ⟨rfl,H⟩
 case o2 =>
  intro vals wx X hd H
  have h1:vals 1 = .pointer (some ⟨b3,4,none⟩):=hd.1
  clear hd
  replace H:=sP H
  simp only [putS,List.foldl_nil,List.foldl_cons,Act.put,List.setIfInBounds_toArray,List.set_cons_zero,List.set_cons_succ,h1]
  first | refine StStep.cellT rfl rfl rfl gt rfl rfl ⟨rfl,H⟩ | refine StStep.wholeT rfl rfl rfl gt rfl ⟨rfl,H⟩
 case o3 =>
  intro vals wx X hd H
  have h2:vals 2 = .int .i64 k:=hd.1
  clear hd
  replace H:=sP H
  simp only [putS,List.foldl_nil,List.foldl_cons,Act.put,List.setIfInBounds_toArray,List.set_cons_zero,List.set_cons_succ,h2]
  clear h2
  go_simp
  first | exact H | exact ⟨rfl,H⟩
 case o4 =>
  intro vals wx X hd H
  have h3:vals 3 = .int .i64 (k % 2:Nat):=hd.1
  clear hd
  replace H:=sP H
  simp only [putS,List.foldl_nil,List.foldl_cons,Act.put,List.setIfInBounds_toArray,List.set_cons_zero,List.set_cons_succ,h3]
  clear h3
  go_simp
  refine ⟨?_,H⟩
  first | exact odd_dec k | exact congrArg Value.bool (odd_dec k)
 case o5 =>
  intro vals wx X hd H
  clear hd
  replace H:=sP H
  simp only [putS,List.foldl_nil]
  exact StStep.allocT H rfl rfl rfl rfl fun b w' H=>⟨rfl,H⟩
 case o6 =>
  intro vals wx X hd H
  have h0:vals 0 = .agg #[.slice (some ⟨g1,o1,none⟩) n c1,.slice (some ⟨g2,o2,none⟩) n c2]:=hd.1
  have h5:=hd.2.1
  clear hd
  replace H:=sP H
  simp only [putS,List.foldl_nil,List.foldl_cons,Act.put,List.setIfInBounds_toArray,List.set_cons_zero,List.set_cons_succ,h0]
  have ea:vals 5 = .pointer (some ⟨blockOf (vals 5),0,none⟩):=h5
  clear h5
  exact StStep.storeT (cs':=#[.slice (some ⟨g1,o1,none⟩) n c1,.slice (some ⟨g2,o2,none⟩) n c2]) rfl rfl ea rfl rfl rfl H rfl fun w' H=>⟨trivial,H⟩
 case o7 =>
  intro vals wx X hd H
  have h4:vals 4 = .bool (decide (k % 2 = 1)):=hd.1
  clear hd
  replace H:=sP H
  simp only [putS,List.foldl_nil,List.foldl_cons,Act.put,List.setIfInBounds_toArray,List.set_cons_zero,List.set_cons_succ,h4]
  clear h4
  go_simp
  first | exact H | exact ⟨rfl,H⟩
 case fin =>
  intro vals wx hd H
  have h0:vals 0 = .agg #[.slice (some ⟨g1,o1,none⟩) n c1,.slice (some ⟨g2,o2,none⟩) n c2]:=hd.1
  have h1:vals 1 = .pointer (some ⟨b3,4,none⟩):=hd.2.1
  have h2:vals 2 = .int .i64 k:=hd.2.2.1
  have h3:vals 3 = .int .i64 (k % 2:Nat):=hd.2.2.2.1
  have h4:vals 4 = .bool (decide (k % 2 = 1)):=hd.2.2.2.2.1
  have h5:=hd.2.2.2.2.2.1
  have h7:vals 7 = .bool (decide (k % 2 = 1)):=hd.2.2.2.2.2.2.2.1
  clear hd
  replace H:=sP H
  simp only [putS,List.foldl_nil,List.foldl_cons,Act.put,List.setIfInBounds_toArray,List.set_cons_zero,List.set_cons_succ,List.drop_succ_cons,List.drop_zero,h0,h1,h2,h3,h4,h7]
  clear h0 h1 h2 h3 h4 h7
  have e5:vals 5 = .pointer (some ⟨blockOf (vals 5),0,none⟩):=h5
  clear h5
  simp only [List.map_cons,List.map_nil,List.cons_append,List.nil_append] at H
  generalize blockOf (vals 5) = b9 at e5 H
  simp only [e5]
  clear e5
  go_wp2_with (first | refine sL ?_ | (refine sS ?_;clear H;intros;rename_i H))
  replace H:=H.conv2 (A:=blk bc (.cells #[.slice (some ⟨g1,o1,none⟩) n c1,.slice (some ⟨g2,o2,none⟩) n c2] 147)) (A':=rowsA (encS n) 147 2 (.slice (some ⟨bc,0,none⟩) 1 1) [⟨g1,o1,c1,g2,o2,c2⟩]) pk (by rw [rowsA_fp',blk_fp];rfl) fun hb=>rowsA_of_blk (xs:=[(⟨g1,o1,c1,g2,o2,c2⟩:Sl6)]) (by rw [blk_ho] at hb;exact hb) (by simp [maxLen]) (by simp [flatG,encS]) (encS_len n)
  replace H:=H.empty (poolA_nil _) (by rw [poolA_fp];rfl)
  have HP0:=Lib.hid (Pw.first (Q:=T.P ++ []) (k:=k) (p:=⟨g1,o1,c1,g2,o2,c2⟩) hk2 (EffAt.mono HA.out fun x hx=>by simpa using hx))
  go_loopw [8,10,11] (fun v8 v10 v11 wr=>PwRel w T n k L t b3 b4 b7 b9 v8 v10 v11 wr) (fun _ _ v11 _=>(intOf v11).toNat)
  case atStart=>exact ⟨0,_,[],_,_,_,_,by simp,rfl,HP0.out,by
   have H2:=H.only6 (A:=poolA []) (B:=rowsA (encS n) 147 2 (.slice (some ⟨bc,0,none⟩) 1 1) [⟨g1,o1,c1,g2,o2,c2⟩]) (C:=blk b7 (.cells #[.slice (some ⟨g1,o1,none⟩) n c1,.slice (some ⟨g2,o2,none⟩) n c2] 147)) (D:=blk b9 (.cells #[.slice (some ⟨g1,o1,none⟩) n c1,.slice (some ⟨g2,o2,none⟩) n c2] 147)) (E:=blk b4 (.cells #[.slice none 0 0,.slice none 0 0,.slice none 0 0] 150)) (F:=blk b3 (.cells #[.int .i64 (3:Nat),.int .u8 (0:Nat),.int .i64 L,.int .i64 (0:Nat),.int .i64 k] 110)) pk pk pk pk pk pk
   exact H2⟩
  case round =>
   clear H HP0
   obtain ⟨j,bg,P1,cps,p,q,wn,rfl,rfl,hpw,H⟩:=hrel
   have hj60:=hpw.small hkm
   have hcl:=hpw.len
   have hcl2:cps.length≤61:=by omega
   obtain ⟨g8,c8,rfl,_,_⟩:=rowsA_cases (H.get (A:=rowsA (encS n) 147 2 u8 cps) pk) (by omega)
   have HPW:=Lib.hid hpw
   clear hcl
   have hkkl:k / 2 ^ (j + 1)≤k:=Nat.div_le_self _ _
   generalize hkk:k / 2 ^ (j + 1) = kk at *
   have HKK:=Lib.hid hkk
   clear hkk
   by_cases hz:0 < kk
   ·have hand2:=and_one_i64 kk (by omega)
    have HJ1:=Lib.hid (HJ.out (2 ^ j) (2 ^ j) _ _ _ _ (T.P ++ P1) hpw.one hpw.one)
    clear hpw
    by_cases hod:kk % 2 = 1
    ·have hob:((kk:Int) % 2 == 1) = true:=by rw [odd_dec];simpa using hod
     have HOD:=Lib.hid hod
     clear hod
     cases bg
     ·go_wp2_with (first | refine sL ?_ | (refine sS ?_;clear H;intros;rename_i H) | (go_at_call 101;with_reducible refine Calls.mono (HJ1.out _ (poolA_append (H.known HK pk) (H.get (A:=poolA P1) pk))) ?_;rintro e wc ⟨p',P2,rfl,hef,hb⟩;replace H:=H.pick (A:=poolA P1) pk;replace H:=H.call0 hb;have HEF:=Lib.hid hef;clear hb hef;simp only [List.cons_append,List.nil_append] at H;replace H:=H.pool_add;have HS1:=Lib.hid (pool_sub T.P P1 P2);have HS2:=Lib.hid (pool_new T.P P1 P2);have HE2:=Lib.hid (EffAt.mono HEF.out HS2.out);have HJ4:=Lib.hid (HJ.out wn (2 ^ j + 2 ^ j) _ _ _ _ (T.P ++ (P2 ++ P1)) (effS.up HPW.out.whole HS1.out) HE2.out)) | ((with_reducible refine isSlice ?_);refine AtSlice.one H rfl rfl rfl rfl rfl rfl rfl rfl rfl ?_;clear H;intro bs2 _ H;simp only [Act.put,puA,puB,puC]) | ((with_reducible refine isAppend ?_);refine AtAppend.go (enc:=encS n) H rfl rfl rfl rfl rfl (by decide) (by decide) rfl pk rfl (H.at pk) [p'] rfl (by simp [flatG,encS]) (encS_len n) (encS_one n) (by simp;omega) ?_;clear H;intro ad9 cp9 _ H;simp only [Act.put,puA,puB,puC]))
      have H2:=H.only6 (A:=poolA (P2 ++ P1)) (B:=rowsA (encS n) 147 2 (.slice ad9 (cps.length + 1) cp9) (cps ++ [p'])) (C:=blk b7 (.cells #[.slice (some ⟨p'.g1,p'.o1,none⟩) n p'.c1,.slice (some ⟨p'.g2,p'.o2,none⟩) n p'.c2] 147)) (D:=blk b9 (.cells #[.slice (some ⟨p'.g1,p'.o1,none⟩) n p'.c1,.slice (some ⟨p'.g2,p'.o2,none⟩) n p'.c2] 147)) (E:=blk b4 (.cells #[.slice none 0 0,.slice none 0 0,.slice none 0 0] 150)) (F:=blk b3 (.cells #[.int .i64 (3:Nat),.int .u8 (0:Nat),.int .i64 L,.int .i64 (0:Nat),.int .i64 k] 110)) pk pk pk pk pk pk
      have HREL:PwRel w T n k L t b3 b4 b7 b9 (.slice ad9 (cps.length + 1) cp9) (.bool true) (.int .i64 ((kk:Int) / 2)) _:=⟨j + 1,true,(P2 ++ P1),cps ++ [p'],p',p',_,by rw [← half_next,HKK.out];simp,rfl,HPW.out.odd_off (by rw [HKK.out];exact hz) (by rw [HKK.out];exact HOD.out) HS1.out HE2.out,H2⟩
      have hmeas:(intOf (.int .i64 ((kk:Int) / 2))).toNat < (intOf (.int .i64 (kk:Int))).toNat:=by simp only [intOf];omega
      first | (refine ⟨⟨_,_,_,HREL,rfl,rfl,rfl⟩,?_⟩;simp [intOf];omega) | (go_roundw;case rel=>exact HREL;case measure=>exact hmeas) | exact ⟨HREL,hmeas⟩ | (refine ⟨?_,hmeas⟩;(repeat apply Exists.intro);refine ⟨HREL,?_⟩;rfl)
     ·go_wp2_with (first | refine sL ?_ | (refine sS ?_;clear H;intros;rename_i H) | (go_at_call 101;with_reducible refine Calls.mono (HJ1.out _ (poolA_append (H.known HK pk) (H.get (A:=poolA P1) pk))) ?_;rintro e wc ⟨p',P2,rfl,hef,hb⟩;replace H:=H.pick (A:=poolA P1) pk;replace H:=H.call0 hb;have HEF:=Lib.hid hef;clear hb hef;simp only [List.cons_append,List.nil_append] at H;replace H:=H.pool_add;have HS1:=Lib.hid (pool_sub T.P P1 P2);have HS2:=Lib.hid (pool_new T.P P1 P2);have HE2:=Lib.hid (EffAt.mono HEF.out HS2.out);have HJ4:=Lib.hid (HJ.out wn (2 ^ j + 2 ^ j) _ _ _ _ (T.P ++ (P2 ++ P1)) (effS.up HPW.out.whole HS1.out) HE2.out)) | (go_at_call 101;with_reducible refine Calls.mono (HJ4.out _ (poolA_append (H.known HK pk) (H.get (A:=poolA (P2 ++ P1)) pk))) ?_;rintro e wc ⟨q',P3,rfl,hef,hb⟩;replace H:=H.pick (A:=poolA (P2 ++ P1)) pk;replace H:=H.call0 hb;have HEG:=Lib.hid hef;clear hb hef;simp only [List.cons_append,List.nil_append] at H;replace H:=H.pool_add) | ((with_reducible refine isSlice ?_);refine AtSlice.one H rfl rfl rfl rfl rfl rfl rfl rfl rfl ?_;clear H;intro bs2 _ H;simp only [Act.put,puA,puB,puC]) | ((with_reducible refine isAppend ?_);refine AtAppend.go (enc:=encS n) H rfl rfl rfl rfl rfl (by decide) (by decide) rfl pk rfl (H.at pk) [p'] rfl (by simp [flatG,encS]) (encS_len n) (encS_one n) (by simp;omega) ?_;clear H;intro ad9 cp9 _ H;simp only [Act.put,puA,puB,puC]))
      have H2:=H.only6 (A:=poolA (P3 ++ (P2 ++ P1))) (B:=rowsA (encS n) 147 2 (.slice ad9 (cps.length + 1) cp9) (cps ++ [p'])) (C:=blk b7 (.cells #[.slice (some ⟨p'.g1,p'.o1,none⟩) n p'.c1,.slice (some ⟨p'.g2,p'.o2,none⟩) n p'.c2] 147)) (D:=blk b9 (.cells #[.slice (some ⟨q'.g1,q'.o1,none⟩) n q'.c1,.slice (some ⟨q'.g2,q'.o2,none⟩) n q'.c2] 147)) (E:=blk b4 (.cells #[.slice none 0 0,.slice none 0 0,.slice none 0 0] 150)) (F:=blk b3 (.cells #[.int .i64 (3:Nat),.int .u8 (0:Nat),.int .i64 L,.int .i64 (0:Nat),.int .i64 k] 110)) pk pk pk pk pk pk
      have HREL:PwRel w T n k L t b3 b4 b7 b9 (.slice ad9 (cps.length + 1) cp9) (.bool true) (.int .i64 ((kk:Int) / 2)) _:=⟨j + 1,true,(P3 ++ (P2 ++ P1)),cps ++ [p'],p',q',_,by rw [← half_next,HKK.out];simp,rfl,HPW.out.odd_on (by rw [HKK.out];exact hz) (by rw [HKK.out];exact HOD.out) (fun x hx=>pool_sub T.P (P2 ++ P1) P3 x (HS1.out x hx)) (EffAt.mono HE2.out (pool_sub T.P (P2 ++ P1) P3)) (EffAt.mono HEG.out (pool_new T.P (P2 ++ P1) P3)),H2⟩
      have hmeas:(intOf (.int .i64 ((kk:Int) / 2))).toNat < (intOf (.int .i64 (kk:Int))).toNat:=by simp only [intOf];omega
      refine ⟨?_,hmeas⟩
      (repeat apply Exists.intro)
      refine ⟨HREL,?_⟩
      rfl
    ·have hob:((kk:Int) % 2 == 1) = false:=by rw [odd_dec];simpa using hod
     have HOD:=Lib.hid hod
     clear hod
     go_wp2_with (first | refine sL ?_ | (refine sS ?_;clear H;intros;rename_i H) | (go_at_call 101;with_reducible refine Calls.mono (HJ1.out _ (poolA_append (H.known HK pk) (H.get (A:=poolA P1) pk))) ?_;rintro e wc ⟨p',P2,rfl,hef,hb⟩;replace H:=H.pick (A:=poolA P1) pk;replace H:=H.call0 hb;have HEF:=Lib.hid hef;clear hb hef;simp only [List.cons_append,List.nil_append] at H;replace H:=H.pool_add;have HS1:=Lib.hid (pool_sub T.P P1 P2);have HS2:=Lib.hid (pool_new T.P P1 P2);have HE2:=Lib.hid (EffAt.mono HEF.out HS2.out);have HJ4:=Lib.hid (HJ.out wn (2 ^ j + 2 ^ j) _ _ _ _ (T.P ++ (P2 ++ P1)) (effS.up HPW.out.whole HS1.out) HE2.out)) | ((with_reducible refine isSlice ?_);refine AtSlice.one H rfl rfl rfl rfl rfl rfl rfl rfl rfl ?_;clear H;intro bs2 _ H;simp only [Act.put,puA,puB,puC]) | ((with_reducible refine isAppend ?_);refine AtAppend.go (enc:=encS n) H rfl rfl rfl rfl rfl (by decide) (by decide) rfl pk rfl (H.at pk) [p'] rfl (by simp [flatG,encS]) (encS_len n) (encS_one n) (by simp;omega) ?_;clear H;intro ad9 cp9 _ H;simp only [Act.put,puA,puB,puC]))
     have H2:=H.only6 (A:=poolA (P2 ++ P1)) (B:=rowsA (encS n) 147 2 (.slice ad9 (cps.length + 1) cp9) (cps ++ [p'])) (C:=blk b7 (.cells #[.slice (some ⟨p'.g1,p'.o1,none⟩) n p'.c1,.slice (some ⟨p'.g2,p'.o2,none⟩) n p'.c2] 147)) (D:=blk b9 (.cells #[.slice (some ⟨q.g1,q.o1,none⟩) n q.c1,.slice (some ⟨q.g2,q.o2,none⟩) n q.c2] 147)) (E:=blk b4 (.cells #[.slice none 0 0,.slice none 0 0,.slice none 0 0] 150)) (F:=blk b3 (.cells #[.int .i64 (3:Nat),.int .u8 (0:Nat),.int .i64 L,.int .i64 (0:Nat),.int .i64 k] 110)) pk pk pk pk pk pk
     have HREL:PwRel w T n k L t b3 b4 b7 b9 (.slice ad9 (cps.length + 1) cp9) (.bool bg) (.int .i64 ((kk:Int) / 2)) _:=⟨j + 1,bg,(P2 ++ P1),cps ++ [p'],p',q,_,by rw [← half_next,HKK.out];simp,rfl,HPW.out.even (by rw [HKK.out];exact hz) (by rw [HKK.out];exact HOD.out) HS1.out HE2.out,H2⟩
     have hmeas:(intOf (.int .i64 ((kk:Int) / 2))).toNat < (intOf (.int .i64 (kk:Int))).toNat:=by simp only [intOf];omega
     first | (refine ⟨⟨_,_,_,HREL,rfl,rfl,rfl⟩,?_⟩;simp [intOf];omega) | (go_roundw;case rel=>exact HREL;case measure=>exact hmeas) | exact ⟨HREL,hmeas⟩ | (refine ⟨?_,hmeas⟩;(repeat apply Exists.intro);refine ⟨HREL,?_⟩;rfl)
   ·obtain rfl:kk = 0:=by omega
    clear hpw
    go_wp2_with (first | refine sL ?_ | (refine sS ?_;clear H;intros;rename_i H))
    refine bodyPost_ret (res_row rfl H rfl pk rfl) rfl ?_
    obtain ⟨hw,hlt⟩:=HPW.out.done HKK.out
    have hcl3:=HPW.out.len
    obtain ⟨Q,hq,H⟩:=(H.pick (A:=rowsA (encS n) 147 2 (.slice (some ⟨g8,0,none⟩) cps.length c8) cps) pk).to_pool (encS_len n)
    replace H:=(H.pick (A:=poolA P1) pk).pool_add
    have i1:∀ x∈T.P ++ P1,x∈T.P ++ (P1 ++ Q):=fun x hx=>by simp only [List.mem_append] at hx ⊢;rcases hx with h | h;exact .inl h;exact .inr (.inl h)
    have i2:∀ x∈Q,x∈T.P ++ (P1 ++ Q):=fun x hx=>by simp only [List.mem_append];exact .inr (.inr hx)
    refine ⟨_,_,_,P1 ++ Q,rfl,⟨by rw [HTD.out];exact EffAt.mono hw i1,fun hk=>absurd rfl hk,fun _=>⟨cps.map (Sl6.pair n),(hq.mono i2).pairs,by rw [List.length_map];omega,by rw [List.length_map];omega,by rw [List.length_map];exact hlt,fun j' s hs=>?_⟩⟩,H.onlyHead⟩
    rw [List.getElem?_map] at hs
    obtain ⟨s',hs',rfl⟩:∃ s',cps[j']? = some s'∧s'.pair n = s:=by
     cases hc:cps[j']? with
     |none=>rw [hc] at hs;cases hs
     |some s'=>rw [hc] at hs;exact ⟨s',rfl,Option.some.inj hs⟩
    show EffAt _ _ (dirT T.back (rep (2 ^ j') (S.txt L))) _ _
    rw [HDR.out]
    exact EffAt.mono (HPW.out.cp j' s' hs') i1
end
section
open Go.RowKit Go.Maps
theorem fold_put (l:List Value):∀ (k:Nat) (acc:Array Value),k + l.length≤acc.size→(l.zipIdx k).foldl (fun cs x=>cs.setIfInBounds x.2 x.1) acc = (acc.toList.take k ++ l ++ acc.toList.drop (k + l.length)).toArray:=by
 induction l with
 |nil =>
  intro k acc h
  simp
 |cons v r ih =>
  intro k acc h
  simp only [List.zipIdx_cons,List.foldl_cons]
  simp only [List.length_cons] at h
  rw [ih (k + 1) _ (by simp;omega),List.length_cons,show k + 1 + r.length = k + (r.length + 1) by omega]
  congr 1
  have hk:k < acc.toList.length:=by simp;omega
  rw [Array.toList_setIfInBounds,List.take_set,List.take_succ_eq_append_getElem hk,List.set_append_right _ _ (by simp;omega),List.drop_set_of_lt (by omega)]
  simp [Nat.min_eq_left (Nat.le_of_lt (by simpa using hk))]
theorem fold_off (l:List Value) (off:Nat):∀ (k:Nat) (acc:Array Value),(l.zipIdx k).foldl (fun cs x=>cs.setIfInBounds (off + x.2) x.1) acc = (l.zipIdx (off + k)).foldl (fun cs x=>cs.setIfInBounds x.2 x.1) acc:=by
 induction l with
 |nil=>intro k acc;rfl
 |cons v r ih =>
  intro k acc
  simp only [List.zipIdx_cons,List.foldl_cons]
  rw [ih (k + 1),Nat.add_assoc]
theorem fill_at (v:Array Value) (off:Nat) (acc:Array Value) (h:off + v.size≤acc.size):v.zipIdx.foldl (fun cs (x:Value × Nat)=>cs.setIfInBounds (off + x.2) x.1) acc = (acc.toList.take off ++ v.toList ++ acc.toList.drop (off + v.size)).toArray:=by
 have e:v.zipIdx.foldl (fun cs (x:Value × Nat)=>cs.setIfInBounds (off + x.2) x.1) acc = (v.toList.zipIdx 0).foldl (fun cs x=>cs.setIfInBounds (off + x.2) x.1) acc:=by
  rw [← Array.foldl_toList]
  simp
 rw [e,fold_off,Nat.add_zero,fold_put _ _ _ (by simpa using h)]
 simp
theorem run_slice_two {P:Program} (w:World) (t e:TypeId) (v1 v2:Value) (n:Nat) (hu:P.underlying t = some (.slice e)) (h1:v1.cells.size = n) (h2:v2.cells.size = n) (hi:(P.info? e).map (·.size) = some n) (hz:((P.info? e).bind (·.zero)).isSome = true) (hpos:0 < n) (hsmall:n≤8388608) :
  (Instr.buildSlice t 2 #[(0,v1),(1,v2)]).run P w = .ok (.slice (some ⟨w.heap.size,0,none⟩) 2 2) (w.alloc (.cells (v1.cells ++ v2.cells) e)):=by
 cases hie:P.info? e with
 |none=>simp [hie] at hi
 |some ie =>
  simp only [hie,Option.map_some,Option.some.injEq,Option.bind_some] at hi hz
  obtain ⟨z,hzz⟩:=Option.isSome_iff_exists.1 hz
  refine run_buildSlice w t e 2 _ (v1.cells ++ v2.cells) ie z hu hie hzz (by omega) (by omega) ?_
  have hr:∀ (acc:Array Value),Instr.fill (fun i=>some (i * ie.size,ie.size)) acc #[(0,v1),(1,v2)].toList =
    if v1.cells.size≠ie.size∨0 * ie.size + v1.cells.size > acc.size then none else
     let acc1:=v1.cells.zipIdx.foldl (fun cs (x:Value × Nat)=>cs.setIfInBounds (0 * ie.size + x.2) x.1) acc
     if v2.cells.size≠ie.size∨1 * ie.size + v2.cells.size > acc1.size then none else some (v2.cells.zipIdx.foldl (fun cs (x:Value × Nat)=>cs.setIfInBounds (1 * ie.size + x.2) x.1) acc1):=by
   intro acc
   simp only [Instr.fill,Bool.or_eq_true,decide_eq_true_eq,bne_iff_ne,ne_eq]
  rw [hr,if_neg (by simp [h1,hi];omega)]
  simp only [Nat.zero_mul,Nat.one_mul]
  have hsz:((Array.range (2 * ie.size)).map (z.cells[· % z.cells.size]!)).size = 2 * n:=by simp [hi]
  generalize (Array.range (2 * ie.size)).map (z.cells[· % z.cells.size]!) = A at hsz ⊢
  rw [fill_at v1.cells 0 A (by omega)]
  have hs1:((A.toList.take 0 ++ v1.cells.toList ++ A.toList.drop (0 + v1.cells.size)).toArray).size = 2 * n:=by simp [h1,hsz];omega
  generalize hB:(A.toList.take 0 ++ v1.cells.toList ++ A.toList.drop (0 + v1.cells.size)).toArray = B at hs1 ⊢
  rw [if_neg (by simp [h2,hi,hs1];omega),fill_at v2.cells ie.size B (by omega),← hB]
  congr 1
  apply Array.toList_inj.1
  simp [hi,h1,h2,List.take_append,List.drop_append]
  omega
section
variable {ops:Array Oper} {Q:Exit→Act→World→Prop} {rest:List Oper} {a:Act} {w w0:World} {M:List Nat} {L:List As} {o1:Oper}
theorem AtSlice.two {α:Type} (enc:α→List Value) {t e:TypeId} {x y:Operand} (H:St w0 M L w) (hw:Region.wanted o1 (yielded ops a.tmps) = true) (ho:o1.op = .buildSlice t 2 #[(0,x),(1,y)]) (hte:sliceO t = some e) {z:Value} {k bytes:Nat} (hi:infoO e = some (z,k,bytes)) (hk0:Nat.ble 1 k = true) (hk1:Nat.ble k 8388608 = true)
  {v1 v2:Value} (hx:evalO a x = some v1) (hy:evalO a y = some v2) (e1 e2:α) (h1:v1.cells = (enc e1).toArray) (h2:v2.cells = (enc e2).toArray) (hk:∀ x,(enc x).length = k)
  (h:∀ b w',St w0 M (blk b (.cells (flatG enc [e1,e2]).toArray e) :: L) w'→wpList Tryz.prog ops Q rest (a.put o1.dst (.slice (some ⟨b,0,none⟩) 2 2)) w'):AtSlice Tryz.prog ops Q o1 t 2 #[(0,x),(1,y)] rest a w :=
 wpList_step fun _ hK=>by
  rw [if_pos hw]
  obtain ⟨i,h3,h4,h5,h6⟩:=infoO_ok hi
  have hr:=run_slice_two (P:=Tryz.prog) w t e v1 v2 k (sliceO_ok hte) (by rw [h1];simp [hk]) (by rw [h2];simp [hk]) (by simp [h3,h5]) (by simp [h3,h4]) (by have:=Nat.le_of_ble_eq_true hk0;omega) (by have:=Nat.le_of_ble_eq_true hk1;omega)
  have hc:v1.cells ++ v2.cells = (flatG enc [e1,e2]).toArray:=by rw [h1,h2];simp [flatG]
  rw [hc] at hr
  unfold Oper.wp execOp
  simp only [ho,List.map_toArray,List.map_cons,List.map_nil,evalO_eq hx,evalO_eq hy,Sem.run_bind,hr,Result.andThen_ok,Sem.run_pure]
  exact hK _ _ (h _ _ (H.alloc _))
end
end
section
open Go.RowKit Go.Maps
attribute [local go_sem] InGr
def refsOf (x:En):List Nat:=if x.r.kind = 2 then [x.r.left,x.r.right] else if x.r.kind = 3 then [x.r.left] else []
def RefsPost (l:List Nat) (w:World) (e:Ending) (w':World):Prop:=∃ v,e = .returned v∧St w [] [rowsA encI 32 1 v l] w'
theorem refs_pair (L R:Nat) (w:World):Calls Tryz.prog 93 #[.agg #[.int .i64 (2:Nat),.int .u8 (0:Nat),.int .i64 L,.int .i64 R,.int .i64 (0:Nat)]] w (RefsPost [L,R] w):=by
 have H:=St.nil w []
 go_enter Tryz.func93,Tryz.ntmps93
 go_wp2_with (first | refine sL ?_ | (refine sS ?_;clear H;intros;rename_i H) | ((with_reducible refine isSlice ?_);refine AtSlice.two encI H rfl rfl rfl rfl rfl rfl rfl rfl L R rfl rfl encI_len ?_;clear H;intro b _ H;simp only [Act.put,puA,puB,puC]))
 go_ret
 refine ⟨_,rfl,?_⟩
 refine (H.conv (A':=rowsA encI 32 1 (.slice (some ⟨_,0,none⟩) 2 2) [L,R]) (by rw [rowsA_fp',blk_fp];rfl) fun hb=>?_).onlyHead
 rw [blk_ho] at hb
 exact rowsA_of_blk (xs:=[L,R]) hb (by simp [maxLen]) rfl encI_len
theorem refs_power (L k:Nat) (w:World):Calls Tryz.prog 93 #[.agg #[.int .i64 (3:Nat),.int .u8 (0:Nat),.int .i64 L,.int .i64 (0:Nat),.int .i64 k]] w (RefsPost [L] w):=by
 have H:=St.nil w []
 go_enter Tryz.func93,Tryz.ntmps93
 go_wp2_with (first | refine sL ?_ | (refine sS ?_;clear H;intros;rename_i H) | ((with_reducible refine isSlice ?_);refine AtSlice.one H rfl rfl rfl rfl rfl rfl rfl rfl rfl ?_;clear H;intro b _ H;simp only [Act.put,puA,puB,puC]))
 go_ret
 refine ⟨_,rfl,?_⟩
 refine (H.conv (A':=rowsA encI 32 1 (.slice (some ⟨_,0,none⟩) 1 1) [L]) (by rw [rowsA_fp',blk_fp];rfl) fun hb=>?_).onlyHead
 rw [blk_ho] at hb
 exact rowsA_of_blk (xs:=[L]) hb (by simp [maxLen]) rfl encI_len
theorem refs_letter (b:Nat) (w:World):Calls Tryz.prog 93 #[.agg #[.int .i64 (1:Nat),.int .u8 b,.int .i64 (0:Nat),.int .i64 (0:Nat),.int .i64 (0:Nat)]] w (RefsPost [] w):=by
 have H:=St.nil w []
 go_enter Tryz.func93,Tryz.ntmps93
 go_wp2_with (first | refine sL ?_ | (refine sS ?_;clear H;intros;rename_i H))
 go_ret
 exact ⟨_,rfl,(H.empty (A:=rowsA encI 32 1 (.slice none 0 0) []) (rowsA_nil _) (by rw [rowsA_fp'];rfl)).onlyHead⟩
theorem refs_c {L:List En} {i:Nat} {x:En} (h:EnOk L i x) (w:World):Calls Tryz.prog 93 #[.agg #[.int .i64 x.r.kind,.int .u8 x.r.letter,.int .i64 x.r.left,.int .i64 x.r.right,.int .i64 x.r.times]] w (RefsPost (refsOf x) w):=by
 cases h with
 |letter b hb=>exact refs_letter b w
 |pair l r x y hl hr hx hy h=>exact refs_pair (l + 1) (r + 1) w
 |power l k x hl hx hk h=>exact refs_power (l + 1) k w
theorem refs_lt {L:List En} {i:Nat} {x:En} (h:EnOk L i x):∀ r∈refsOf x,1≤r∧r < i + 1:=by
 intro r hr
 cases h with
 |letter b hb=>simp [refsOf,letterE] at hr
 |pair l r' x y hl hr' hx hy h=>simp [refsOf,pairE] at hr;omega
 |power l k x hl hx hk h=>simp [refsOf,powerE] at hr;omega
theorem refs_two (x:En):(refsOf x).length≤2:=by
 unfold refsOf
 split
 ·simp
 ·split <;> simp
theorem entry_c {S:Sto} {T:Tab} {i:Nat} {x:En} (hS:S.Ok) (hT:TabOk S T) (hx:S.list[i]? = some x) (hr:∀ r∈refsOf x,T.Known r) (w:World) (h:(tabA T).ho w) :
  Calls Tryz.prog 94 #[.pointer (some ⟨T.p,0,none⟩),.agg #[.int .i64 x.r.kind,.int .u8 x.r.letter,.int .i64 x.r.left,.int .i64 x.r.right,.int .i64 x.r.times]] w (EntPost S T i x w):=by
 have hi:=getElem_len hx
 have h1:=hS.len
 have h2:=hS.most
 cases hS.ents i x hx with
 |letter b hb=>exact entry_letter hT hx hb w h
 |pair l r y z hl hr' hy hz hlen =>
  obtain ⟨e1,he1⟩:=hr (l + 1) (by simp [refsOf,pairE])
  obtain ⟨e2,he2⟩:=hr (r + 1) (by simp [refsOf,pairE])
  obtain ⟨i1,x1,ei1,_,a1⟩:=hT.ents _ he1
  obtain ⟨i2,x2,ei2,_,a2⟩:=hT.ents _ he2
  simp only [Nat.add_right_cancel_iff] at ei1 ei2
  subst ei1 ei2
  exact entry_pair hS hT hx (S.txt_pair hl hr' hx) (by omega) (by omega) (by omega) (by omega) he1 he2 a1.eff a2.eff w h
 |power l k y hl hy hk hlen =>
  obtain ⟨e1,he1⟩:=hr (l + 1) (by simp [refsOf,powerE])
  obtain ⟨i1,x1,ei1,_,a1⟩:=hT.ents _ he1
  simp only [Nat.add_right_cancel_iff] at ei1
  subst ei1
  have hpos:=(hS.good l y hy).pos
  have hkm:k≤y.w.len * k:=Nat.le_mul_of_pos_left k hpos
  exact entry_power hS hT hx (S.txt_power hl hx) (by omega) (by omega) hk (by omega) he1 a1.eff w h
def Tab.Ext (T T':Tab):Prop:=∃ P es,T' = { T with P:=T.P ++ P,es:=T.es ++ es }
theorem Tab.Ext.refl (T:Tab):T.Ext T:=⟨[],[],by simp⟩
theorem Tab.Ext.trans {T T' T'':Tab} (h:T.Ext T') (h':T'.Ext T''):T.Ext T'':=by
 obtain ⟨P,es,rfl⟩:=h
 obtain ⟨P',es',rfl⟩:=h'
 exact ⟨P ++ P',es ++ es',by simp⟩
theorem Tab.Ext.known {T T':Tab} (h:T.Ext T') {i:Nat} (hk:T.Known i):T'.Known i:=by
 obtain ⟨P,es,rfl⟩:=h
 obtain ⟨v,hv⟩:=hk
 exact ⟨v,List.mem_append.2 (.inl hv)⟩
def Tab.more (T:Tab) (P:PoolT) (i:Nat) (e:Value × Value × Value):Tab:={ T with P:=T.P ++ P,es:=T.es ++ [(i,e)] }
theorem Tab.more_ext (T:Tab) (P:PoolT) (i:Nat) (e:Value × Value × Value):T.Ext (T.more P i e):=⟨P,[(i,e)],rfl⟩
theorem Tab.more_known {T:Tab} {P:PoolT} {i j:Nat} {e:Value × Value × Value}:(T.more P i e).Known j ↔ T.Known j∨j = i:=by
 constructor
 ·rintro ⟨v,hv⟩
  rcases List.mem_append.1 hv with h | h
  ·exact .inl ⟨v,h⟩
  ·simp at h;exact .inr h.1
 ·rintro (⟨v,hv⟩ | rfl)
  ·exact ⟨v,List.mem_append.2 (.inl hv)⟩
  ·exact ⟨e,List.mem_append.2 (.inr (by simp))⟩
theorem kind_refs {x:En}:(x.r.kind = 2→x.r.left∈refsOf x∧x.r.right∈refsOf x)∧(x.r.kind = 3→x.r.left∈refsOf x):=by
 unfold refsOf
 refine ⟨fun h=>by rw [if_pos h];simp,fun h=>by rw [if_neg (by omega),if_pos h];simp⟩
theorem TabOk.more {S:Sto} {T:Tab} (hT:TabOk S T) {i:Nat} {x:En} (hx:S.list[i]? = some x) (hr:∀ r∈refsOf x,T.Known r) (hn:¬ T.Known (i + 1)) {P:PoolT} {ev hv cv:Value} (he:EntAt (T.P ++ P) T.mc T.back S i x ev hv cv):TabOk S (T.more P (i + 1) (ev,hv,cv)):=by
 have hs:∀ x∈T.P,x∈T.P ++ P:=fun x hx=>List.mem_append.2 (.inl hx)
 refine ⟨hT.ok,hT.mac.mono hs,hT.hits.mono hs,fun e hm=>?_,fun j y hj hy=>?_,fun j v v' h1 h2=>?_⟩
 ·rcases List.mem_append.1 hm with hm | hm
  ·obtain ⟨j,y,h1,h2,h3⟩:=hT.ents e hm
   exact ⟨j,y,h1,h2,h3.mono hs⟩
  ·simp only [List.mem_singleton] at hm
   subst hm
   exact ⟨i,x,rfl,hx,he⟩
 ·rcases Tab.more_known.1 hj with hj | hj
  ·obtain ⟨h1,h2⟩:=hT.closed j y hj hy
   exact ⟨fun h=>⟨(Tab.more_ext ..).known (h1 h).1,(Tab.more_ext ..).known (h1 h).2⟩,fun h=>(Tab.more_ext ..).known (h2 h)⟩
  ·simp only [Nat.add_right_cancel_iff] at hj
   subst hj
   rw [hx] at hy
   obtain rfl:=Option.some.inj hy
   obtain ⟨k1,k2⟩:=kind_refs (x:=x)
   exact ⟨fun h=>⟨(Tab.more_ext ..).known (hr _ (k1 h).1),(Tab.more_ext ..).known (hr _ (k1 h).2)⟩,fun h=>(Tab.more_ext ..).known (hr _ (k2 h))⟩
 ·rcases List.mem_append.1 h1 with h1 | h1 <;> rcases List.mem_append.1 h2 with h2 | h2
  ·exact hT.uniq j v v' h1 h2
  ·simp only [List.mem_singleton,Prod.mk.injEq] at h2
   obtain ⟨rfl,_⟩:=h2
   exact absurd ⟨v,h1⟩ hn
  ·simp only [List.mem_singleton,Prod.mk.injEq] at h1
   obtain ⟨rfl,_⟩:=h1
   exact absurd ⟨v',h2⟩ hn
  ·simp only [List.mem_singleton,Prod.mk.injEq] at h1 h2
   rw [h1.2,h2.2]
theorem TabOk.shape {S:Sto} {T:Tab} (hT:TabOk S T) {i:Nat} {e:Value × Value × Value} (he:(i,e)∈T.es):∃ a1 n1 c1 a2 n2 c2 a3 n3 c3,e = (.slice a1 n1 c1,.slice a2 n2 c2,.slice a3 n3 c3):=by
 obtain ⟨j,x,_,_,h⟩:=hT.ents _ he
 obtain ⟨a1,c1,e1,_⟩:=h.eff.1.shape
 obtain ⟨a2,c2,e2,_⟩:=h.eff.2.shape
 obtain ⟨ev,hv,cv⟩:=e
 simp only at e1 e2
 by_cases hk:x.r.kind = 3
 ·obtain ⟨cps,h1,_⟩:=h.copies hk
  obtain ⟨a3,c3,e3,_⟩:=h1.shape
  simp only at e3
  exact ⟨_,_,_,_,_,_,_,_,_,by rw [e1,e2,e3]⟩
 ·have e3:=h.plain hk
  simp only at e3
  exact ⟨_,_,_,_,_,_,_,_,_,by rw [e1,e2,e3]⟩
structure Stk (S:Sto) (K:Nat→Prop) (st:List (Nat × Bool)):Prop where
 ids:∀ (j:Nat) (p:Nat × Bool),st[j]? = some p→1≤p.1∧p.1≤S.list.length∧j + 2 * p.1≤2 * S.list.length
 opened:∀ (j i:Nat) (x:En),st[j]? = some (i + 1,true)→S.list[i]? = some x→∀ r∈refsOf x,K r∨∃ (j':Nat) (b:Bool),j < j'∧st[j']? = some (r,b)
def costS (st:List (Nat × Bool)):Nat:=(st.map fun p=>if p.2 then 1 else 3 ^ (p.1 + 1)).sum
theorem costS_snoc (st:List (Nat × Bool)) (p:Nat × Bool):costS (st ++ [p]) = costS st + if p.2 then 1 else 3 ^ (p.1 + 1):=by simp [costS]
theorem costS_app (a b:List (Nat × Bool)):costS (a ++ b) = costS a + costS b:=by simp [costS]
theorem Stk.len {S:Sto} {K:Nat→Prop} {st:List (Nat × Bool)} (h:Stk S K st):st.length≤2 * S.list.length:=by
 rcases Nat.lt_or_ge (2 * S.list.length) st.length with h1 | h1
 ·have hj:st[2 * S.list.length]? = some st[2 * S.list.length]:=by simp
  have:=h.ids _ _ hj
  omega
 ·exact h1
theorem Stk.pop {S:Sto} {K K':Nat→Prop} {st:List (Nat × Bool)} {p:Nat × Bool} (h:Stk S K (st ++ [p])) (hK:∀ i,K i→K' i) (hp:K' p.1):Stk S K' st:=by
 refine ⟨fun j q hq=>?_,fun j i x hj hx r hr=>?_⟩
 ·have hl:=getElem_len hq
  exact h.ids j q (by rw [List.getElem?_append_left hl];exact hq)
 ·have hl:=getElem_len hj
  rcases h.opened j i x (by rw [List.getElem?_append_left hl];exact hj) hx r hr with hk | ⟨j',b,hjj,hj'⟩
  ·exact .inl (hK r hk)
  ·rw [List.getElem?_append] at hj'
   split at hj'
   ·exact .inr ⟨j',b,hjj,hj'⟩
   ·have hl':=getElem_len hj'
    simp at hl'
    rw [show j' - st.length = 0 by omega] at hj'
    simp at hj'
    left
    rw [hj'] at hp
    exact hp
theorem Stk.top_open {S:Sto} {K:Nat→Prop} {st:List (Nat × Bool)} {i:Nat} {x:En} (h:Stk S K (st ++ [(i + 1,true)])) (hx:S.list[i]? = some x):∀ r∈refsOf x,K r:=by
 intro r hr
 rcases h.opened st.length i x (by simp) hx r hr with hk | ⟨j',b,hjj,hj'⟩
 ·exact hk
 ·have:=getElem_len hj'
  simp at this
  omega
theorem Stk.push {S:Sto} {K:Nat→Prop} {st:List (Nat × Bool)} {i:Nat} {x:En} {new:List Nat} {b:Bool} (hS:S.Ok) (h:Stk S K (st ++ [(i + 1,b)])) (hx:S.list[i]? = some x) (hn:∀ r∈new,r∈refsOf x) (hl:new.length≤2) (ha:∀ r∈refsOf x,K r∨r∈new) :
  Stk S K (st ++ [(i + 1,true)] ++ new.map fun r=>(r,false)):=by
 have htop:=h.ids st.length (i + 1,b) (by simp)
 have hlen:(st ++ [(i + 1,true)]).length = st.length + 1:=by simp
 refine ⟨fun j p hp=>?_,fun j i' x' hj hx' r hr=>?_⟩
 ·rw [List.getElem?_append] at hp
  split at hp
  ·rename_i hlt
   rw [List.getElem?_append] at hp
   split at hp
   ·rename_i hlt2
    exact h.ids j p (by rw [List.getElem?_append_left hlt2];exact hp)
   ·have hl2:=getElem_len hp
    simp at hl2
    obtain rfl:j = st.length:=by omega
    simp at hp
    subst hp
    exact htop
  ·have hl2:=getElem_len hp
   simp only [List.length_map] at hl2
   rw [hlen] at hl2 hp
   rw [List.getElem?_map] at hp
   cases hr:new[j - (st.length + 1)]? with
   |none=>rw [hr] at hp;simp at hp
   |some r =>
    rw [hr] at hp
    simp at hp
    subst hp
    have:=refs_lt (hS.ents i x hx) r (hn r (List.mem_of_getElem? hr))
    simp only at htop ⊢
    omega
 ·have hlow:j < st.length + 1:=by
   rcases Nat.lt_or_ge j (st.length + 1) with h1 | h1
   ·exact h1
   ·rw [List.getElem?_append_right (by rw [hlen];exact h1),List.getElem?_map] at hj
    cases hr:new[j - (st ++ [(i + 1,true)]).length]? <;> rw [hr] at hj <;> simp at hj
  rw [List.getElem?_append_left (by rw [hlen];exact hlow),List.getElem?_append] at hj
  split at hj
  ·rename_i hlt2
   rcases h.opened j i' x' (by rw [List.getElem?_append_left hlt2];exact hj) hx' r hr with hk | ⟨j',b',hjj,hj'⟩
   ·exact .inl hk
   ·rw [List.getElem?_append] at hj'
    split at hj'
    ·rename_i hlt3
     exact .inr ⟨j',b',hjj,by rw [List.append_assoc,List.getElem?_append_left hlt3];exact hj'⟩
    ·have hl2:=getElem_len hj'
     simp at hl2
     rw [show j' - st.length = 0 by omega] at hj'
     simp at hj'
     refine .inr ⟨j',true,hjj,?_⟩
     rw [List.append_assoc,List.getElem?_append_right (by omega),show j' - st.length = 0 by omega]
     simp [hj'.1]
  ·have hl2:=getElem_len hj
   simp at hl2
   obtain rfl:j = st.length:=by omega
   simp at hj
   subst hj
   rw [hx] at hx'
   obtain rfl:=Option.some.inj hx'
   rcases ha r hr with hk | hk
   ·exact .inl hk
   ·obtain ⟨k,hk'⟩:=List.getElem?_of_mem hk
    exact .inr ⟨st.length + 1 + k,false,by omega,by rw [List.getElem?_append_right (by rw [hlen];omega),hlen,show st.length + 1 + k - (st.length + 1) = k by omega,List.getElem?_map,hk'];rfl⟩
theorem costS_push {S:Sto} {st:List (Nat × Bool)} {i:Nat} {x:En} {new:List Nat} (hS:S.Ok) (hx:S.list[i]? = some x) (hn:∀ r∈new,r∈refsOf x) (hl:new.length≤2):costS (st ++ [(i + 1,true)] ++ new.map fun r=>(r,false)) < costS (st ++ [(i + 1,false)]):=by
 rw [costS_app,costS_snoc,costS_snoc]
 have hb:∀ r∈new,3 ^ (r + 1)≤3 ^ (i + 1):=fun r hr=>Nat.pow_le_pow_right (by omega) (by have:=refs_lt (hS.ents i x hx) r (hn r hr);omega)
 have hp:3 ^ (i + 1 + 1) = 3 * 3 ^ (i + 1):=by rw [Nat.pow_succ];omega
 have hpos:0 < 3 ^ (i + 1):=Nat.pow_pos (by omega)
 have h3:3 ^ (i + 1) = 3 * 3 ^ i:=by rw [Nat.pow_succ];omega
 have hpos2:0 < 3 ^ i:=Nat.pow_pos (by omega)
 have hsum:costS (new.map fun r=>(r,false))≤2 * 3 ^ (i + 1):=by
  match new,hl,hb with
  |[],_,_=>simp [costS]
  |[a],_,hb=>have:=hb a (by simp);simp [costS];omega
  |[a,b],_,hb=>have:=hb a (by simp);have:=hb b (by simp);simp [costS];omega
  |_ :: _ :: _ :: _,hl,_=>simp at hl
 simp only [if_true,Bool.false_eq_true,if_false,hp]
 omega
end
section
open Go.RowKit Go.Maps
attribute [local go_sem] InGr
theorem rowsA_cut {α:Type} {enc:α→List Value} {e k g n c:Nat} {xs:List α} {x:α} {w:World} (hk:∀ x,(enc x).length = k) (hn:xs.length = n) (h:(rowsA enc e k (.slice (some ⟨g,0,none⟩) (n + 1) c) (xs ++ [x])).ho w):(rowsA enc e k (.slice (some ⟨g,0,none⟩) n c) xs).ho w:=by
 rw [rowsA_ho] at h ⊢
 obtain ⟨h1,h2⟩:=h
 rcases h2 with ⟨h',_⟩ | ⟨g',cap,cur,h',h3,h4,h5,h6,h7,h8⟩
 ·cases h'
 ·injection h' with e1 e2 e3
  injection e1 with e1
  injection e1 with e1
  subst e1 e3
  subst hn
  refine ⟨flatG_len enc k hk xs,.inr ⟨g,c,cur,rfl,h3,h4,by simp at h5;omega,h6,h7,?_⟩⟩
  have:flatG enc (xs ++ [x]) = flatG enc xs ++ enc x:=flatG_snoc enc xs x
  rw [this] at h8
  have h9:=congrArg (List.take (xs.length * k)) h8
  rw [List.take_take,List.take_left' (flatG_len enc k hk xs)] at h9
  rw [← h9,Nat.min_eq_left]
  exact Nat.mul_le_mul_right _ (by simp)
theorem St.cut {α:Type} {enc:α→List Value} {e k g n c:Nat} {xs:List α} {x:α} {w0 w:World} {M:List Nat} {R:List As} (h:St w0 M (rowsA enc e k (.slice (some ⟨g,0,none⟩) (n + 1) c) (xs ++ [x]) :: R) w) (hk:∀ x,(enc x).length = k) (hn:xs.length = n):St w0 M (rowsA enc e k (.slice (some ⟨g,0,none⟩) n c) xs :: R) w :=
 h.conv (by rw [rowsA_fp',rowsA_fp'];rfl) (rowsA_cut hk hn)
theorem Tab.Ext.same {T T':Tab} (h:T.Ext T'):T'.p = T.p∧T'.s = T.s∧T'.km = T.km∧tabCells T' = tabCells T∧T'.mc = T.mc∧T'.back = T.back:=by
 obtain ⟨P,es,rfl⟩:=h
 exact ⟨rfl,rfl,rfl,rfl,rfl,rfl⟩
theorem tabA_shut_of {T T':Tab} {cs:Array Value} {w0 w:World} {M:List Nat} {L R1 R2 R3:List As} (hext:T.Ext T') (hc:tabCells T = cs) (h:St w0 M L w) (p1:Pick L (blk T.p (.cells cs 90)) R1) (p2:Pick R1 (poolA T'.P) R2) (p3:Pick R2 (mapA Tryz.prog 32 T.km (T'.es.map entV)) R3):St w0 M (tabA T' :: R3) w:=by
 obtain ⟨q1,q2,q3,q4,q5,q6⟩:=hext.same
 refine tabA_shut ?_
 rw [q1,q3,q4,hc]
 exact h.pick3 p1 p2 p3
def LRel (S:Sto) (T:Tab) (M:List Nat) (w:World) (id:Nat) (k:Nat) (v5:Value) (wr:World):Prop :=
 ∃ (T':Tab) (stk:List (Nat × Bool)),T.Ext T'∧TabOk S T'∧Stk S T'.Known stk∧costS stk = k∧(T'.Known id∨∃ b,(id,b)∈stk)∧St w M [rowsA encI 32 1 v5 (stk.map (·.1)),tabA T'] wr
open Classical in
noncomputable def newOf (T:Tab) (l:List Nat):List Nat:=l.filter fun r=>decide (¬ T.Known r)
theorem newOf_known {T:Tab} {l:List Nat} {r:Nat} (h:T.Known r):newOf T (l ++ [r]) = newOf T l:=by
 classical
 unfold newOf
 rw [List.filter_append]
 simp [h]
theorem newOf_unknown {T:Tab} {l:List Nat} {r:Nat} (h:¬ T.Known r):newOf T (l ++ [r]) = newOf T l ++ [r]:=by
 classical
 unfold newOf
 rw [List.filter_append]
 simp [h]
theorem newOf_sub {T:Tab} {l:List Nat}:∀ r∈newOf T l,r∈l:=by
 classical
 intro r hr
 exact (List.mem_filter.1 hr).1
theorem newOf_all {T:Tab} {l:List Nat}:∀ r∈l,T.Known r∨r∈newOf T l:=by
 classical
 intro r hr
 by_cases h:T.Known r
 ·exact .inl h
 ·exact .inr (List.mem_filter.2 ⟨hr,by simpa using h⟩)
theorem newOf_un {T:Tab} {l:List Nat}:∀ r∈newOf T l,¬ T.Known r:=by
 classical
 intro r hr
 simpa using (List.mem_filter.1 hr).2
theorem newOf_len (T:Tab) (l:List Nat):(newOf T l).length≤l.length:=by
 classical
 exact List.length_filter_le _ _
def LRel2 (T T':Tab) (M:List Nat) (w:World) (ids refs:List Nat) (rv:Value) (cs rc:Array Value) (b9:Nat) (v5 v11 v59:Value) (wr:World):Prop :=
 ∃ (j:Nat) (ad:Option Addr) (c:Nat),v59 = .int .i64 j∧j≤refs.length∧v11 = .bool (decide (newOf T' (refs.take j) = []))∧v5 = .slice ad (ids.length + (newOf T' (refs.take j)).length) c ∧
  St w M [rowsA encI 32 1 v5 (ids ++ newOf T' (refs.take j)),blk T.p (.cells cs 90),poolA T'.P,mapA Tryz.prog 32 T.km (T'.es.map entV),rowsA encI 32 1 rv refs,blk b9 (.cells rc 110)] wr
theorem St.take_pool {w0 w:World} {M:List Nat} {L:List As} {P:PoolT} {n0:Nat} (H:St w0 M L w) (h0:w0.heap.size≤n0) (hp:(poolA P).ho w) (hn:∀ b∈(poolA P).fp,n0≤b) (hL:∀ A∈L,∀ b∈A.fp,b < n0):St w0 M (poolA P :: L) w :=
 ⟨H.os,H.tape,H.output,H.size,H.keep,fun A hA=>by
  rcases List.mem_cons.1 hA with rfl | hA
  ·exact hp
  ·exact H.ho A hA,fun A hA c hc=>by
  rcases List.mem_cons.1 hA with rfl | hA
  ·exact .inl (Nat.le_trans h0 (hn c hc))
  ·exact H.own A hA c hc,List.pairwise_cons.2 ⟨fun A hA c hc h=>by have h1:=hn c hc;have h2:=hL A hA c h;omega,H.dis⟩⟩
def IsEnt (S:Sto) (T:Tab) (i:Nat) (x:En) (n0:Nat) (v:Value) (w:World):Prop :=
 ∃ a1 n1 c1 a2 n2 c2 a3 n3 c3 P,v = .agg #[.slice a1 n1 c1,.slice a2 n2 c2,.slice a3 n3 c3]∧EntAt (T.P ++ P) T.mc T.back S i x (.slice a1 n1 c1) (.slice a2 n2 c2) (.slice a3 n3 c3)∧(poolA P).ho w∧∀ b∈(poolA P).fp,n0≤b
theorem IsEnt.stable (S:Sto) (T:Tab) (i:Nat) (x:En) (n0:Nat):∀ v w w',Grew w w'→IsEnt S T i x n0 v w→IsEnt S T i x n0 v w':=fun v w w' hg ⟨a1,n1,c1,a2,n2,c2,a3,n3,c3,P,h1,h2,h3,h4⟩ =>
 ⟨a1,n1,c1,a2,n2,c2,a3,n3,c3,P,h1,h2,(poolA P).loc w w' (fun b hb=>hg.block b ((poolA P).lt w h3 b hb)) h3,h4⟩
theorem EntAt.shape {P:PoolT} {m:Mc} {b:Bool} {S:Sto} {i:Nat} {x:En} {ev hv cv:Value} (h:EntAt P m b S i x ev hv cv):∃ a1 n1 c1 a2 n2 c2 a3 n3 c3,ev = .slice a1 n1 c1∧hv = .slice a2 n2 c2∧cv = .slice a3 n3 c3:=by
 obtain ⟨a1,c1,e1,_⟩:=h.eff.1.shape
 obtain ⟨a2,c2,e2,_⟩:=h.eff.2.shape
 by_cases hk:x.r.kind = 3
 ·obtain ⟨cps,h1,_⟩:=h.copies hk
  obtain ⟨a3,c3,e3,_⟩:=h1.shape
  exact ⟨_,_,_,_,_,_,_,_,_,e1,e2,e3⟩
 ·exact ⟨_,_,_,_,_,_,_,_,_,e1,e2,h.plain hk⟩
section
variable {ops:Array Oper} {a:Act} {w w':World} {o:Oper} {Rr:Value→World→Prop}
theorem OneStep.wholeT {ty:TypeId} {x:Operand} (hw:Region.wanted o (yielded ops a.tmps) = true) (ho:o.op = .load ty x) {g:Nat} (hx:a.eval x = .pointer (some ⟨g,0,none⟩)) {cs:Array Value} {t:TypeId} {fr:Nat × Nat} (hg:w.heap[g]? = some (.cells cs t fr))
  (hr:isRowT ty cs.size = true) (h:Rr (.agg cs) w):OneStep Tryz.prog ops o a w Rr false :=
 OneStep.val hw (by
  have:=run_load_row (w:=w) (isRowT_ok hr) hg (o:=0) (vs:=cs.toList) (by simp only [List.drop_zero];exact List.take_of_length_le (by simp)) (by simp)
  unfold execOp
  simp only [ho,hx,Sem.run_bind,this,Result.andThen_ok]
  rfl) (Below.refl _ _) h
theorem OneStep.call2 {P:Program} {f:FuncId} {x y:Operand} {ts:Array TypeId} {v1 v2:Value} {fn:Func} (hf:P.funcs[f]? = some fn) (hok:(fn.name != "runtime.NumGoroutine" && fn.body.isSome) = true) (hw:Region.wanted o (yielded ops a.tmps) = true) (ho:o.op = .call ⟨.value (.func f),#[x,y],ts⟩) (hx:evalO a x = some v1) (hy:evalO a y = some v2)
  (hc:Calls P f #[v1,v2] w fun e w'=>∃ v,e = .returned v∧Grew w w'∧Rr v w'):OneStep P ops o a w Rr false:=by
 unfold OneStep
 rw [if_pos hw]
 unfold growAt
 rw [exec_call hf hok ho]
 refine ⟨Below.refl _ _,?_⟩
 have e:(#[x,y].map a.eval) = #[v1,v2]:=by simp [evalO_eq hx,evalO_eq hy]
 rw [e]
 refine hc.mono ?_
 rintro e w' ⟨v,rfl,hg,hR⟩
 exact ⟨v,rfl,hg,hR,fun h=>by cases h⟩
end
def LearnPost (S:Sto) (T:Tab) (id:Nat) (M:List Nat) (w:World) (e:Ending) (w':World):Prop :=
 ∃ T',e = .returned .nilIface∧T.Ext T'∧TabOk S T'∧(id = 0∨T'.Known id)∧St w M [tabA T'] w'
attribute [local go_sem] OneStep growAt growUpon in
theorem learn_c {S:Sto} {T:Tab} {lv:Value} {m id:Nat} (hS:S.Ok) (hT:TabOk S T) (hid:id≤S.list.length) (w:World) (h:((tabA T).sep (stoA T.s lv m S)).ho w) :
  Calls Tryz.prog 67 #[.pointer (some ⟨T.p,0,none⟩),.int .i64 id] w (LearnPost S T id (tabA T).fp w):=by
 rw [sep_ho] at h
 obtain ⟨h1,h2,hd⟩:=h
 have H:=St.one h1
 have HK:Ks w (tabA T).fp [stoA T.s lv m S]:=⟨by simpa using h2,by simpa using fun b hb hm=>hd b hm hb⟩
 generalize (tabA T).fp = M at *
 obtain ⟨gc,oc,cc,gn,on,cn,ga,oa,ca,gh,oh,ch,e1,e2,e3,e4⟩:=hT.shapes
 have hcells:tabCells T = #[.pointer (some ⟨T.s,0,none⟩),.int .i64 T.mc.start,.slice (some ⟨gc,oc,none⟩) 256 cc,.slice (some ⟨gn,on,none⟩) T.mc.n cn,.slice (some ⟨ga,oa,none⟩) T.mc.n ca,.slice (some ⟨gh,oh,none⟩) T.mc.n ch,.bool T.back,.map (some T.km)]:=by
  unfold tabCells;rw [e1,e2,e3,e4]
 have HCELLS:=Lib.hid hcells
 have HSO:=Lib.hid hS
 have HL1:=Lib.hid hS.len
 have HL2:=Lib.hid hS.most
 by_cases h0:id = 0
 ·subst h0
  clear hcells e1 e2 e3 e4
  go_enter Tryz.func67,Tryz.ntmps67
  go_wp2_with (first | refine sL ?_ | (refine sS ?_;clear H;intros;rename_i H))
  go_ret
  exact ⟨T,rfl,.refl T,hT,.inl rfl,H⟩
 ·have h0':((id:Int) == 0) = false:=by simp;omega
  have HTO:=Lib.hid hT
  clear hcells e1 e2 e3 e4 h0 hT hd h1 h2 hS
  go_enter Tryz.func67,Tryz.ntmps67
  go_wp2_with (first | refine sL ?_ | (refine sS ?_;clear H;intros;rename_i H) | ((with_reducible refine isSlice ?_);refine AtSlice.one H rfl rfl rfl rfl rfl rfl rfl rfl rfl ?_;clear H;intro b _ H;simp only [Act.put,puA,puB,puC]))
  replace H:=H.conv (A':=rowsA encI 32 1 (.slice (some ⟨b,0,none⟩) 1 1) [id]) (by rw [rowsA_fp',blk_fp];rfl) fun hb=>rowsA_of_blk (xs:=[id]) (by rw [blk_ho] at hb;exact hb) (by simp [maxLen]) (by simp [flatG,encI]) encI_len
  have hid1:1≤id:=by
   rcases Nat.eq_zero_or_pos id with h | h
   ·subst h;simp at h0'
   ·exact h
  go_loopg [5] (costS [(id,false)]) (fun k v5 wr=>LRel S T M w id k v5 wr)
  case atStart =>
   refine ⟨T,[(id,false)],.refl T,HTO.out,⟨fun j p hp=>?_,fun j i x hj=>?_⟩,rfl,.inr ⟨false,by simp⟩,H⟩
   ·have:=getElem_len hp
    simp at this
    subst this
    simp at hp
    subst hp
    exact ⟨hid1,hid,by simp;omega⟩
   ·have:=getElem_len hj
    simp at this
    subst this
    simp at hj
  case round =>
   clear H
   obtain ⟨T',stk,hext,hT',hstk,hk,hgoal,H⟩:=hrel
   obtain ⟨q1,q2,q3,q4,q5,q6⟩:=hext.same
   rcases List.eq_nil_or_concat stk with rfl | ⟨st,⟨top,op⟩,rfl⟩
   ·obtain ⟨ad,c,rfl,_⟩:=rowsA_shape (H.get Pick.here)
    have HF:=Lib.hid (And.intro hext (And.intro hT' hgoal))
    clear hext hT' hgoal hstk hk q1 q2 q3 q4 q5 q6
    go_wp2_with (first | refine sL ?_ | (refine sS ?_;clear H;intros;rename_i H))
    go_ret
    obtain ⟨f1,f2,f3⟩:=HF.out
    exact ⟨T',rfl,f1,f2,.inr (by rcases f3 with h | ⟨b,hb⟩;exact h;simp at hb),H.tail⟩
   ·simp only [List.concat_eq_append,List.map_append,List.map_cons,List.map_nil] at H hstk hk hgoal
    have htop:=hstk.ids st.length (top,op) (by simp)
    simp only at htop
    have hstl:=hstk.len
    have hl1:=HL1.out
    have hl2:=HL2.out
    simp only [List.length_append,List.length_singleton] at hstl
    obtain ⟨i,rfl⟩:∃ i,top = i + 1:=⟨top - 1,by omega⟩
    obtain ⟨x,hx⟩:∃ x,S.list[i]? = some x:=⟨_,List.getElem?_eq_getElem (by omega)⟩
    obtain ⟨g,c,rfl,hgc,hcm⟩:=rowsA_cases (H.get Pick.here) (by simp)
    simp only [List.length_append,List.length_singleton,List.length_map] at H hgc
    unfold maxLen at hcm
    replace H:=tabA_open (H.pick (A:=tabA T') pk)
    rw [q1,q3,q4,HCELLS.out] at H
    have hlk:(st.map (·.1) ++ [i + 1])[st.length]? = some (i + 1):=by simp
    have HLK:=Lib.hid hlk
    have HCO:=Lib.hid hk
    have HX:=Lib.hid hx
    have HST:=Lib.hid hstk
    have HG:=Lib.hid hgoal
    have HT2:=Lib.hid hT'
    have HEX:=Lib.hid hext
    have hil:(st.map (·.1)).length = st.length:=by simp
    have hsl2:st.length≤2097152:=by omega
    generalize hsl:st.length = sl at *
    generalize hids:st.map (·.1) = ids at *
    have HSL:=Lib.hid hsl
    have HIDS:=Lib.hid hids
    by_cases hkn:T'.Known (i + 1)
    ·obtain ⟨e,he⟩:=hkn
     obtain ⟨a1,n1,c1,a2,n2,c2,a3,n3,c3,rfl⟩:=hT'.shape he
     have LK:Hid (∀ w,(mapA Tryz.prog 32 T.km (T'.es.map entV)).ho w→(Instr.lookup 88 (.map (some T.km)) (.int .i64 ((i + 1:Nat):Int)) true).run Tryz.prog w = .ok (.tuple #[.agg #[.slice a1 n1 c1,.slice a2 n2 c2,.slice a3 n3 c3],.bool true]) w):=Lib.hid fun w h=>by
      have:=look_known hT' (i:=i + 1) (by omega) he (by rw [q3];exact h) true
      rw [q3] at this
      exact this
     have HE:=Lib.hid he
     clear he hx hstk hk hgoal hT' hext hlk hsl hids q1 q2 q3 q4 q5 q6
     go_wp2_with (first | refine sL ?_ | (refine sS ?_;clear H;intros;rename_i H) | ((with_reducible refine isLoad ?_);refine AtLoad.cel rfl rfl rfl rfl (rowsA_cell1 (H.get (A:=rowsA encI 32 1 (.slice (some ⟨g,0,none⟩) (sl + 1) c) (ids ++ [i + 1])) pk) encI_len HLK.out rfl) ?_;simp only [Act.put,puA,puB,puC]) | ((with_reducible refine isLook ?_);refine AtLook.go rfl rfl rfl rfl (LK.out _ (H.get (A:=mapA Tryz.prog 32 T.km (T'.es.map entV)) pk)) ?_;simp only [Act.put,puA,puB,puC]))
     have hH:Hid (St w M _ _):=Lib.hid ((H.pick (A:=rowsA encI 32 1 (.slice (some ⟨g,0,none⟩) (sl + 1) c) (ids ++ [i + 1])) pk).cut encI_len hil)
     go_roundg (costS st)
     case measure =>
      rw [← HCO.out,costS_snoc]
      have:0 < 3 ^ (i + 1 + 1):=Nat.pow_pos (by omega)
      cases op <;> simp only [if_true,Bool.false_eq_true,if_false] <;> omega
     case rel =>
      refine ⟨T',st,HEX.out,HT2.out,HST.out.pop (fun _ h=>h) ⟨_,HE.out⟩,rfl,?_,?_⟩
      ·rcases HG.out with h | ⟨b,hb⟩
       ·exact .inl h
       ·rcases List.mem_append.1 hb with hb | hb
        ·exact .inr ⟨b,hb⟩
        ·simp only [List.mem_singleton,Prod.mk.injEq] at hb
         rw [hb.1]
         exact .inl ⟨_,HE.out⟩
      ·have H3:=tabA_shut_of HEX.out HCELLS.out hH.out pk pk pk
       rw [HIDS.out]
       exact (H3.pick2 (A:=rowsA encI 32 1 (.slice (some ⟨g,0,none⟩) sl c) ids) (B:=tabA T') pk pk).onlyTwo
    ·have hsok:=HSO.out
     have heok:=hsok.ents i x hx
     have LK:Hid (∀ w,(mapA Tryz.prog 32 T.km (T'.es.map entV)).ho w→(Instr.lookup 88 (.map (some T.km)) (.int .i64 ((i + 1:Nat):Int)) true).run Tryz.prog w = .ok (.tuple #[.agg #[.slice none 0 0,.slice none 0 0,.slice none 0 0],.bool false]) w):=Lib.hid fun w h=>by
      have:=look_unknown (T:=T') (i:=i + 1) (by omega) hkn (by rw [q3];exact h) true
      rw [q3] at this
      exact this
     have LR:Hid (∀ r,r∈refsOf x→¬ T'.Known r→∀ w,(mapA Tryz.prog 32 T.km (T'.es.map entV)).ho w→(Instr.lookup 88 (.map (some T.km)) (.int .i64 (r:Int)) true).run Tryz.prog w = .ok (.tuple #[.agg #[.slice none 0 0,.slice none 0 0,.slice none 0 0],.bool false]) w):=Lib.hid fun r hr hn w h=>by
      have:=look_unknown (T:=T') (i:=r) (by have:=refs_lt heok r hr;omega) hn (by rw [q3];exact h) true
      rw [q3] at this
      exact this
     have LE:Hid (∀ r,r∈refsOf x→T'.Known r→∃ a1 n1 c1 a2 n2 c2 a3 n3 c3,∀ w,(mapA Tryz.prog 32 T.km (T'.es.map entV)).ho w→(Instr.lookup 88 (.map (some T.km)) (.int .i64 (r:Int)) true).run Tryz.prog w = .ok (.tuple #[.agg #[.slice a1 n1 c1,.slice a2 n2 c2,.slice a3 n3 c3],.bool true]) w):=Lib.hid fun r hr hk=>by
      obtain ⟨e,he⟩:=hk
      obtain ⟨a1,n1,c1,a2,n2,c2,a3,n3,c3,rfl⟩:=hT'.shape he
      refine ⟨a1,n1,c1,a2,n2,c2,a3,n3,c3,fun w h=>?_⟩
      have:=look_known hT' (i:=r) (by have:=refs_lt heok r hr;omega) he (by rw [q3];exact h) true
      rw [q3] at this
      exact this
     have HRU:Hid (∀ w,(stoA T.s lv m S).ho w→Calls Tryz.prog 45 #[.pointer (some ⟨T.s,0,none⟩),.int .i64 ((i:Int) + 1)] w fun e w'=>e = .returned (.tuple #[.agg #[.int .i64 x.r.kind,.int .u8 x.r.letter,.int .i64 x.r.left,.int .i64 x.r.right,.int .i64 x.r.times],.nilIface])∧St w [] [] w'):=Lib.hid fun w h=>rule_c hx _ rfl w h
     have HRE:Hid (∀ w,Calls Tryz.prog 93 #[.agg #[.int .i64 x.r.kind,.int .u8 x.r.letter,.int .i64 x.r.left,.int .i64 x.r.right,.int .i64 x.r.times]] w fun e w'=>∃ ad c,e = .returned (.slice ad (refsOf x).length c)∧St w [] [rowsA encI 32 1 (.slice ad (refsOf x).length c) (refsOf x)] w'):=Lib.hid fun w=>by
      refine (refs_c heok w).mono ?_
      rintro e w' ⟨v,rfl,hs⟩
      obtain ⟨ad,c,rfl,_⟩:=rowsA_shape (hs.ho (rowsA encI 32 1 v (refsOf x)) (by simp))
      exact ⟨ad,c,rfl,hs⟩
     have HEN:Hid ((∀ r∈refsOf x,T'.Known r)→∀ w,(tabA T').ho w→Calls Tryz.prog 94 #[.pointer (some ⟨T.p,0,none⟩),.agg #[.int .i64 x.r.kind,.int .u8 x.r.letter,.int .i64 x.r.left,.int .i64 x.r.right,.int .i64 x.r.times]] w (EntPost S T' i x w)):=Lib.hid fun hr w h=>by
      have:=entry_c hsok hT' hx hr w h
      rwa [q1] at this
     have h2r:=refs_two x
     have HKN:=Lib.hid hkn
     have HHE:=Lib.hid heok
     clear hkn hx hstk hk hgoal hT' hext hlk hsl hids q1 q2 q3 q4 q5 q6 hsok heok
     go_wp2_with (first | refine sL ?_ | (refine sS ?_;clear H;intros;rename_i H) | ((with_reducible refine isLoad ?_);refine AtLoad.cel rfl rfl rfl rfl (rowsA_cell1 (H.get (A:=rowsA encI 32 1 (.slice (some ⟨g,0,none⟩) (sl + 1) c) (ids ++ [i + 1])) pk) encI_len HLK.out rfl) ?_;simp only [Act.put,puA,puB,puC]) | ((with_reducible refine isLook ?_);refine AtLook.go rfl rfl rfl rfl (LK.out _ (H.get (A:=mapA Tryz.prog 32 T.km (T'.es.map entV)) pk)) ?_;simp only [Act.put,puA,puB,puC]) | (go_at_call 45;with_reducible refine Calls.mono (HRU.out _ (H.known HK pk)) ?_;rintro e wc ⟨rfl,hb⟩;replace H:=H.grew hb.below;clear hb) | (go_at_call 93;with_reducible refine Calls.mono (HRE.out _) ?_;rintro e wc ⟨adr,cr,rfl,hb⟩;replace H:=H.call0 hb;clear hb;simp only [List.cons_append,List.nil_append] at H))
     rename_i b9 _ _ _ _
     have hids1:(ids ++ [i + 1]).length = sl + 1:=by simp [hil]
     have HI1:=Lib.hid hids1
     clear hids1
     generalize hI1:ids ++ [i + 1] = ids1 at *
     have HII:=Lib.hid hI1
     clear hI1
     obtain ⟨cs,hcs⟩:∃ cs:Array Value,cs = #[.pointer (some ⟨T.s,0,none⟩),.int .i64 T.mc.start,.slice (some ⟨gc,oc,none⟩) 256 cc,.slice (some ⟨gn,on,none⟩) T.mc.n cn,.slice (some ⟨ga,oa,none⟩) T.mc.n ca,.slice (some ⟨gh,oh,none⟩) T.mc.n ch,.bool T.back,.map (some T.km)]:=⟨_,rfl⟩
     obtain ⟨rc,hrc⟩:∃ rc:Array Value,rc = #[.int .i64 x.r.kind,.int .u8 x.r.letter,.int .i64 x.r.left,.int .i64 x.r.right,.int .i64 x.r.times]:=⟨_,rfl⟩
     rw [← hcs,← hrc] at H
     go_loopw [5,11,59] (fun v5 v11 v59 wr=>LRel2 T T' M w ids1 (refsOf x) (.slice adr (refsOf x).length cr) cs rc b9 v5 v11 v59 wr) (fun _ _ v59 _=>(refsOf x).length - (intOf v59).toNat)
     case atStart =>
      refine ⟨0,some ⟨g,0,none⟩,c,rfl,Nat.zero_le _,by simp [newOf],by simp [newOf,HI1.out],?_⟩
      have e0:ids1 ++ newOf T' ((refsOf x).take 0) = ids1:=by simp [newOf]
      rw [e0]
      exact H.only6 (A:=rowsA encI 32 1 (.slice (some ⟨g,0,none⟩) (sl + 1) c) ids1) (B:=blk T.p (.cells cs 90)) (C:=poolA T'.P) (D:=mapA Tryz.prog 32 T.km (T'.es.map entV)) (E:=rowsA encI 32 1 (.slice adr (refsOf x).length cr) (refsOf x)) (F:=blk b9 (.cells rc 110)) pk pk pk pk pk pk
     case round =>
      clear H
      obtain ⟨j,ad5,c5,rfl,hj,rfl,rfl,H⟩:=hrel
      have hnl:=newOf_len T' ((refsOf x).take j)
      rw [List.length_take] at hnl
      have hnl2:(newOf T' ((refsOf x).take j)).length≤2:=by omega
      by_cases hlt:j < (refsOf x).length
      ·obtain ⟨r,hr⟩:∃ r,(refsOf x)[j]? = some r:=⟨_,List.getElem?_eq_getElem hlt⟩
       have hrm:=List.mem_of_getElem? hr
       have HR:=Lib.hid hr
       have htk:(refsOf x).take (j + 1) = (refsOf x).take j ++ [r]:=by rw [List.take_add_one,hr];rfl
       have HTK:=Lib.hid htk
       obtain ⟨gr,cr',hadr,_,_⟩:=rowsA_cases (H.get (A:=rowsA encI 32 1 (.slice adr (refsOf x).length cr) (refsOf x)) pk) (by omega)
       injection hadr with h1 h2 h3
       subst h1 h3
       clear htk hr h2
       by_cases hkn:T'.Known r
       ·obtain ⟨a1,n1,c1,a2,n2,c2,a3,n3,c3,hL⟩:=LE.out r hrm hkn
        have HL:=Lib.hid hL
        have HKR:=Lib.hid hkn
        clear hL hkn
        rw [hcs] at H
        go_wp2_with (first | refine sL ?_ | (refine sS ?_;clear H;intros;rename_i H) | ((with_reducible refine isLoad ?_);refine AtLoad.cel rfl rfl rfl rfl (rowsA_cell1 (H.get (A:=rowsA encI 32 1 (.slice (some ⟨gr,0,none⟩) (refsOf x).length cr) (refsOf x)) pk) encI_len HR.out rfl) ?_;simp only [Act.put,puA,puB,puC]) | ((with_reducible refine isLook ?_);refine AtLook.go rfl rfl rfl rfl (HL.out _ (H.get (A:=mapA Tryz.prog 32 T.km (T'.es.map entV)) pk)) ?_;simp only [Act.put,puA,puB,puC]))
        rw [← hcs] at H
        refine ⟨⟨j + 1,ad5,c5,by go_num,by omega,by rw [HTK.out,newOf_known HKR.out],by rw [HTK.out,newOf_known HKR.out],?_⟩,by simp [intOf];omega⟩
        rw [HTK.out,newOf_known HKR.out]
        exact H.only6 (A:=rowsA encI 32 1 (.slice ad5 (ids1.length + (newOf T' ((refsOf x).take j)).length) c5) (ids1 ++ newOf T' ((refsOf x).take j))) (B:=blk T.p (.cells cs 90)) (C:=poolA T'.P) (D:=mapA Tryz.prog 32 T.km (T'.es.map entV)) (E:=rowsA encI 32 1 (.slice (some ⟨gr,0,none⟩) (refsOf x).length cr) (refsOf x)) (F:=blk b9 (.cells rc 110)) pk pk pk pk pk pk
       ·have HL:=Lib.hid (LR.out r hrm hkn)
        have HKR:=Lib.hid hkn
        have hib:ids1.length≤2097153:=by rw [HI1.out];omega
        clear hkn
        rw [hcs] at H
        go_wp2_with (first | refine sL ?_ | (refine sS ?_;clear H;intros;rename_i H) | ((with_reducible refine isLoad ?_);refine AtLoad.cel rfl rfl rfl rfl (rowsA_cell1 (H.get (A:=rowsA encI 32 1 (.slice (some ⟨gr,0,none⟩) (refsOf x).length cr) (refsOf x)) pk) encI_len HR.out rfl) ?_;simp only [Act.put,puA,puB,puC]) | ((with_reducible refine isLook ?_);refine AtLook.go rfl rfl rfl rfl (HL.out _ (H.get (A:=mapA Tryz.prog 32 T.km (T'.es.map entV)) pk)) ?_;simp only [Act.put,puA,puB,puC]) | ((with_reducible refine isSlice ?_);refine AtSlice.one H rfl rfl rfl rfl rfl rfl rfl rfl rfl ?_;clear H;intro b _ H;simp only [Act.put,puA,puB,puC]) | ((with_reducible refine isAppend ?_);refine AtAppend.go (enc:=encI) H rfl rfl rfl rfl rfl (by decide) (by decide) rfl pk rfl (H.at pk) [r] rfl (by simp [flatG,encI]) encI_len encI_one (by simp;omega) ?_;clear H;intro ad9 cp9 _ H;simp only [Act.put,puA,puB,puC]))
        rw [← hcs] at H
        have e1:newOf T' ((refsOf x).take (j + 1)) = newOf T' ((refsOf x).take j) ++ [r]:=by rw [HTK.out,newOf_unknown HKR.out]
        refine ⟨⟨j + 1,ad9,cp9,by go_num,by omega,by rw [e1];simp,by rw [e1];simp [Nat.add_assoc],?_⟩,by simp [intOf];omega⟩
        rw [e1,← List.append_assoc]
        exact H.only6 (A:=rowsA encI 32 1 (.slice ad9 ((ids1 ++ newOf T' ((refsOf x).take j)).length + 1) cp9) (ids1 ++ newOf T' ((refsOf x).take j) ++ [r])) (B:=blk T.p (.cells cs 90)) (C:=poolA T'.P) (D:=mapA Tryz.prog 32 T.km (T'.es.map entV)) (E:=rowsA encI 32 1 (.slice (some ⟨gr,0,none⟩) (refsOf x).length cr) (refsOf x)) (F:=blk b9 (.cells rc 110)) pk pk pk pk pk pk
      ·have hje:(refsOf x).length = j:=by omega
       subst hje
       simp only [List.take_length] at H hnl2 ⊢
       have HAL:=Lib.hid (fun r hr=>newOf_all (T:=T') (l:=refsOf x) r hr)
       have HSB:=Lib.hid (fun r hr=>newOf_sub (T:=T') (l:=refsOf x) r hr)
       have HUN:=Lib.hid (fun r hr=>newOf_un (T:=T') (l:=refsOf x) r hr)
       generalize newOf T' (refsOf x) = nw at *
       by_cases hnn:nw = []
       ·subst hnn
        simp only [List.append_nil,List.length_nil,Nat.add_zero] at H ⊢
        obtain ⟨g5,c6,hv5,hgc5,hcm5⟩:=rowsA_cases (H.get Pick.here) (by rw [HI1.out];omega)
        injection hv5 with h1 h2 h3
        subst h1 h3
        clear h2
        rw [HI1.out] at H hgc5 ⊢
        unfold maxLen at hcm5
        have hall:∀ r∈refsOf x,T'.Known r:=fun r hr=>by rcases HAL.out r hr with h | h;exact h;simp at h
        have HE2:=Lib.hid (HEN.out hall)
        have HALL:=Lib.hid hall
        clear hall
        rw [hcs,hrc] at H
        go_wp2_with (first | refine sL ?_ | (refine sS ?_;clear H;intros;rename_i H))
        refine wp_region_grows 8 [IsV (.pointer (some ⟨T.p,0,none⟩)),IsV (.pointer (some ⟨T.p,0,none⟩)),IsV (.pointer (some ⟨T.p,7,none⟩)),IsV (.map (some T.km)),IsV (.int .i64 ((i + 1:Nat):Int)),IsV (.pointer (some ⟨T.p,0,none⟩)),IsV (.agg #[.int .i64 x.r.kind,.int .u8 x.r.letter,.int .i64 x.r.left,.int .i64 x.r.right,.int .i64 x.r.times]),IsEnt S T' i x wr.heap.size] [] [[],[(0,80)],[(1,81)],[(2,82)],[],[],[],[(5,85),(6,86)]] [(0,80),(1,81),(2,82),(3,83),(4,84),(5,85),(6,86),(7,87)] (by kernel_rfl) (by kernel_rfl) rfl ⟨IsV.stable _,IsV.stable _,IsV.stable _,IsV.stable _,IsV.stable _,IsV.stable _,IsV.stable _,IsEnt.stable _ _ _ _ _,trivial⟩ ⟨?o0,?o1,?o2,?o3,?o4,?o5,?o6,?o7,trivial⟩ ?fin
        case o0 =>
         intro vals w' hg hd
         clear hd
         simp only [putS,List.foldl_nil,List.foldl_cons,Act.put,List.setIfInBounds_toArray,List.set_cons_zero,List.set_cons_succ]
         clear hg 
         go_simp
         try go_bits
         exact isV_mk _ _
        case o1 =>
         intro vals w' hg hd
         have h0:vals 0 = .pointer (some ⟨T.p,0,none⟩):=hd.1
         clear hd
         simp only [putS,List.foldl_nil,List.foldl_cons,Act.put,List.setIfInBounds_toArray,List.set_cons_zero,List.set_cons_succ,h0]
         clear hg h0
         go_simp
         try go_bits
         exact isV_mk _ _
        case o2 =>
         intro vals w' hg hd
         have h1:vals 1 = .pointer (some ⟨T.p,0,none⟩):=hd.1
         clear hd
         simp only [putS,List.foldl_nil,List.foldl_cons,Act.put,List.setIfInBounds_toArray,List.set_cons_zero,List.set_cons_succ,h1]
         clear hg h1
         go_simp
         try go_bits
         exact isV_mk _ _
        case o3 =>
         intro vals w' hg hd
         have h2:vals 2 = .pointer (some ⟨T.p,7,none⟩):=hd.1
         clear hd
         simp only [putS,List.foldl_nil,List.foldl_cons,Act.put,List.setIfInBounds_toArray,List.set_cons_zero,List.set_cons_succ,h2]
         have Hg:=H.grew hg
         exact OneStep.cellT rfl rfl rfl (Hg.at pk) rfl rfl rfl
        case o4 =>
         intro vals w' hg hd
         clear hd
         simp only [putS,List.foldl_nil,List.foldl_cons,Act.put,List.setIfInBounds_toArray,List.set_cons_zero,List.set_cons_succ]
         clear hg 
         go_simp
         try go_bits
         exact isV_mk _ _
        case o5 =>
         intro vals w' hg hd
         clear hd
         simp only [putS,List.foldl_nil,List.foldl_cons,Act.put,List.setIfInBounds_toArray,List.set_cons_zero,List.set_cons_succ]
         clear hg 
         go_simp
         try go_bits
         exact isV_mk _ _
        case o6 =>
         intro vals w' hg hd
         clear hd
         simp only [putS,List.foldl_nil,List.foldl_cons,Act.put,List.setIfInBounds_toArray,List.set_cons_zero,List.set_cons_succ]
         have Hg:=H.grew hg
         exact OneStep.wholeT rfl rfl rfl (Hg.at pk) rfl rfl
        case o7 =>
         intro vals w' hg hd
         have h5:vals 5 = .pointer (some ⟨T.p,0,none⟩):=hd.1
         have h6:vals 6 = .agg #[.int .i64 x.r.kind,.int .u8 x.r.letter,.int .i64 x.r.left,.int .i64 x.r.right,.int .i64 x.r.times]:=hd.2.1
         clear hd
         simp only [putS,List.foldl_nil,List.foldl_cons,Act.put,List.setIfInBounds_toArray,List.set_cons_zero,List.set_cons_succ,h5,h6]
         have Hg:=H.grew hg
         have HT9:=tabA_shut_of HEX.out HCELLS.out Hg pk pk pk
         refine OneStep.call2 Tryz.func94 (by kernel_rfl) rfl rfl rfl rfl ((HE2.out w' (HT9.get .here)).mono ?_)
         rintro e w'' ⟨ev,hv,cv,P',rfl,hent,hst⟩
         obtain ⟨a1,n1,c1,a2,n2,c2,a3,n3,c3,rfl,rfl,rfl⟩:=hent.shape
         refine ⟨_,rfl,hst.below,a1,n1,c1,a2,n2,c2,a3,n3,c3,P',rfl,hent,hst.ho _ (by simp),fun b hb=>?_⟩
         rcases hst.own (poolA P') (by simp) b hb with h | h
         ·exact Nat.le_trans hg.size h
         ·simp at h
        case fin =>
         intro vals w' hg hd _
         have h0:vals 0 = .pointer (some ⟨T.p,0,none⟩):=hd.1
         have h1:vals 1 = .pointer (some ⟨T.p,0,none⟩):=hd.2.1
         have h2:vals 2 = .pointer (some ⟨T.p,7,none⟩):=hd.2.2.1
         have h3:vals 3 = .map (some T.km):=hd.2.2.2.1
         have h4:vals 4 = .int .i64 ((i + 1:Nat):Int):=hd.2.2.2.2.1
         have h5:vals 5 = .pointer (some ⟨T.p,0,none⟩):=hd.2.2.2.2.2.1
         have h6:vals 6 = .agg #[.int .i64 x.r.kind,.int .u8 x.r.letter,.int .i64 x.r.left,.int .i64 x.r.right,.int .i64 x.r.times]:=hd.2.2.2.2.2.2.1
         have h7:=hd.2.2.2.2.2.2.2.1
         clear hd
         obtain ⟨a1,n1,c1,a2,n2,c2,a3,n3,c3,P2,e7,hent,hpo,hown⟩:IsEnt S T' i x wr.heap.size (vals 7) w':=h7
         replace H:=(H.grew hg).take_pool H.size hpo hown (fun A hA b hb=>H.fpLt hA b hb)
         simp only [putS,List.foldl_nil,List.foldl_cons,Act.put,List.setIfInBounds_toArray,List.set_cons_zero,List.set_cons_succ,List.drop_succ_cons,List.drop_zero,h0,h1,h2,h3,h4,h5,h6,e7]
         obtain ⟨lk,hlk⟩:=id_key (i:=i + 1) (by omega)
         have HLKK:=Lib.hid hlk
         have HENT:=Lib.hid hent
         have HNK:Hid (∀ e∈T'.es.map entV,e.1≠.int .i64 ((i + 1:Nat):Int)):=Lib.hid fun e he h=>by
          obtain ⟨⟨k9,v9⟩,hm,rfl⟩:=List.mem_map.1 he
          simp only [entV,Value.int.injEq,true_and] at h
          have:k9 = i + 1:=by omega
          subst this
          exact HKN.out ⟨v9,hm⟩
         clear h0 h1 h2 h3 h4 h5 h6 e7 hent hpo hown hlk hg
         go_wp2_with (first | refine sL ?_ | (refine sS ?_;clear H;intros;rename_i H) | ((with_reducible refine isUpdate ?_);refine AtUpdate.new keyed_32 mt_88 H rfl rfl rfl (es:=T'.es.map entV) (k:=.int .i64 ((i + 1:Nat):Int)) (v:=.agg #[.slice a1 n1 c1,.slice a2 n2 c2,.slice a3 n3 c3]) pk rfl rfl HLKK.out HNK.out ?_;clear H;intro _ H;simp only [Act.put,puA,puB,puC]))
         have hH:Hid (St w M _ _):=Lib.hid ((H.pick (A:=rowsA encI 32 1 (.slice (some ⟨g5,0,none⟩) (sl + 1) c5) ids1) pk))
         go_roundg (costS st)
         case measure =>
          rw [← HCO.out,costS_snoc]
          have:0 < 3 ^ (i + 1 + 1):=Nat.pow_pos (by omega)
          cases op <;> simp only [if_true,Bool.false_eq_true,if_false] <;> omega
         case rel =>
          have hkm:∀ j,T'.Known j→(T'.more P2 (i + 1) (.slice a1 n1 c1,.slice a2 n2 c2,.slice a3 n3 c3)).Known j:=fun j h=>(Tab.more_ext ..).known h
          have hkt:(T'.more P2 (i + 1) (.slice a1 n1 c1,.slice a2 n2 c2,.slice a3 n3 c3)).Known (i + 1):=Tab.more_known.2 (.inr rfl)
          have hx2:=HX.out
          refine ⟨T'.more P2 (i + 1) (.slice a1 n1 c1,.slice a2 n2 c2,.slice a3 n3 c3),st,HEX.out.trans (Tab.more_ext ..),HT2.out.more hx2 HALL.out HKN.out HENT.out,HST.out.pop hkm hkt,rfl,?_,?_⟩
          ·rcases HG.out with h | ⟨b,hb⟩
           ·exact .inl (hkm _ h)
           ·rcases List.mem_append.1 hb with hb | hb
            ·exact .inr ⟨b,hb⟩
            ·simp only [List.mem_singleton,Prod.mk.injEq] at hb
             rw [hb.1]
             exact .inl hkt
          ·have h9:=hH.out
           rw [← HII.out] at h9
           have H5:=h9.cut encI_len hil
           have H6:=(H5.pick2 (A:=poolA T'.P) (B:=poolA P2) pk pk).pool_add
           have em:(T'.es.map entV) ++ [(.int .i64 ((i + 1:Nat):Int),.agg #[.slice a1 n1 c1,.slice a2 n2 c2,.slice a3 n3 c3])] = (T'.more P2 (i + 1) (.slice a1 n1 c1,.slice a2 n2 c2,.slice a3 n3 c3)).es.map entV:=by simp [Tab.more,entV]
           rw [em] at H6
           have H7:=tabA_shut_of (T':=T'.more P2 (i + 1) (.slice a1 n1 c1,.slice a2 n2 c2,.slice a3 n3 c3)) (HEX.out.trans (Tab.more_ext ..)) HCELLS.out H6 pk .here pk
           rw [HIDS.out]
           exact (H7.pick2 (A:=rowsA encI 32 1 (.slice (some ⟨g5,0,none⟩) sl c5) ids) (B:=tabA (T'.more P2 (i + 1) (.slice a1 n1 c1,.slice a2 n2 c2,.slice a3 n3 c3))) pk pk).onlyTwo
       ·have hnn2:decide (nw = []) = false:=by simp [hnn]
        rw [hnn2]
        go_wp2_with (first | refine sL ?_ | (refine sS ?_;clear H;intros;rename_i H))
        have hH:=Lib.hid H
        have hS9:=HSO.out
        cases op
        ·go_roundg (costS (st ++ [(i + 1,true)] ++ nw.map fun r=>(r,false)))
         case measure =>
          rw [← HCO.out]
          exact costS_push hS9 HX.out HSB.out hnl2
         case rel =>
          refine ⟨T',_,HEX.out,HT2.out,HST.out.push hS9 HX.out HSB.out hnl2 HAL.out,rfl,?_,?_⟩
          ·rcases HG.out with h | ⟨b,hb⟩
           ·exact .inl h
           ·rcases List.mem_append.1 hb with hb | hb
            ·exact .inr ⟨b,by simp [hb]⟩
            ·simp only [List.mem_singleton,Prod.mk.injEq] at hb
             exact .inr ⟨true,by simp [hb.1]⟩
          ·have h9:=hH.out
           rw [hcs] at h9
           have H7:=tabA_shut_of HEX.out HCELLS.out h9 pk pk pk
           have em:(st ++ [(i + 1,true)] ++ nw.map fun r=>(r,false)).map (·.1) = ids1 ++ nw:=by
            rw [← HII.out,← HIDS.out]
            simp [Function.comp_def]
           rw [em]
           exact (H7.pick2 (A:=rowsA encI 32 1 (.slice ad5 (ids1.length + nw.length) c5) (ids1 ++ nw)) (B:=tabA T') pk pk).onlyTwo
        ·exfalso
         have hk:=HST.out.top_open HX.out
         cases nw with
         |nil=>exact hnn rfl
         |cons r nw=>exact HUN.out r (by simp) (hk r (HSB.out r (by simp)))
end
section
open Go.RowKit Go.Maps
attribute [local go_sem] InGr
def tabC (T:Tab) (gc oc cc gn on cn ga oa ca gh oh ch:Nat):Array Value:=#[.pointer (some ⟨T.s,0,none⟩),.int .i64 T.mc.start,.slice (some ⟨gc,oc,none⟩) 256 cc,.slice (some ⟨gn,on,none⟩) T.mc.n cn,.slice (some ⟨ga,oa,none⟩) T.mc.n ca,.slice (some ⟨gh,oh,none⟩) T.mc.n ch,.bool T.back,.map (some T.km)]
theorem TabOk.cells {S:Sto} {T:Tab} (hT:TabOk S T):∃ gc oc cc gn on cn ga oa ca gh oh ch,tabCells T = tabC T gc oc cc gn on cn ga oa ca gh oh ch:=by
 obtain ⟨gc,oc,cc,gn,on,cn,ga,oa,ca,gh,oh,ch,e1,e2,e3,e4⟩:=hT.shapes
 exact ⟨gc,oc,cc,gn,on,cn,ga,oa,ca,gh,oh,ch,by unfold tabCells tabC;rw [e1,e2,e3,e4]⟩
theorem tabA_pool {T:Tab} {w:World} (h:(tabA T).ho w):(poolA T.P).ho w:=(tabA_ks h).ho _ (by simp)
theorem EffAt.rowE {P:PoolT} {m:Mc} {l:List Nat} {ev hv:Value} (h:EffAt P m l ev hv):RowIn P enc8 1 ev (effE m l):=h.1
theorem sep_mk {A B:As} {w:World} (h1:A.ho w) (h2:B.ho w) (hd:∀ b∈A.fp,b ∉ B.fp):(A.sep B).ho w:=by rw [sep_ho];exact ⟨h1,h2,hd⟩
theorem store_c {S:Sto} {T:Tab} (hT:TabOk S T) (w:World) (h:(tabA T).ho w) :
  Calls Tryz.prog 12 #[.pointer (some ⟨T.p,0,none⟩)] w fun e w'=>e = .returned (.pointer (some ⟨T.s,0,none⟩))∧w' = w:=by
 have HK:=tabA_ks h
 have H:=St.nil w []
 obtain ⟨gc,oc,cc,gn,on,cn,ga,oa,ca,gh,oh,ch,hc⟩:=hT.cells
 rw [hc,tabC] at HK
 clear hc hT h
 go_enter Tryz.func12,Tryz.ntmps12
 go_wp2_with (first | refine sL ?_)
 go_ret
 exact ⟨rfl,rfl⟩
theorem back_c {S:Sto} {T:Tab} (hT:TabOk S T) (w:World) (h:(tabA T).ho w) :
  Calls Tryz.prog 57 #[.pointer (some ⟨T.p,0,none⟩)] w fun e w'=>e = .returned (.bool T.back)∧w' = w:=by
 have HK:=tabA_ks h
 have H:=St.nil w []
 obtain ⟨gc,oc,cc,gn,on,cn,ga,oa,ca,gh,oh,ch,hc⟩:=hT.cells
 rw [hc,tabC] at HK
 clear hc hT h
 go_enter Tryz.func57,Tryz.ntmps57
 go_wp2_with (first | refine sL ?_)
 go_ret
 exact ⟨rfl,rfl⟩
theorem tcheck_c {S:Sto} {T:Tab} {lv:Value} {m id q:Nat} (hT:TabOk S T) (hid:id≤S.list.length) (hq:q < T.mc.n) (w:World) (h:(tabA T).ho w) (hs:(stoA T.s lv m S).ho w) :
  Calls Tryz.prog 66 #[.pointer (some ⟨T.p,0,none⟩),.int .i64 id,.int .i64 q] w fun e w'=>e = .returned .nilIface∧w' = w:=by
 have HK:=tabA_ks h
 have H:=St.nil w []
 obtain ⟨gc,oc,cc,gn,on,cn,ga,oa,ca,gh,oh,ch,hc⟩:=hT.cells
 rw [hc,tabC] at HK
 have HLEN:Hid (Calls Tryz.prog 13 #[.pointer (some ⟨T.s,0,none⟩)] w fun e w'=>e = .returned (.int .i64 S.list.length)∧w' = w):=Lib.hid (len_c w hs)
 have d1:decide ((id:Int) < 0) = false:=by simp
 have d2:decide (S.list.length < id) = false:=by simp;omega
 have d3:decide ((q:Int) < 0) = false:=by simp
 have d4:decide (T.mc.n≤q) = false:=by simp;omega
 generalize T.mc.n = n at *
 generalize S.list.length = len at *
 clear hc hT h hs
 go_enter Tryz.func66,Tryz.ntmps66
 go_wp2_with (first | refine sL ?_ | (go_at_call 13;with_reducible refine same (HLEN.out) ?_))
 go_ret
 exact ⟨rfl,rfl⟩
theorem range_ok (a b n:Nat) (h:a + b≤n) (hn:n≤1152921504606846976) (w:World) :
  Calls Tryz.prog 36 #[.int .i64 a,.int .i64 b,.int .i64 n] w fun e w'=>e = .returned .nilIface∧w' = w:=by
 have HV:Hid (Calls Tryz.prog 28 #[.int .i64 n] w fun e w'=>e = .returned (.bool true)∧w' = w):=Lib.hid (valid_c n true (by symm;rw [decide_eq_true_eq];omega) w)
 have H:=St.nil w []
 have HK:=Ks.nil w []
 have d1:decide ((a:Int) < 0) = false:=by simp
 have d2:decide ((b:Int) < 0) = false:=by simp
 have d3:decide (n < a) = false:=by simp;omega
 have d4:decide ((n:Int) - a < b) = false:=by simp;omega
 go_enter Tryz.func36,Tryz.ntmps36
 go_wp2_with (first | refine sL ?_ | (go_at_call 28;with_reducible refine same (HV.out) ?_))
 go_ret
 exact ⟨rfl,rfl⟩
theorem eff_look {S:Sto} {T T':Tab} (hext:T.Ext T') (hT:TabOk S T') {id:Nat} (hid:id≤1048577) (hkn:id = 0∨T'.Known id):∃ a1 n1 c1 a2 n2 c2 a3 n3 c3,(∀ w,(mapA Tryz.prog 32 T.km (T'.es.map entV)).ho w→(Instr.lookup 88 (.map (some T.km)) (.int .i64 (id:Int)) false).run Tryz.prog w = .ok (.agg #[.slice a1 n1 c1,.slice a2 n2 c2,.slice a3 n3 c3]) w) ∧
  (id≠0→EffAt T'.P T.mc (dirT T.back (S.txt id)) (.slice a1 n1 c1) (.slice a2 n2 c2)):=by
 obtain ⟨p1,p2,p3,p4,p5,p6⟩:=hext.same
 by_cases h0:id = 0
 ·subst h0
  have hn:¬ T'.Known 0:=fun ⟨v,hv⟩=>by
   obtain ⟨i,x,h,_⟩:=hT.ents _ hv
   simp at h
  refine ⟨none,0,0,none,0,0,none,0,0,fun w h=>?_,fun h=>absurd rfl h⟩
  have:=look_unknown (T:=T') (i:=0) (by omega) hn (by rw [p3];exact h) false
  rw [p3] at this
  exact this
 ·obtain ⟨e,he⟩:T'.Known id:=by rcases hkn with h | h;exact absurd h h0;exact h
  obtain ⟨a1,n1,c1,a2,n2,c2,a3,n3,c3,rfl⟩:=hT.shape he
  refine ⟨a1,n1,c1,a2,n2,c2,a3,n3,c3,fun w h=>?_,fun _=>?_⟩
  ·have:=look_known hT hid he (by rw [p3];exact h) false
   rw [p3] at this
   exact this
  ·obtain ⟨i,x,h1,_,h2⟩:=hT.ents _ he
   simp only at h1 h2
   subst h1
   rw [← p5,← p6]
   exact h2.eff
def EffPost (S:Sto) (T:Tab) (id:Nat) (M:List Nat) (w:World) (e:Ending) (w':World):Prop :=
 ∃ T' a1 n1 c1 a2 n2 c2,e = .returned (.tuple #[.agg #[.slice a1 n1 c1,.slice a2 n2 c2],.nilIface])∧T.Ext T'∧TabOk S T'∧(id≠0→EffAt T'.P T.mc (dirT T.back (S.txt id)) (.slice a1 n1 c1) (.slice a2 n2 c2))∧St w M [tabA T'] w'
theorem effect_c {S:Sto} {T:Tab} {lv:Value} {m id q:Nat} (hS:S.Ok) (hT:TabOk S T) (hid:id≤S.list.length) (hq:q < T.mc.n) (w:World) (h:((tabA T).sep (stoA T.s lv m S)).ho w) :
  Calls Tryz.prog 86 #[.pointer (some ⟨T.p,0,none⟩),.int .i64 id,.int .i64 q] w (EffPost S T id (tabA T).fp w):=by
 have h0:=h
 rw [sep_ho] at h
 obtain ⟨h1,h2,hd⟩:=h
 have H:=St.one h1
 have HK:Ks w (tabA T).fp [stoA T.s lv m S]:=⟨by simpa using h2,by simpa using fun b hb hm=>hd b hm hb⟩
 have HC:Hid (∀ w,(tabA T).ho w→(stoA T.s lv m S).ho w→Calls Tryz.prog 66 #[.pointer (some ⟨T.p,0,none⟩),.int .i64 id,.int .i64 q] w fun e w'=>e = .returned .nilIface∧w' = w):=Lib.hid fun w a b=>tcheck_c hT hid hq w a b
 have HL:Hid (∀ w,((tabA T).sep (stoA T.s lv m S)).ho w→Calls Tryz.prog 67 #[.pointer (some ⟨T.p,0,none⟩),.int .i64 id] w (fun e w'=>∃ T',e = .returned .nilIface∧T.Ext T'∧TabOk S T'∧(id = 0∨T'.Known id)∧St w (tabA T).fp [tabA T'] w')):=Lib.hid fun w h=>learn_c hS hT hid w h
 obtain ⟨gc,oc,cc,gn,on,cn,ga,oa,ca,gh,oh,ch,hc⟩:=hT.cells
 have HCELLS:=Lib.hid hc
 have hl1:=hS.len
 have hl2:=hS.most
 have HD:=Lib.hid hd
 clear hc hT h0 h1 h2 hd
 go_enter Tryz.func86,Tryz.ntmps86
 go_wp2_with (first | refine sL ?_ | (refine sS ?_;clear H;intros;rename_i H) | (go_at_call 66;with_reducible refine Calls.mono (HC.out _ (H.get (A:=tabA T) pk) (H.known HK pk)) ?_;rintro e wc ⟨rfl,rfl⟩) | (go_at_call 67;with_reducible refine Calls.mono (HL.out _ (sep_mk (H.get (A:=tabA T) pk) (H.known HK pk) HD.out)) ?_;rintro e wc ⟨T',rfl,hext,hT',hkn,hb⟩;replace H:=H.pick (A:=tabA T) pk;replace H:=H.call hb;clear hb;simp only [List.cons_append,List.nil_append] at H;obtain ⟨p1,p2,p3,p4,p5,p6⟩:=hext.same;replace H:=tabA_open H;rw [p1,p3,p4,HCELLS.out,tabC] at H;have HX:=Lib.hid hext;have HT2:=Lib.hid hT';have HKN:=Lib.hid hkn;obtain ⟨a1,n1,c1,a2,n2,c2,a3,n3,c3,hlk,hef⟩:=eff_look hext hT' (Nat.le_trans (Nat.le_trans hid hl1) (Nat.le_trans hl2 (by omega))) hkn;have HLK:=Lib.hid hlk;have HEF:=Lib.hid hef;clear hext hT' hkn p1 p2 p3 p4 p5 p6 hlk hef) | ((with_reducible refine isLook ?_);refine AtLook.go rfl rfl rfl rfl (HLK.out _ (H.get pk)) ?_;simp only [Act.put,puA,puB,puC]))
 refine bodyPost_ret (res_row_tmp rfl H rfl pk rfl rfl) rfl ?_
 have H3:=tabA_shut_of HX.out HCELLS.out H pk pk pk
 exact ⟨T',a1,n1,c1,a2,n2,c2,rfl,HX.out,HT2.out,HEF.out,H3.onlyHead⟩
def TabPost (S:Sto) (T:Tab) (v:Value) (M:List Nat) (w:World) (e:Ending) (w':World):Prop:=∃ T',e = .returned v∧T.Ext T'∧TabOk S T'∧St w M [tabA T'] w'
theorem end_c {S:Sto} {T:Tab} {lv:Value} {m id q:Nat} (hS:S.Ok) (hT:TabOk S T) (hid:id≤S.list.length) (hq:q < T.mc.n) (w:World) (h:((tabA T).sep (stoA T.s lv m S)).ho w) :
  Calls Tryz.prog 73 #[.pointer (some ⟨T.p,0,none⟩),.int .i64 id,.int .i64 q] w (TabPost S T (.tuple #[.int .i64 (T.mc.ends q (dirT T.back (S.txt id)):Nat),.nilIface]) (tabA T).fp w):=by
 have h0:=h
 rw [sep_ho] at h
 obtain ⟨h1,h2,hd⟩:=h
 have H:=St.one h1
 have HK:Ks w (tabA T).fp [stoA T.s lv m S]:=⟨by simpa using h2,by simpa using fun b hb hm=>hd b hm hb⟩
 have HE:Hid (∀ w,((tabA T).sep (stoA T.s lv m S)).ho w→Calls Tryz.prog 86 #[.pointer (some ⟨T.p,0,none⟩),.int .i64 id,.int .i64 q] w (fun e w'=>∃ T' a1 n1 c1 a2 n2 c2,e = .returned (.tuple #[.agg #[.slice a1 n1 c1,.slice a2 n2 c2],.nilIface])∧T.Ext T'∧TabOk S T'∧(id≠0→EffAt T'.P T.mc (dirT T.back (S.txt id)) (.slice a1 n1 c1) (.slice a2 n2 c2))∧St w (tabA T).fp [tabA T'] w')):=Lib.hid fun w h=>effect_c hS hT hid hq w h
 obtain ⟨cn,ok⟩:=hT.ok
 have HOK:=Lib.hid ok
 have HD:=Lib.hid hd
 by_cases hz:id = 0
 ·have e0:T.mc.ends q (dirT T.back (S.txt id)) = q:=by subst hz;rw [S.txt_zero];unfold dirT;split <;> rfl
  rw [e0]
  have hz0:((id:Int) == 0) = true:=by simp [hz]
  clear hT h0 h1 h2 hd hz e0
  go_enter Tryz.func73,Tryz.ntmps73
  go_wp2_with (first | refine sL ?_ | (refine sS ?_;clear H;intros;rename_i H) | (go_at_call 86;with_reducible refine Calls.mono (HE.out _ (sep_mk (H.get (A:=tabA T) pk) (H.known HK pk) HD.out)) ?_;rintro e wc ⟨T',a1,n1,c1,a2,n2,c2,rfl,hext,hT',hef,hb⟩;replace H:=H.pick (A:=tabA T) pk;replace H:=H.call hb;clear hb;simp only [List.cons_append,List.nil_append] at H;have HX:=Lib.hid hext;have HT2:=Lib.hid hT';skip;clear hext hT' hef))
  go_ret2
  exact ⟨T',rfl,HX.out,HT2.out,(H.pick (A:=tabA T') pk).onlyHead⟩
 ·have hz0:((id:Int) == 0) = false:=by simp;omega
  have hget:=effE_get hq (dirT T.back (S.txt id))
  have HG:=Lib.hid hget
  have HZ:=Lib.hid hz
  have hr:=ok.ends_lt hq (l:=dirT T.back (S.txt id)) fun b hb=>S.txt_lt hS hid b (by unfold dirT at hb;split at hb;simpa using hb;exact hb)
  have hn256:=ok.n256
  generalize T.mc.ends q (dirT T.back (S.txt id)) = r at *
  clear hT h0 h1 h2 hd hz hget
  go_enter Tryz.func73,Tryz.ntmps73
  go_wp2_with (first | refine sL ?_ | (refine sS ?_;clear H;intros;rename_i H) | (go_at_call 86;with_reducible refine Calls.mono (HE.out _ (sep_mk (H.get (A:=tabA T) pk) (H.known HK pk) HD.out)) ?_;rintro e wc ⟨T',a1,n1,c1,a2,n2,c2,rfl,hext,hT',hef,hb⟩;replace H:=H.pick (A:=tabA T) pk;replace H:=H.call hb;clear hb;simp only [List.cons_append,List.nil_append] at H;have HX:=Lib.hid hext;have HT2:=Lib.hid hT';obtain ⟨g1,o1,d1,he1,hrow⟩:=(EffAt.rowE (hef HZ.out)).hasN (effE_len _ _) (Nat.lt_of_le_of_lt (Nat.zero_le _) hq);injection he1 with x1 x2 x3;subst x1 x2 x3;have HROW:=Lib.hid hrow;clear hrow;clear hext hT' hef) | ((with_reducible refine isLoad ?_);refine AtLoad.cel rfl rfl rfl rfl (HROW.out.cell (tabA_pool (H.get (A:=tabA T') pk)) enc8_len HG.out rfl) ?_;simp only [Act.put,puA,puB,puC]))
  go_ret2
  exact ⟨T',rfl,HX.out,HT2.out,(H.pick (A:=tabA T') pk).onlyHead⟩
end
section
open Go.RowKit Go.Maps
attribute [local go_sem] InGr
theorem send_c {S:Sto} {T:Tab} {lv:Value} {m id q:Nat} (hS:S.Ok) (hT:TabOk S T) (hid:id≤S.list.length) (hq:q < T.mc.n) (w:World) (h:((tabA T).sep (stoA T.s lv m S)).ho w) :
  Calls Tryz.prog 46 #[.pointer (some ⟨T.p,0,none⟩),.int .i64 id,.int .i64 q] w (TabPost S T (.int .i64 (T.mc.ends q (dirT T.back (S.txt id)):Nat)) (tabA T).fp w):=by
 have h0:=h
 rw [sep_ho] at h
 obtain ⟨h1,h2,hd⟩:=h
 have H:=St.one h1
 have HK:Ks w (tabA T).fp [stoA T.s lv m S]:=⟨by simpa using h2,by simpa using fun b hb hm=>hd b hm hb⟩
 have HD:=Lib.hid hd
 have HE:Hid (∀ w,((tabA T).sep (stoA T.s lv m S)).ho w→Calls Tryz.prog 73 #[.pointer (some ⟨T.p,0,none⟩),.int .i64 id,.int .i64 q] w (fun e w'=>∃ T',e = .returned (.tuple #[.int .i64 (T.mc.ends q (dirT T.back (S.txt id)):Nat),.nilIface])∧T.Ext T'∧TabOk S T'∧St w (tabA T).fp [tabA T'] w')):=Lib.hid fun w h=>end_c hS hT hid hq w h
 generalize T.mc.ends q (dirT T.back (S.txt id)) = r at *
 clear hT h0 h1 h2 hd
 go_enter Tryz.func46,Tryz.ntmps46
 go_wp2_with (first | refine sL ?_ | (go_at_call 73;with_reducible refine Calls.mono (HE.out _ (sep_mk (H.get (A:=tabA T) pk) (H.known HK pk) HD.out)) ?_;rintro e wc ⟨T',rfl,hext,hT',hb⟩;replace H:=H.pick (A:=tabA T) pk;replace H:=H.call hb;clear hb;simp only [List.cons_append,List.nil_append] at H;have HX:=Lib.hid hext;have HT2:=Lib.hid hT';clear hext hT'))
 go_ret
 exact ⟨T',rfl,HX.out,HT2.out,H⟩
theorem ssize_c {S:Sto} {T:Tab} {lv:Value} {m id:Nat} (hS:S.Ok) (hT:TabOk S T) (hid:id≤S.list.length) (w:World) (h:(tabA T).ho w) (hs:(stoA T.s lv m S).ho w) :
  Calls Tryz.prog 37 #[.pointer (some ⟨T.p,0,none⟩),.int .i64 id] w fun e w'=>e = .returned (.int .i64 (S.txt id).length)∧St w [] [] w':=by
 have H:=St.nil w []
 have HK:Ks w [] [tabA T,stoA T.s lv m S]:=Ks.two h hs
 obtain ⟨x,hx⟩:=enAt_some hid
 have HST:Hid (∀ w,(tabA T).ho w→Calls Tryz.prog 12 #[.pointer (some ⟨T.p,0,none⟩)] w fun e w'=>e = .returned (.pointer (some ⟨T.s,0,none⟩))∧w' = w):=Lib.hid fun w h=>store_c hT w h
 have HW:Hid (∀ w,(stoA T.s lv m S).ho w→Calls Tryz.prog 23 #[.pointer (some ⟨T.s,0,none⟩),.int .i64 (id:Int)] w fun e w'=>e = .returned (.tuple #[.agg #[.int .i64 x.w.len,.int .i64 x.w.lines,.int .i64 x.w.head,.int .i64 x.w.tail,.int .u64 x.w.val,.int .u64 x.w.scale],.nilIface])∧St w [] [] w'):=Lib.hid fun w h=>weight_c hx w h
 have hl:=S.txt_len hS hx
 rw [hl]
 clear hT h hs hl
 go_enter Tryz.func37,Tryz.ntmps37
 go_wp2_with (first | refine sL ?_ | (refine sS ?_;clear H;intros;rename_i H) | (go_at_call 12;with_reducible refine Calls.mono (HST.out _ (H.known HK pk)) ?_;rintro e wc ⟨rfl,rfl⟩) | (go_at_call 23;with_reducible refine Calls.mono (HW.out _ (H.known HK pk)) ?_;rintro e wc ⟨rfl,hb⟩;replace H:=H.grew hb.below;clear hb))
 go_ret
 exact ⟨rfl,H.nix⟩
theorem lcheck_c {S:Sto} {T:Tab} {lv:Value} {m id:Nat} (hT:TabOk S T) (hb:T.back = false) (hid:id≤S.list.length) (w:World) (h:(tabA T).ho w) (hs:(stoA T.s lv m S).ho w) :
  Calls Tryz.prog 27 #[.pointer (some ⟨T.p,0,none⟩),.int .i64 id] w fun e w'=>e = .returned .nilIface∧w' = w:=by
 have H:=St.nil w []
 have HK:=Ks.nil w []
 have HST:Hid (Calls Tryz.prog 12 #[.pointer (some ⟨T.p,0,none⟩)] w fun e w'=>e = .returned (.pointer (some ⟨T.s,0,none⟩))∧w' = w):=Lib.hid (store_c hT w h)
 have HBK:Hid (Calls Tryz.prog 57 #[.pointer (some ⟨T.p,0,none⟩)] w fun e w'=>e = .returned (.bool false)∧w' = w):=Lib.hid (hb ▸ back_c hT w h)
 have HLEN:Hid (Calls Tryz.prog 13 #[.pointer (some ⟨T.s,0,none⟩)] w fun e w'=>e = .returned (.int .i64 S.list.length)∧w' = w):=Lib.hid (len_c w hs)
 have d1:decide ((id:Int) < 0) = false:=by simp
 have d2:decide (S.list.length < id) = false:=by simp;omega
 generalize S.list.length = len at *
 clear hT h hs hb
 go_enter Tryz.func27,Tryz.ntmps27
 go_wp2_with (first | refine sL ?_ | (go_at_call 12;with_reducible refine same (HST.out) ?_) | (go_at_call 57;with_reducible refine same (HBK.out) ?_) | (go_at_call 13;with_reducible refine same (HLEN.out) ?_))
 go_ret
 exact ⟨rfl,rfl⟩
theorem machine_c {S:Sto} {T:Tab} (hT:TabOk S T) (w:World) (h:(tabA T).ho w) :
  Calls Tryz.prog 29 #[.pointer (some ⟨T.p,0,none⟩)] w (CloPost T.mc w):=by
 have HK:=tabA_ks h
 have H:=St.nil w []
 obtain ⟨c,ok⟩:=hT.ok
 have hmac:=hT.mac
 obtain ⟨gc,oc,cc,gn,on,cn,ga,oa,ca,gh,oh,ch,e1,e2,e3,e4⟩:=hT.shapes
 have hc:tabCells T = tabC T gc oc cc gn on cn ga oa ca gh oh ch:=by unfold tabCells tabC;rw [e1,e2,e3,e4]
 rw [e1,e2,e3] at hmac
 rw [hc,tabC] at HK
 have HCL:Hid (∀ w,(poolA T.P).ho w→Calls Tryz.prog 34 #[.agg #[.int .i64 T.mc.start,.slice (some ⟨gc,oc,none⟩) 256 cc,.slice (some ⟨gn,on,none⟩) T.mc.n cn,.slice (some ⟨ga,oa,none⟩) T.mc.n ca]] w fun e w'=>∃ g1 o1 c1 g2 o2 c2 g3 o3 c3 rvs P,e = .returned (.agg #[.int .i64 T.mc.start,.slice (some ⟨g1,o1,none⟩) 256 c1,.slice (some ⟨g2,o2,none⟩) T.mc.n c2,.slice (some ⟨g3,o3,none⟩) T.mc.n c3])∧MacAt P (.slice (some ⟨g1,o1,none⟩) 256 c1) (.slice (some ⟨g2,o2,none⟩) T.mc.n c2) (.slice (some ⟨g3,o3,none⟩) T.mc.n c3) rvs T.mc∧St w [] [poolA P] w'):=Lib.hid fun w hp=>by
  refine (clone_c ok hmac w hp).mono ?_
  rintro e w' ⟨cv,nv,av,rvs,P,he,hm,hs⟩
  obtain ⟨g1,o1,c1,rfl,_⟩:=hm.cls.hasN ok.cls (by omega)
  obtain ⟨g2,o2,c2,rfl,_⟩:=hm.next.hasN hm.len ok.n1
  obtain ⟨g3,o3,c3,rfl,_⟩:=hm.acc.hasN ok.acc ok.n1
  exact ⟨g1,o1,c1,g2,o2,c2,g3,o3,c3,rvs,P,he,hm,hs⟩
 clear hc hT h hmac ok e1 e2 e3 e4
 go_enter Tryz.func29,Tryz.ntmps29
 go_wp2_with (first | refine sL ?_ | (refine sS ?_;clear H;intros;rename_i H) | (go_at_call 34;with_reducible refine Calls.mono (HCL.out _ (H.known HK pk)) ?_;rintro e wc ⟨g1,o1,c1,g2,o2,c2,g3,o3,c3,rvs,P,rfl,hm,hb⟩;replace H:=H.call0 hb;have HM:=Lib.hid hm;clear hb hm;simp only [List.cons_append,List.nil_append] at H))
 refine bodyPost_ret (res_row rfl H rfl pk rfl) rfl ?_
 exact ⟨_,_,_,rvs,P,rfl,HM.out,(H.pick (A:=poolA P) pk).onlyHead⟩
end
end Go.Proofs.YtijnhpaafhcndaaGreat
section
namespace Go.Proofs
open Go.Shelf
def Tryz.laysRp_ren:Go.Shelf.Ren:=⟨fun | 35=>92 | n=>n,fun | 22=>174 | 23=>176 | n=>n,fun | n=>n⟩
theorem Tryz.laysRp:Go.Proofs.SlLaysE0.n35 Tryz.prog Tryz.laysRp_ren:={
 mixed:=by kernel_rfl
 f35:=⟨Tryz.f92.name,by decide,Tryz.func92.trans (congrArg some (by kernel_rfl))⟩
 t0:=Tryz.underlying0
 a0:=Tryz.isAgg0
 z0:=Tryz.sizeOf0
 v0:=Tryz.zeroValue0
 t3:=Tryz.underlying3
 a3:=Tryz.isAgg3
 z3:=Tryz.sizeOf3
 v3:=Tryz.zeroValue3
 t4:=Tryz.underlying4
 a4:=Tryz.isAgg4
 z4:=Tryz.sizeOf4
 v4:=Tryz.zeroValue4
 t22:=Tryz.underlying174
 a22:=Tryz.isAgg174
 z22:=Tryz.sizeOf174
 v22:=Tryz.zeroValue174 }
end Go.Proofs
namespace Go.Proofs.YtijnhpaafhcndaaGreat
open Go.RowKit Go.Maps Go.Sort
set_option maxHeartbeats 2000000
set_option maxRecDepth 100000
set_option linter.unusedSimpArgs false
set_option linter.unusedVariables false
section
variable {α:Type} [Inhabited α] {enc:α→List Value} {e k g n c:Nat} {xs:List α} {w:World}
theorem flatK_list (hk:∀ x,(enc x).length = k) (hk0:0 < k) (xs:List α) (j:Nat) (hj:j < xs.length * k):(flatG enc xs)[j]? = some ((flatK enc k xs.toArray)[j]!):=by
 rw [get_flatK enc k xs.toArray j (by simpa using hj)]
 have h1:j / k < xs.length:=Nat.div_lt_of_lt_mul (by rw [Nat.mul_comm];exact hj)
 have h2:=Nat.mod_lt j hk0
 have h3:=flatG_get enc k hk xs (j / k) xs[j / k] (by simp) (j % k) h2
 rw [Nat.mul_comm,Nat.div_add_mod] at h3
 rw [h3]
 have h4:(xs.toArray)[j / k]! = xs[j / k]:=by rw [getElem!_pos _ _ (by simpa using h1)];simp
 rw [h4]
 have h5:j % k < (enc xs[j / k]).length:=by rw [hk];exact h2
 rw [List.getElem?_eq_getElem h5,getElem!_pos (enc xs[j / k]) (j % k) h5]
theorem holdsK_of (hk:∀ x,(enc x).length = k) (hk0:0 < k) (h:(rowsA enc e k (.slice (some ⟨g,0,none⟩) n c) xs).ho w):HoldsK enc k w g 0 xs.toArray:=by
 intro j hj
 rw [size_flatK] at hj
 simp at hj
 rw [rowsA_ho] at h
 have hf:=flatK_list hk hk0 xs j hj
 have hcell:=World.ownsRow.cells h (g:=g) rfl j _ hf
 rw [Addr.add_mid] at hcell
 refine ⟨hcell,?_⟩
 rcases h.2 with ⟨h',_⟩ | ⟨g',cap,cur,h',_,hg,_⟩
 ·cases h'
 ·injection h' with e1
  injection e1 with e1
  injection e1 with e1
  subst e1
  simp [World.frozen?,hg]
theorem rowsA_put (hk:∀ x,(enc x).length = k) (hk0:0 < k) {ys:List α} (hy:ys.length = xs.length) (m:Nat) (h:(rowsA enc e k (.slice (some ⟨g,0,none⟩) n c) xs).ho w) :
  St w (rowsA enc e k (.slice (some ⟨g,0,none⟩) n c) xs).fp [rowsA enc e k (.slice (some ⟨g,0,none⟩) n c) ys] (putRowK enc k (Go.Sort.ahead w m) g 0 ys.toArray):=by
 have hh:=holdsK_of hk hk0 h
 rw [rowsA_ho] at h
 obtain ⟨hlen,h2⟩:=h
 rcases h2 with ⟨h',_⟩ | ⟨g',cap,cur,h',h3,hg,h5,h6,h7,h8⟩
 ·cases h'
 ·injection h' with e1 e2 e3
  injection e1 with e1
  injection e1 with e1
  subst e1 e2 e3
  have hfk:(flatK enc k ys.toArray).size = xs.length * k:=by rw [size_flatK];simp [hy]
  have hnew:(putRowK enc k (Go.Sort.ahead w m) g 0 ys.toArray).heap[g]? = some (.cells (putCells id 0 (flatK enc k ys.toArray) cur) e):=by
   unfold putRowK putRow mapBlock
   simp [Array.getElem?_modify,Go.Sort.ahead,hg,onCells]
  refine ⟨rfl,rfl,rfl,by simp [putRowK,Go.Sort.ahead],fun b hb hm=>?_,fun A hA=>?_,fun A hA b hb=>?_,by simp⟩
  ·rw [rowsA_fp'] at hm
   simp [Value.ownBlock] at hm
   unfold putRowK putRow mapBlock
   simp [Array.getElem?_modify,Go.Sort.ahead,Ne.symm hm]
  ·simp only [List.mem_singleton] at hA
   subst hA
   rw [rowsA_ho]
   refine ⟨flatG_len enc k hk ys,.inr ⟨g,c,_,by rw [hy],h3,hnew,by omega,h6,by simp [putCells,h7],?_⟩⟩
   apply List.ext_getElem?
   intro j
   by_cases hj:j < ys.length * k
   ·rw [List.getElem?_take,if_pos hj,flatK_list hk hk0 ys j hj]
    have hcs:j < cur.size:=by rw [h7];exact Nat.lt_of_lt_of_le hj (Nat.mul_le_mul_right _ (by omega))
    simp only [putCells,Array.getElem?_toList,Array.getElem?_mapIdx,Array.getElem?_eq_getElem hcs,Option.map_some,id_eq,Nat.zero_add,Nat.sub_zero]
    rw [if_pos ⟨Nat.zero_le _,by rw [hfk,← hy];exact hj⟩]
   ·rw [List.getElem?_eq_none (by rw [List.length_take];omega),List.getElem?_eq_none (by rw [flatG_len enc k hk];omega)]
  ·simp only [List.mem_singleton] at hA
   subst hA
   rw [rowsA_fp'] at hb ⊢
   exact .inr hb
end
def encC (p:Pc):List Value:=[.int .i64 p.id,.int .i64 p.at_,.int .i64 p.n]
theorem encC_len (p:Pc):(encC p).length = 3:=rfl
theorem encC_one (p:Pc):∀ u∈encC p,u.oneCell' = true:=by
 intro u hu
 simp only [encC,List.mem_cons,List.not_mem_nil,or_false] at hu
 rcases hu with rfl | rfl | rfl <;> rfl
instance:Inhabited Pc:=⟨⟨0,0,0⟩⟩
theorem rev_c {ad:Option Addr} {c n:Nat} {xs:List Pc} (hn:xs.length = n) (hx:n≤16777216) (w:World) (h:(rowsA encC 176 3 (.slice ad n c) xs).ho w) :
  Calls Tryz.prog 92 #[.slice ad n c] w fun e w'=>e = .returned (.tuple #[])∧St w (rowsA encC 176 3 (.slice ad n c) xs).fp [rowsA encC 176 3 (.slice ad n c) xs.reverse] w':=by
 subst hn
 by_cases h0:xs.length = 0
 ·have hxs:xs = []:=List.eq_nil_of_length_eq_zero h0
  subst hxs
  have:=AnyQ.slices_Reverse_empty Tryz.laysRp ad c w
  refine this.mono ?_
  rintro e w' ⟨rfl,rfl⟩
  exact ⟨rfl,St.one h⟩
 ·obtain ⟨g,c',he,_,_⟩:=rowsA_cases h (by omega)
  injection he with e1 e2 e3
  subst e1 e3
  have hK:=holdsK_of encC_len (by omega) h
  have:=AnyQ.slices_Reverse Tryz.laysRp 3 Tryz.isAgg176 Tryz.sizeOf176 encC encC_len encC_one g 0 c xs.toArray w hK (by simp;omega)
  refine this.mono ?_
  rintro e w' ⟨rfl,m,rfl⟩
  have e5:xs.toArray.reverse = xs.reverse.toArray:=by simp
  rw [e5]
  exact ⟨rfl,rowsA_put encC_len (by omega) (by simp) m h⟩
end Go.Proofs.YtijnhpaafhcndaaGreat
end
namespace Go.Proofs.YtijnhpaafhcndaaGreat
section
open Go.RowKit Go.Maps
attribute [local go_sem] InGr
def PPost (M:List Nat) (ys:List Pc) (w:World) (e:Ending) (w':World):Prop:=∃ ad c,e = .returned (.slice ad ys.length c)∧St w M [rowsA encC 176 3 (.slice ad ys.length c) ys] w'
theorem ppair_hi {ad:Option Addr} {c:Nat} (i L R s n len s':Nat) (hle:len≤s) (hs':s' = s - len) (hb:s≤1152921504606846976) (w:World) (h:(rowsA encC 176 3 (.slice ad 0 c) []).ho w) :
  Calls Tryz.prog 89 #[.slice ad 0 c,.agg #[.int .i64 (2:Nat),.int .u8 (0:Nat),.int .i64 L,.int .i64 R,.int .i64 (0:Nat)],.agg #[.int .i64 i,.int .i64 s,.int .i64 n],.int .i64 len] w (PPost (rowsA encC 176 3 (.slice ad 0 c) []).fp [⟨R,s',n⟩] w):=by
 have H:=St.one h
 have HK:=Ks.nil w (rowsA encC 176 3 (.slice ad 0 c) []).fp
 generalize (rowsA encC 176 3 (.slice ad 0 c) []).fp = M at *
 have hsub:(s:Int) - len = (s':Nat):=by omega
 clear h hs'
 go_enter Tryz.func89,Tryz.ntmps89
 go_wp2_with (first | refine sL ?_ | (refine sS ?_;clear H;intros;rename_i H) | ((with_reducible refine isSlice ?_);refine AtSlice.one H rfl rfl rfl rfl rfl rfl rfl rfl rfl ?_;clear H;intro b _ H;simp only [Act.put,puA,puB,puC]) | ((with_reducible refine isAppend ?_);refine AtAppend.go (enc:=encC) (xs:=[]) H rfl rfl rfl rfl rfl (by decide) (by decide) rfl pk rfl (H.at pk) [⟨R,s',n⟩] rfl (by simp [flatG,encC]) encC_len encC_one (by simp) ?_;clear H;intro ad9 cp9 _ H;simp only [Act.put,puA,puB,puC]))
 go_ret
 exact ⟨ad9,cp9,rfl,H.onlyHead⟩
theorem ppair_lo {ad:Option Addr} {c:Nat} (i L R s n len n' m:Nat) (hlt:s < len) (hn':n' = min n (len - s)) (hm:m = n - n') (hb:len≤1152921504606846976) (hb2:n≤1152921504606846976) (w:World) (h:(rowsA encC 176 3 (.slice ad 0 c) []).ho w) :
  Calls Tryz.prog 89 #[.slice ad 0 c,.agg #[.int .i64 (2:Nat),.int .u8 (0:Nat),.int .i64 L,.int .i64 R,.int .i64 (0:Nat)],.agg #[.int .i64 i,.int .i64 s,.int .i64 n],.int .i64 len] w (PPost (rowsA encC 176 3 (.slice ad 0 c) []).fp [⟨L,s,n'⟩,⟨R,0,m⟩] w):=by
 have H:=St.one h
 have HK:=Ks.nil w (rowsA encC 176 3 (.slice ad 0 c) []).fp
 generalize (rowsA encC 176 3 (.slice ad 0 c) []).fp = M at *
 have hmin:min (n:Int) ((len:Int) - s) = (n':Nat):=by omega
 have hsub:(n:Int) - n' = (m:Nat):=by omega
 clear h hn' hm
 go_enter Tryz.func89,Tryz.ntmps89
 go_wp2_with (first | refine sL ?_ | (refine sS ?_;clear H;intros;rename_i H) | ((with_reducible refine isSlice ?_);refine AtSlice.two encC H rfl rfl rfl rfl rfl rfl rfl rfl ⟨L,s,n'⟩ ⟨R,0,m⟩ rfl rfl encC_len ?_;clear H;intro b _ H;simp only [Act.put,puA,puB,puC]) | ((with_reducible refine isAppend ?_);refine AtAppend.go (enc:=encC) (xs:=[]) H rfl rfl rfl rfl rfl (by decide) (by decide) rfl pk rfl (H.at pk) [⟨L,s,n'⟩,⟨R,0,m⟩] rfl rfl encC_len encC_one (by simp) ?_;clear H;intro ad9 cp9 _ H;simp only [Act.put,puA,puB,puC]))
 go_ret
 exact ⟨ad9,cp9,rfl,H.onlyHead⟩
theorem tmod_nat (a b:Nat):(a:Int).tmod b = ((a % b:Nat):Int):=by rw [Int.tmod_eq_emod_of_nonneg (by omega)];rfl
theorem ppower_on {ad:Option Addr} {c:Nat} (i L k s n len at_ n' s2 n2 rest n3:Nat) (hlen:0 < len) (hat:at_ = s % len) (hpos:0 < at_) (hn':n' = min n (len - at_)) (hs2:s2 = s + n') (hn2:n2 = n - n') (hr:rest = n2 % len) (hn3:n3 = n2 - rest) (hb:s + n≤1152921504606846976) (hb2:len≤1152921504606846976) (w:World) (h:(rowsA encC 176 3 (.slice ad 0 c) []).ho w) :
  Calls Tryz.prog 90 #[.slice ad 0 c,.agg #[.int .i64 (3:Nat),.int .u8 (0:Nat),.int .i64 L,.int .i64 (0:Nat),.int .i64 k],.agg #[.int .i64 i,.int .i64 s,.int .i64 n],.int .i64 len] w (PPost (rowsA encC 176 3 (.slice ad 0 c) []).fp [⟨L,at_,n'⟩,⟨i,s2,n3⟩,⟨L,0,rest⟩] w):=by
 have H:=St.one h
 have HK:=Ks.nil w (rowsA encC 176 3 (.slice ad 0 c) []).fp
 generalize (rowsA encC 176 3 (.slice ad 0 c) []).fp = M at *
 have hatl:=Nat.mod_lt s hlen
 have hrl:=Nat.mod_lt n2 hlen
 have hrle:=Nat.mod_le n2 len
 have e1:(s:Int) % len = (at_:Nat):=by rw [hat];rfl
 have e1':(s:Int).tmod len = (at_:Nat):=by rw [tmod_nat,hat]
 have e2:min (n:Int) ((len:Int) - at_) = (n':Nat):=by omega
 have e3:(s:Int) + n' = (s2:Nat):=by omega
 have e4:(n:Int) - n' = (n2:Nat):=by omega
 have e5:(n2:Int) % len = (rest:Nat):=by rw [hr];rfl
 have e5':(n2:Int).tmod len = (rest:Nat):=by rw [tmod_nat,hr]
 have e6:(n2:Int) - rest = (n3:Nat):=by omega
 have e7:((len:Int) == 0) = false:=by simp;omega
 have b1:n'≤n:=by omega
 have b2:s2≤1152921504606846976:=by omega
 have b3:n2≤n:=by omega
 have b4:rest≤n2:=by omega
 clear h hat hn' hs2 hn2 hr hn3 hatl hrl hrle
 go_enter Tryz.func90,Tryz.ntmps90
 go_wp2_with (first | refine sL ?_ | (refine sS ?_;clear H;intros;rename_i H) | ((with_reducible refine isSlice ?_);refine AtSlice.two encC H rfl rfl rfl rfl rfl rfl rfl rfl ⟨i,s2,n3⟩ ⟨L,0,rest⟩ rfl rfl encC_len ?_;clear H;intro b _ H;simp only [Act.put,puA,puB,puC]) | ((with_reducible refine isSlice ?_);refine AtSlice.one H rfl rfl rfl rfl rfl rfl rfl rfl rfl ?_;clear H;intro b _ H;simp only [Act.put,puA,puB,puC]) | ((with_reducible refine isAppend ?_);refine AtAppend.go (enc:=encC) (xs:=[]) H rfl rfl rfl rfl rfl (by decide) (by decide) rfl pk rfl (H.at pk) [⟨L,at_,n'⟩] rfl (by simp [flatG,encC]) encC_len encC_one (by simp) ?_;clear H;intro ad9 cp9 _ H;simp only [Act.put,puA,puB,puC]) | ((with_reducible refine isAppend ?_);refine AtAppend.go (enc:=encC) (xs:=[⟨L,at_,n'⟩]) H rfl rfl rfl rfl rfl (by decide) (by decide) rfl pk rfl (H.at pk) [⟨i,s2,n3⟩,⟨L,0,rest⟩] rfl rfl encC_len encC_one (by simp) ?_;clear H;intro ad8 cp8 _ H;simp only [Act.put,puA,puB,puC]))
 go_ret
 exact ⟨ad8,cp8,rfl,H.onlyHead⟩
theorem ppower_off {ad:Option Addr} {c:Nat} (i L k s n len rest n3:Nat) (hlen:0 < len) (hat:s % len = 0) (hr:rest = n % len) (hn3:n3 = n - rest) (hb:s + n≤1152921504606846976) (hb2:len≤1152921504606846976) (w:World) (h:(rowsA encC 176 3 (.slice ad 0 c) []).ho w) :
  Calls Tryz.prog 90 #[.slice ad 0 c,.agg #[.int .i64 (3:Nat),.int .u8 (0:Nat),.int .i64 L,.int .i64 (0:Nat),.int .i64 k],.agg #[.int .i64 i,.int .i64 s,.int .i64 n],.int .i64 len] w (PPost (rowsA encC 176 3 (.slice ad 0 c) []).fp [⟨i,s,n3⟩,⟨L,0,rest⟩] w):=by
 have H:=St.one h
 have HK:=Ks.nil w (rowsA encC 176 3 (.slice ad 0 c) []).fp
 generalize (rowsA encC 176 3 (.slice ad 0 c) []).fp = M at *
 have hrle:=Nat.mod_le n len
 have e1:(s:Int) % len = 0:=by omega
 have e1':(s:Int).tmod len = 0:=by rw [tmod_nat,hat];rfl
 have e5:(n:Int) % len = (rest:Nat):=by rw [hr];rfl
 have e5':(n:Int).tmod len = (rest:Nat):=by rw [tmod_nat,hr]
 have e6:(n:Int) - rest = (n3:Nat):=by omega
 have e7:((len:Int) == 0) = false:=by simp;omega
 have b4:rest≤n:=by omega
 clear h hat hr hn3 hrle
 go_enter Tryz.func90,Tryz.ntmps90
 go_wp2_with (first | refine sL ?_ | (refine sS ?_;clear H;intros;rename_i H) | ((with_reducible refine isSlice ?_);refine AtSlice.two encC H rfl rfl rfl rfl rfl rfl rfl rfl ⟨i,s,n3⟩ ⟨L,0,rest⟩ rfl rfl encC_len ?_;clear H;intro b _ H;simp only [Act.put,puA,puB,puC]) | ((with_reducible refine isAppend ?_);refine AtAppend.go (enc:=encC) (xs:=[]) H rfl rfl rfl rfl rfl (by decide) (by decide) rfl pk rfl (H.at pk) [⟨i,s,n3⟩,⟨L,0,rest⟩] rfl rfl encC_len encC_one (by simp) ?_;clear H;intro ad8 cp8 _ H;simp only [Act.put,puA,puB,puC]))
 go_ret
 exact ⟨ad8,cp8,rfl,H.onlyHead⟩
def encT (p:Pt):List Value:=[.int .i64 p.id,.int .i64 p.power,.int .i64 p.times]
theorem encT_len (p:Pt):(encT p).length = 3:=rfl
theorem encT_one (p:Pt):∀ u∈encT p,u.oneCell' = true:=by
 intro u hu
 simp only [encT,List.mem_cons,List.not_mem_nil,or_false] at hu
 rcases hu with rfl | rfl | rfl <;> rfl
theorem pcopies_one (i L k s n len:Nat) (hn:n = len) (w:World) :
  Calls Tryz.prog 91 #[.agg #[.int .i64 (3:Nat),.int .u8 (0:Nat),.int .i64 L,.int .i64 (0:Nat),.int .i64 k],.agg #[.int .i64 i,.int .i64 s,.int .i64 n],.int .i64 len] w fun e w'=>e = .returned (.agg #[.int .i64 L,.int .i64 (0:Nat),.int .i64 (1:Nat)])∧St w [] [] w':=by
 subst hn
 have H:=St.nil w []
 have HK:=Ks.nil w []
 go_enter Tryz.func91,Tryz.ntmps91
 go_wp2_with (first | refine sL ?_ | (refine sS ?_;clear H;intros;rename_i H))
 exact bodyPost_ret (res_row rfl H rfl pk rfl) rfl ⟨rfl,H.nix⟩
theorem pcopies_more (i L k s n len q:Nat) (hlen:0 < len) (hn:n≠len) (hq:q = n / len) (hb:n≤1152921504606846976) (w:World) :
  Calls Tryz.prog 91 #[.agg #[.int .i64 (3:Nat),.int .u8 (0:Nat),.int .i64 L,.int .i64 (0:Nat),.int .i64 k],.agg #[.int .i64 i,.int .i64 s,.int .i64 n],.int .i64 len] w fun e w'=>e = .returned (.agg #[.int .i64 L,.int .i64 i,.int .i64 q])∧St w [] [] w':=by
 have H:=St.nil w []
 have HK:=Ks.nil w []
 have e1:((n:Int) == len) = false:=by simp;omega
 have e2:(n:Int) / len = (q:Nat):=by rw [hq];rfl
 have e2':(n:Int).tdiv len = (q:Nat):=by rw [Int.tdiv_eq_ediv_of_nonneg (by omega),hq];rfl
 have e7:((len:Int) == 0) = false:=by simp;omega
 have hql:=Nat.div_le_self n len
 rw [← hq] at hql
 clear hn hq
 go_enter Tryz.func91,Tryz.ntmps91
 go_wp2_with (first | refine sL ?_ | (refine sS ?_;clear H;intros;rename_i H))
 refine wp_region_h H 9 [] [] (by kernel_rfl) (by kernel_rfl) ?_
 apply Exists.intro
 refine ⟨fun w1 hw1 HX=>?_,fun bs wr Hr=>?_⟩
 ·refine sG ?_
  repeat (first | refine sQ ?_ | fail | go_big_quiet_step (fail))
  exact wpQuiet_nil rfl
 clear H
 have H:=Hr
 clear Hr
 replace H:=sH H;refine sT ?_
 go_wp2_with (first | refine sL ?_ | (refine sS ?_;clear H;intros;rename_i H))
 exact bodyPost_ret (res_row rfl H rfl pk rfl) rfl ⟨rfl,H.nix⟩
end
section
def textP (S:Sto) (ps:List Pt):List Nat:=(ps.map S.ptTxt).flatten
def textC (S:Sto) (st:List Pc):List Nat:=(st.map S.pcTxt).flatten
theorem textP_snoc (S:Sto) (ps:List Pt) (t:Pt):textP S (ps ++ [t]) = textP S ps ++ S.ptTxt t:=by simp [textP]
theorem textC_append (S:Sto) (a b:List Pc):textC S (a ++ b) = textC S a ++ textC S b:=by simp [textC]
theorem textC_cons (S:Sto) (p:Pc) (b:List Pc):textC S (p :: b) = S.pcTxt p ++ textC S b:=by simp [textC]
structure PInv (S:Sto) (K:Nat→Prop) (goal:List Nat) (ps:List Pt) (st:List Pc) (d:Nat):Prop where
 text:textP S ps ++ textC S st.reverse = goal
 pts:∀ t∈ps,PtOk S K t
 pcs:∀ p∈st,PcOk S K p
 cost:CostL S st.reverse d
 bound:ps.length + d≤6 * S.list.length + 6
section
variable {S:Sto} {K:Nat→Prop} {goal:List Nat} {ps:List Pt} {st:List Pc} {p:Pc} {d:Nat}
theorem PInv.split (h:PInv S K goal ps (st ++ [p]) d):∃ c e,Cost S p c∧CostL S st.reverse e∧d = c + e:=by
 have:=h.cost
 rw [List.reverse_append] at this
 simp only [List.reverse_cons,List.reverse_nil,List.nil_append,List.singleton_append] at this
 cases this with
 |cons hc hs=>exact ⟨_,_,hc,hs,rfl⟩
theorem PInv.tops (h:PInv S K goal ps (st ++ [p]) d):textP S ps ++ (S.pcTxt p ++ textC S st.reverse) = goal:=by
 have:=h.text
 rw [List.reverse_append] at this
 simpa [textC_cons] using this
theorem PInv.skip (h:PInv S K goal ps (st ++ [p]) d) (hp:S.pcTxt p = []):∃ d',d' < d∧PInv S K goal ps st d':=by
 obtain ⟨c,e,hc,hs,rfl⟩:=h.split
 have:=hc.pos
 have ht:=h.tops
 rw [hp,List.nil_append] at ht
 exact ⟨e,by omega,ht,h.pts,fun q hq=>h.pcs q (by simp [hq]),hs,by have:=h.bound;omega⟩
theorem PInv.take (h:PInv S K goal ps (st ++ [p]) d) {t:Pt} (ht:S.ptTxt t = S.pcTxt p) (ok:PtOk S K t):∃ d',d' < d∧PInv S K goal (ps ++ [t]) st d':=by
 obtain ⟨c,e,hc,hs,rfl⟩:=h.split
 have:=hc.pos
 refine ⟨e,by omega,?_,fun u hu=>?_,fun q hq=>h.pcs q (by simp [hq]),hs,by have:=h.bound;simp;omega⟩
 ·rw [textP_snoc,List.append_assoc,ht];exact h.tops
 ·rcases List.mem_append.1 hu with hu | hu
  ·exact h.pts u hu
  ·simp at hu;subst hu;exact ok
theorem PInv.cut (h:PInv S K goal ps (st ++ [p]) d) {nx:List Pc} (ht:textC S nx = S.pcTxt p) (ok:∀ q∈nx,PcOk S K q) (hc:∀ c,Cost S p c→∃ e,CostL S nx e∧e < c):∃ d',d' < d∧PInv S K goal ps (st ++ nx.reverse) d':=by
 obtain ⟨c,e,hc1,hs,rfl⟩:=h.split
 obtain ⟨e',he',hlt⟩:=hc c hc1
 refine ⟨e' + e,by omega,?_,h.pts,fun q hq=>?_,?_,by have:=h.bound;omega⟩
 ·rw [List.reverse_append,List.reverse_reverse,textC_append,ht];exact h.tops
 ·rcases List.mem_append.1 hq with hq | hq
  ·exact h.pcs q (by simp [hq])
  ·exact ok q (List.mem_reverse.1 hq)
 ·rw [List.reverse_append,List.reverse_reverse]
  exact he'.append hs
theorem PInv.len (h:PInv S K goal ps st d):st.length≤d:=by
 have:=h.cost.len
 simpa using this
theorem PInv.first {i s n:Nat} (hi:i≤S.list.length) (hk:i = 0∨K i) (hf:s + n≤(S.txt i).length):∃ d,PInv S K (S.pcTxt ⟨i,s,n⟩) [] [⟨i,s,n⟩] d:=by
 have ok:PcOk S K ⟨i,s,n⟩:=⟨hi,hk,hf⟩
 by_cases h0:i = 0
 ·subst h0
  have hn:n = 0:=by rw [S.txt_zero] at hf;simp at hf;omega
  exact ⟨1,by simp [textP,textC],by simp,by simpa using ok,.one (.nul hn),by simp⟩
 ·exact ⟨6 * i,by simp [textP,textC],by simp,by simpa using ok,.one (.any (by simp only;omega)),by simp;omega⟩
theorem full_part (h:PcOk S K p) (h0:1≤p.id) (hn:(S.txt p.id).length≤p.n):S.ptTxt ⟨p.id,0,1⟩ = S.pcTxt p∧PtOk S K ⟨p.id,0,1⟩:=by
 have hf:=h.fits
 have hz:p.at_ = 0:=by omega
 refine ⟨?_,h0,h.le,?_,Nat.le_refl _,.inl rfl⟩
 ·simp only [Sto.ptTxt,Sto.pcTxt,rep_one,hz,List.drop_zero]
  rw [List.take_of_length_le hn]
 ·rcases h.known with h1 | h1
  ·omega
  ·exact h1
end
end
section
structure CutOk (S:Sto) (K:Nat→Prop) (p:Pc) (nx:List Pc):Prop where
 text:textC S nx = S.pcTxt p
 ok:∀ q∈nx,PcOk S K q
 cost:∀ c,Cost S p c→∃ e,CostL S nx e∧e < c
structure TakeOk (S:Sto) (K:Nat→Prop) (p:Pc) (t:Pt):Prop where
 text:S.ptTxt t = S.pcTxt p
 ok:PtOk S K t
section
variable {S:Sto} {K:Nat→Prop}
structure PairCase (S:Sto) (K:Nat→Prop) (pi pa pn:Nat) (L R:Nat):Prop where
 lo1:L≤S.list.length
 hi:(S.txt L).length≤pa→CutOk S K ⟨pi,pa,pn⟩ [⟨R,pa - (S.txt L).length,pn⟩]
 lo:pa < (S.txt L).length→∀ n',n' = min pn ((S.txt L).length - pa)→CutOk S K ⟨pi,pa,pn⟩ [⟨L,pa,n'⟩,⟨R,0,pn - n'⟩]
structure PowerCase (S:Sto) (K:Nat→Prop) (pi pa pn:Nat) (L k:Nat):Prop where
 lo1:L≤S.list.length
 pos:0 < (S.txt L).length
 one:pa % (S.txt L).length = 0→pn % (S.txt L).length = 0→pn = (S.txt L).length→TakeOk S K ⟨pi,pa,pn⟩ ⟨L,0,1⟩
 more:pa % (S.txt L).length = 0→pn % (S.txt L).length = 0→pn≠(S.txt L).length→TakeOk S K ⟨pi,pa,pn⟩ ⟨L,pi,pn / (S.txt L).length⟩
 off:pa % (S.txt L).length = 0→pn % (S.txt L).length≠0→CutOk S K ⟨pi,pa,pn⟩ [⟨pi,pa,pn - pn % (S.txt L).length⟩,⟨L,0,pn % (S.txt L).length⟩]
 on:pa % (S.txt L).length≠0→∀ n',n' = min pn ((S.txt L).length - pa % (S.txt L).length)→CutOk S K ⟨pi,pa,pn⟩ [⟨L,pa % (S.txt L).length,n'⟩,⟨pi,pa + n',pn - n' - (pn - n') % (S.txt L).length⟩,⟨L,0,(pn - n') % (S.txt L).length⟩]
theorem piece_case (hS:S.Ok) (hcl:S.Closed K) {i pa pn:Nat} (hok:PcOk S K ⟨i + 1,pa,pn⟩) (h0:0 < pn) (hlt:pn < (S.txt (i + 1)).length) :
  ∃ x,S.list[i]? = some x∧((∃ L R,x.r = ⟨2,0,L,R,0⟩∧PairCase S K (i + 1) pa pn L R)∨(∃ L k,x.r = ⟨3,0,L,0,k⟩∧PowerCase S K (i + 1) pa pn L k)):=by
 have hi:i < S.list.length:=hok.le
 obtain ⟨x,hx⟩:∃ x,S.list[i]? = some x:=⟨_,List.getElem?_eq_getElem hi⟩
 refine ⟨x,hx,?_⟩
 cases hS.ents i x hx with
 |letter b hb=>rw [S.txt_letter hx] at hlt;simp at hlt;omega
 |pair l r y z hl hr hy hz hs =>
  refine .inl ⟨l + 1,r + 1,rfl,by omega,fun h=>?_,fun h n' hn'=>?_⟩
  ·refine ⟨?_,?_,fun c hc=>?_⟩
   ·have:=(pair_hi hl hr hx hcl hok h (.any (by simp)) h0 hlt).1
    rw [this];simp [textC]
   ·intro q hq
    simp only [List.mem_singleton] at hq
    subst hq
    exact (pair_hi hl hr hx hcl hok h (.any (by simp)) h0 hlt).2.1
   ·obtain ⟨_,_,d,hd,hdc⟩:=pair_hi hl hr hx hcl hok h hc h0 hlt
    exact ⟨d,.one hd,hdc⟩
  ·refine ⟨?_,?_,fun c hc=>?_⟩
   ·have:=(pair_lo hl hr hx hcl hok h hn' (.any (by simp)) h0 hlt).1
    rw [this];simp [textC]
   ·have:=pair_lo hl hr hx hcl hok h hn' (.any (by simp)) h0 hlt
    intro q hq
    simp only [List.mem_cons,List.not_mem_nil,or_false] at hq
    rcases hq with rfl | rfl
    ·exact this.2.1
    ·exact this.2.2.1
   ·obtain ⟨_,_,_,d,e,hd,he,hdc⟩:=pair_lo hl hr hx hcl hok h hn' hc h0 hlt
    exact ⟨d + e,.two hd he,hdc⟩
 |power l k y hl hy hk hs =>
  have hpos:0 < (S.txt (l + 1)).length:=by rw [(S.txt_ok hS l y hy).1];exact (hS.good l y hy).pos
  have hki:K (i + 1):=by rcases hok.known with h | h;cases h;exact h
  have hkl:K (l + 1):=(hcl i _ hki hx).2 rfl
  refine .inr ⟨l + 1,k,rfl,by omega,hpos,fun h1 h2 h3=>?_,fun h1 h2 h3=>?_,fun h1 h2=>?_,fun h1 n' hn'=>?_⟩
  ·obtain ⟨e1,_,_⟩:=power_whole hl hx hcl hok hpos h1 h2 h0
   rw [h3,Nat.div_self hpos] at e1
   exact ⟨by rw [h3,e1];rfl,by simp,by simp only;omega,hkl,Nat.le_refl _,.inl rfl⟩
  ·obtain ⟨e1,e2,e3⟩:=power_whole hl hx hcl hok hpos h1 h2 h0
   exact ⟨by rw [e1];rfl,by simp,by simp only;omega,hkl,e2,.inr ⟨i,y,k,rfl,hki,hx,e3⟩⟩
  ·have hc0:Cost S ⟨i + 1,pa,pn⟩ (6 * (i + 1)):=.any (by simp)
   have hn0:(0:Nat) = if pa % (S.txt (l + 1)).length = 0 then 0 else min pn ((S.txt (l + 1)).length - pa % (S.txt (l + 1)).length):=by rw [if_pos h1]
   have hp:=fun c hc=>power_cut (c:=c) hl hx hcl hok hpos hn0 hc h0 hlt (fun h=>h2 h.2)
   simp only [Nat.sub_zero,Nat.add_zero] at hp
   refine ⟨?_,?_,fun c hc=>?_⟩
   ·have:=(hp _ hc0).1
    rw [this,S.pcTxt_nul _ rfl];simp [textC]
   ·have:=hp _ hc0
    intro q hq
    simp only [List.mem_cons,List.not_mem_nil,or_false] at hq
    rcases hq with rfl | rfl
    ·exact this.2.2.1
    ·exact this.2.2.2.1
   ·obtain ⟨_,_,_,_,d,e,f,_,he,hf,_,hlt2⟩:=hp c hc
    exact ⟨e + f,.two he hf,hlt2 h1⟩
  ·have hc0:Cost S ⟨i + 1,pa,pn⟩ (6 * (i + 1)):=.any (by simp)
   have hn1:n' = if pa % (S.txt (l + 1)).length = 0 then 0 else min pn ((S.txt (l + 1)).length - pa % (S.txt (l + 1)).length):=by rw [if_neg h1];exact hn'
   have hp:=fun c hc=>power_cut (c:=c) hl hx hcl hok hpos hn1 hc h0 hlt (fun h=>h1 h.1)
   refine ⟨?_,?_,fun c hc=>?_⟩
   ·have:=(hp _ hc0).1
    rw [this];simp [textC]
   ·have:=hp _ hc0
    intro q hq
    simp only [List.mem_cons,List.not_mem_nil,or_false] at hq
    rcases hq with rfl | rfl | rfl
    ·exact this.2.1
    ·exact this.2.2.1
    ·exact this.2.2.2.1
   ·obtain ⟨_,_,_,_,d,e,f,hd,he,hf,hlt2,_⟩:=hp c hc
    exact ⟨d + (e + f),.three hd he hf,hlt2⟩
end
end
section
open Go.RowKit Go.Maps
attribute [local go_sem] InGr
section
variable {ops:Array Oper} {Q:Exit→Act→World→Prop} {rest:List Oper} {a:Act} {w w0:World} {o1:Oper} {dst:Option Tmp} {ty0:TypeId} {pos:String} {aft:Array Edge} {gd:Option (Nat × Bool)}
theorem run_cut0 {t e:TypeId} (hte:sliceO t = some e) {z:Value} {k bytes:Nat} (hi:infoO e = some (z,k,bytes)) {ad:Option Addr} {n c:Nat} (had:ad = none∨∃ g,ad = some ⟨g,0,none⟩) (w:World) :
  (Instr.sliceAt t (.slice ad n c) none (some (.int .i64 0)) none).run Tryz.prog w = .ok (.slice ad 0 c) w:=by
 obtain ⟨i,h2,h3,h4,h5⟩:=infoO_ok hi
 have hu:=sliceO_ok hte
 have hb:(Instr.sliceBound (Value.int .i64 0) c .sliceAcap).run Tryz.prog w = .ok 0 w:=by
  unfold Instr.sliceBound
  simp [asIntOf]
 rcases had with rfl | ⟨g,rfl⟩
 ·simp [Instr.sliceAt,Instr.slice,Instr.sliceBounds,run_underlying hu,sizeOf,typeInfo,h2,Sem.run_bind,Result.andThen,hb]
 ·simp [Instr.sliceAt,Instr.slice,Instr.sliceBounds,run_underlying hu,sizeOf,typeInfo,h2,Sem.run_bind,Result.andThen,hb,Addr.add]
def AtCut (P:Program) (ops:Array Oper) (Q:Exit→Act→World→Prop) (o:Oper) (_:TypeId) (_ _:Operand) (rest:List Oper) (a:Act) (w:World):Prop:=wpList P ops Q (o :: rest) a w
theorem isCut {P:Program} {t:TypeId} {x y:Operand} (h:AtCut P ops Q ⟨dst,.slice t x none (some y) none,ty0,pos,aft,gd⟩ t x y rest a w):wpList P ops Q (⟨dst,.slice t x none (some y) none,ty0,pos,aft,gd⟩ :: rest) a w:=h
theorem AtCut.zero {t e:TypeId} {x y:Operand} (hw:Region.wanted o1 (yielded ops a.tmps) = true) (ho:o1.op = .slice t x none (some y) none) (hte:sliceO t = some e) {z:Value} {k bytes:Nat} (hi:infoO e = some (z,k,bytes)) {ad:Option Addr} {n c:Nat} (hx:a.eval x = .slice ad n c) (hy:a.eval y = .int .i64 0) (had:ad = none∨∃ g,ad = some ⟨g,0,none⟩)
  (h:wpList Tryz.prog ops Q rest (a.put o1.dst (.slice ad 0 c)) w):AtCut Tryz.prog ops Q o1 t x y rest a w :=
 wpList_step fun _ hK=>by
  rw [if_pos hw]
  unfold Oper.wp execOp
  simp only [ho,hx,hy,Option.map_none,Option.map_some,Sem.run_bind,run_cut0 hte hi had,Result.andThen_ok,Sem.run_pure]
  exact hK _ _ h
theorem AtAppend.rows {α:Type} {enc:α→List Value} {t e:TypeId} {x y:Operand} {M:List Nat} {L R:List As} (H:St w0 M L w) (hw:Region.wanted o1 (yielded ops a.tmps) = true) (ho:o1.op = .call ⟨.builtin .append,#[x,y],#[t,t]⟩) (hte:sliceO t = some e) {z:Value} {k bytes:Nat} (hi:infoO e = some (z,k,bytes))
  (hz:z.cells.size = k) (hk0:0 < k) (hb0:0 < bytes) {v:Value} (hx:evalO a x = some v) {xs:List α} (hp:Pick L (rowsA enc e k v xs) R) {u:Value} (hy:evalO a y = some u) {ys:List α} (hu:(rowsA enc e k u ys).ho w) (hk:∀ x,(enc x).length = k) (h1:∀ x,∀ u∈enc x,u.oneCell' = true) (hb:(xs.length + ys.length) * bytes≤140737488355328)
  (h:∀ ad cp w',St w0 M (rowsA enc e k (.slice ad (xs.length + ys.length) cp) (xs ++ ys) :: R) w'→wpList Tryz.prog ops Q rest (a.put o1.dst (.slice ad (xs.length + ys.length) cp)) w'):AtAppend Tryz.prog ops Q o1 t x y rest a w :=
 wpList_step fun _ hK=>by
  rw [if_pos hw]
  have H':=H.pick hp
  obtain ⟨v',w',hr,hst⟩:=run_append_rows (ty:=o1.type) hte hi hz hk0 hb0 (H'.ho _ List.mem_cons_self) hu hk h1 hb
  unfold Oper.wp execOp
  simp only [ho,resolve,invoke,builtin,Sem.run_bind,Sem.run_pure,Result.andThen_ok,List.map_toArray,List.map_cons,List.map_nil,evalO_eq hx,evalO_eq hy,hr]
  obtain ⟨ad,cp,rfl,_⟩:=rowsA_shape (hst.ho _ List.mem_cons_self)
  have hst2:=H'.call hst
  simp only [List.length_append] at hst2 ⊢
  exact hK _ _ (h ad cp w' hst2)
end
theorem rowsA_zero {α:Type} {enc:α→List Value} {e k n c:Nat} {ad:Option Addr} {xs:List α} {w:World} (h:(rowsA enc e k (.slice ad n c) xs).ho w):(rowsA enc e k (.slice ad 0 c) ([]:List α)).ho w:=by
 rw [rowsA_ho] at h ⊢
 rcases h.2 with ⟨h',hn⟩ | ⟨g',cap,cur,h',h3,h4,h5,h6,h7,h8⟩
 ·injection h' with e1 e2 e3
  subst e1 e3
  exact ⟨by simp [flatG],.inl ⟨rfl,rfl⟩⟩
 ·injection h' with e1 e2 e3
  subst e1 e3
  exact ⟨by simp [flatG],.inr ⟨g',c,cur,rfl,h3,h4,Nat.zero_le _,h6,h7,by simp [flatG]⟩⟩
theorem rowsA_ad {α:Type} {enc:α→List Value} {e k n c:Nat} {ad:Option Addr} {xs:List α} {w:World} (h:(rowsA enc e k (.slice ad n c) xs).ho w):ad = none∨∃ g,ad = some ⟨g,0,none⟩:=by
 rw [rowsA_ho] at h
 rcases h.2 with ⟨h',_⟩ | ⟨g',cap,cur,h',_⟩
 ·injection h' with e1;exact .inl e1
 ·injection h' with e1;exact .inr ⟨g',e1⟩
theorem St.zero {α:Type} {enc:α→List Value} {e k n c:Nat} {ad:Option Addr} {xs:List α} {w0 w:World} {M:List Nat} {R:List As} (h:St w0 M (rowsA enc e k (.slice ad n c) xs :: R) w):St w0 M (rowsA enc e k (.slice ad 0 c) ([]:List α) :: R) w :=
 h.conv (by rw [rowsA_fp',rowsA_fp'];cases ad <;> rfl) rowsA_zero
theorem wlen_c {p m:Nat} {lv:Value} {S:Sto} (hS:S.Ok) {i:Nat} (hi:i≤S.list.length):∃ a1 a2 a3 a4 a5:Nat,∀ w,(stoA p lv m S).ho w→Calls Tryz.prog 23 #[.pointer (some ⟨p,0,none⟩),.int .i64 (i:Int)] w fun e w'=>e = .returned (.tuple #[.agg #[.int .i64 (S.txt i).length,.int .i64 a1,.int .i64 a2,.int .i64 a3,.int .u64 a4,.int .u64 a5],.nilIface])∧St w [] [] w':=by
 obtain ⟨x,hx⟩:=enAt_some hi
 refine ⟨x.w.lines,x.w.head,x.w.tail,x.w.val,x.w.scale,fun w h=>?_⟩
 rw [S.txt_len hS hx]
 exact weight_c hx w h
theorem txt_max {S:Sto} (hS:S.Ok) {i:Nat} (hi:i≤S.list.length):(S.txt i).length≤1152921504606846976:=by
 cases i with
 |zero=>rw [S.txt_zero];simp
 |succ i =>
  obtain ⟨x,hx⟩:∃ x,S.list[i]? = some x:=⟨_,List.getElem?_eq_getElem (by omega)⟩
  rw [(S.txt_ok hS i x hx).1]
  have:=maxT_eq
  cases hS.ents i x hx with
  |letter b hb=>simp [letterE,letter_len]
  |pair l r y z hl hr hy hz h=>simp only [pairE,Wt.join];omega
  |power l k y hl hy hk h=>simp only [powerE,Wt.rep];omega
theorem piece_case2 {S:Sto} {K:Nat→Prop} (hS:S.Ok) (hcl:S.Closed K) {pi pa pn:Nat} (h1:1≤pi) (hok:PcOk S K ⟨pi,pa,pn⟩) (h0:0 < pn) (hlt:pn < (S.txt pi).length) :
  ∃ x,S.list[pi - 1]? = some x∧((∃ L R,x.r = ⟨2,0,L,R,0⟩∧PairCase S K pi pa pn L R)∨(∃ L k,x.r = ⟨3,0,L,0,k⟩∧PowerCase S K pi pa pn L k)):=by
 obtain ⟨i,rfl⟩:∃ i,pi = i + 1:=⟨pi - 1,by omega⟩
 exact piece_case hS hcl hok h0 hlt
theorem rule_lit {p m:Nat} {lv:Value} {S:Sto} {pi:Nat} {x:En} {r:Rl} (h1:1≤pi) (hx:S.list[pi - 1]? = some x) (hr:x.r = r) (w:World) (h:(stoA p lv m S).ho w):Calls Tryz.prog 45 #[.pointer (some ⟨p,0,none⟩),.int .i64 (pi:Int)] w fun e w'=>e = .returned (.tuple #[.agg #[.int .i64 r.kind,.int .u8 r.letter,.int .i64 r.left,.int .i64 r.right,.int .i64 r.times],.nilIface])∧St w [] [] w':=by
 subst hr
 exact rule_c hx _ (by omega) w h
def OfPost (S:Sto) (K:Nat→Prop) (goal:List Nat) (w:World) (e:Ending) (w':World):Prop :=
 ∃ ad c ps,e = .returned (.tuple #[.slice ad ps.length c,.nilIface])∧textP S ps = goal∧(∀ t∈ps,PtOk S K t)∧ps.length≤6 * S.list.length + 6∧St w [] [rowsA encT 137 3 (.slice ad ps.length c) ps] w'
def OfRel (S:Sto) (K:Nat→Prop) (goal:List Nat) (w:World) (k:Nat) (v10 v11 v12:Value) (wr:World):Prop :=
 ∃ ps nx st,PInv S K goal ps st k∧St w [] [rowsA encT 137 3 v10 ps,rowsA encC 176 3 v11 nx,rowsA encC 176 3 v12 st] wr
theorem of_c {p m:Nat} {lv:Value} {S:Sto} {K:Nat→Prop} (hS:S.Ok) (hcl:S.Closed K) {i s n:Nat} (hi:i≤S.list.length) (hk:i = 0∨K i) (hf:s + n≤(S.txt i).length) (w:World) (h:(stoA p lv m S).ho w) :
  Calls Tryz.prog 64 #[.pointer (some ⟨p,0,none⟩),.int .i64 i,.int .i64 s,.int .i64 n] w (OfPost S K (S.pcTxt ⟨i,s,n⟩) w):=by
 have HK:=Ks.one h
 have H:=St.nil w []
 have HSO:=Lib.hid hS
 have HCL:=Lib.hid hcl
 have HL1:=Lib.hid hS.len
 have HL2:=Lib.hid hS.most
 obtain ⟨d0,hinv⟩:=PInv.first (K:=K) hi hk hf
 generalize hgoal:S.pcTxt ⟨i,s,n⟩ = goal at *
 have HI0:=Lib.hid hinv
 clear h hS hcl hinv hgoal
 go_enter Tryz.func64,Tryz.ntmps64
 go_wp2_with (first | refine sL ?_ | (refine sS ?_;clear H;intros;rename_i H) | ((with_reducible refine isSlice ?_);refine AtSlice.one H rfl rfl rfl rfl rfl rfl rfl rfl rfl ?_;clear H;intro b _ H;simp only [Act.put,puA,puB,puC]))
 replace H:=H.conv (A':=rowsA encC 176 3 (.slice (some ⟨b,0,none⟩) 1 1) [⟨i,s,n⟩]) (by rw [rowsA_fp',blk_fp];rfl) fun hb=>rowsA_of_blk (xs:=[(⟨i,s,n⟩:Pc)]) (by rw [blk_ho] at hb;exact hb) (by simp [maxLen]) (by simp [flatG,encC]) encC_len
 replace H:=H.empty (A:=rowsA encC 176 3 (.slice none 0 0) []) (rowsA_nil _) (by rw [rowsA_fp'];rfl)
 replace H:=H.empty (A:=rowsA encT 137 3 (.slice none 0 0) []) (rowsA_nil _) (by rw [rowsA_fp'];rfl)
 go_loopg [10,11,12] d0 (fun k v10 v11 v12 wr=>OfRel S K goal w k v10 v11 v12 wr)
 case atStart=>exact ⟨[],[],[⟨i,s,n⟩],HI0.out,H⟩
 case round =>
  clear H HI0
  obtain ⟨ps,nx,st0,hinv,H⟩:=hrel
  obtain ⟨ad1,c1,rfl,hps⟩:=rowsA_shape (H.get (A:=rowsA encT 137 3 u10 ps) pk)
  obtain ⟨ad2,c2,rfl,_⟩:=rowsA_shape (H.get (A:=rowsA encC 176 3 u11 nx) pk)
  have HAD:=Lib.hid (rowsA_ad (H.get (A:=rowsA encC 176 3 (.slice ad2 nx.length c2) nx) pk))
  rcases List.eq_nil_or_concat st0 with rfl | ⟨st,⟨pi,pa,pn⟩,rfl⟩
  ·obtain ⟨ad3,c3,rfl,_⟩:=rowsA_shape (H.get (A:=rowsA encC 176 3 u12 []) pk)
   have HINV:=Lib.hid hinv
   clear hinv
   go_wp2_with (first | refine sL ?_ | (refine sS ?_;clear H;intros;rename_i H))
   go_ret2
   have h9:=HINV.out
   have ht:=h9.text
   simp only [List.reverse_nil,textC,List.map_nil,List.flatten_nil,List.append_nil] at ht
   exact ⟨ad1,c1,ps,rfl,ht,h9.pts,by have:=h9.bound;omega,(H.pick (A:=rowsA encT 137 3 (.slice ad1 ps.length c1) ps) pk).onlyHead⟩
  ·simp only [List.concat_eq_append] at H hinv
   obtain ⟨g3,c3,rfl,hgc3,hcm3⟩:=rowsA_cases (H.get (A:=rowsA encC 176 3 u12 (st ++ [⟨pi,pa,pn⟩])) pk) (by simp)
   simp only [List.length_append,List.length_singleton] at H hgc3
   unfold maxLen at hcm3
   have hpok:=hinv.pcs ⟨pi,pa,pn⟩ (by simp)
   have hple:pi≤S.list.length:=hpok.le
   have hpfit:pa + pn≤(S.txt pi).length:=hpok.fits
   have hpmax:=txt_max HSO.out hple
   have hstl:=hinv.len
   have hbd:=hinv.bound
   have hl1:=HL1.out
   have hl2:=HL2.out
   simp only [List.length_append,List.length_singleton] at hstl
   have hlast:(st ++ [(⟨pi,pa,pn⟩:Pc)])[st.length]? = some ⟨pi,pa,pn⟩:=by simp
   have HLAST:=Lib.hid hlast
   have HINV:=Lib.hid hinv
   have HPOK:=Lib.hid hpok
   have hstb:st.length≤7000000:=by omega
   have hpsb:ps.length≤7000000:=by omega
   have hnxl:nx.length≤nx.length:=Nat.le_refl _
   generalize hsl:st.length = sl at *
   generalize hpl:ps.length = pl at *
   clear hlast hinv hpok hstl hbd hl1 hl2 hps
   by_cases hz:pn = 0∨pi = 0
   ·have hskip:S.pcTxt ⟨pi,pa,pn⟩ = []:=by
     rcases hz with h | h
     ·exact S.pcTxt_nul _ h
     ·exact S.pcTxt_zero _ h
    obtain ⟨d',hd',hinv'⟩:=HINV.out.skip hskip
    have HD:=Lib.hid (And.intro hd' hinv')
    clear hd' hinv' hskip
    have d_i0:pi = 0→((pi:Int) == 0) = true:=fun h=>by simp [h]
    by_cases hpn:pn = 0
    ·subst hpn
     go_wp2_with (first | refine sL ?_ | (refine sS ?_;clear H;intros;rename_i H) | ((with_reducible refine isLoad ?_);refine AtLoad.rngT (vs:=[.int .i64 pi,.int .i64 pa,.int .i64 (0:Nat)]) rfl rfl rfl (H.rngL (enc:=encC) (xs:=st ++ [⟨pi,pa,0⟩]) pk encC_len HLAST.out) rfl ?_;replace H:=(H.pick (A:=rowsA encC 176 3 (.slice (some ⟨g3,0,none⟩) (sl + 1) c3) (st ++ [⟨pi,pa,0⟩])) pk).cut encC_len hsl;simp only [Act.put,puA,puB,puC]))
     have HH:=Lib.hid (St.only3 H (A:=rowsA encT 137 3 (.slice ad1 pl c1) ps) (B:=rowsA encC 176 3 (.slice ad2 nx.length c2) nx) (C:=rowsA encC 176 3 (.slice (some ⟨g3,0,none⟩) sl c3) st) pk pk pk)
     go_roundg d'
     case measure=>exact HD.out.1
     case rel=>exact ⟨ps,nx,st,HD.out.2,HH.out⟩
    ·have d_n:decide ((pn:Int)≤0) = false:=by simp;omega
     have d_i:=d_i0 (by rcases hz with h | h;exact absurd h hpn;exact h)
     clear hz
     go_wp2_with (first | refine sL ?_ | (refine sS ?_;clear H;intros;rename_i H) | ((with_reducible refine isLoad ?_);refine AtLoad.rngT (vs:=[.int .i64 pi,.int .i64 pa,.int .i64 pn]) rfl rfl rfl (H.rngL (enc:=encC) (xs:=st ++ [⟨pi,pa,pn⟩]) pk encC_len HLAST.out) rfl ?_;replace H:=(H.pick (A:=rowsA encC 176 3 (.slice (some ⟨g3,0,none⟩) (sl + 1) c3) (st ++ [⟨pi,pa,pn⟩])) pk).cut encC_len hsl;simp only [Act.put,puA,puB,puC]))
     have HH:=Lib.hid (St.only3 H (A:=rowsA encT 137 3 (.slice ad1 pl c1) ps) (B:=rowsA encC 176 3 (.slice ad2 nx.length c2) nx) (C:=rowsA encC 176 3 (.slice (some ⟨g3,0,none⟩) sl c3) st) pk pk pk)
     go_roundg d'
     case measure=>exact HD.out.1
     case rel=>exact ⟨ps,nx,st,HD.out.2,HH.out⟩
   ·have d_n:decide ((pn:Int)≤0) = false:=by simp;omega
    have d_i:((pi:Int) == 0) = false:=by simp;omega
    have hn0:0 < pn:=by omega
    have hi1:1≤pi:=by omega
    obtain ⟨a1,a2,a3,a4,a5,hw1⟩:=wlen_c (p:=p) (m:=m) (lv:=lv) HSO.out hple
    have HW1:=Lib.hid hw1
    clear hw1 hz
    generalize hln:(S.txt pi).length = ln at *
    by_cases hge:ln≤pn
    ·obtain ⟨ht,hok⟩:=full_part HPOK.out hi1 (by simp only;rw [hln];exact hge)
     obtain ⟨d',hd',hinv'⟩:=HINV.out.take ht hok
     have HD:=Lib.hid (And.intro hd' hinv')
     clear hd' hinv' ht hok
     go_wp2_with (first | refine sL ?_ | (refine sS ?_;clear H;intros;rename_i H) | ((with_reducible refine isLoad ?_);refine AtLoad.rngT (vs:=[.int .i64 pi,.int .i64 pa,.int .i64 pn]) rfl rfl rfl (H.rngL (enc:=encC) (xs:=st ++ [⟨pi,pa,pn⟩]) pk encC_len HLAST.out) rfl ?_;replace H:=(H.pick (A:=rowsA encC 176 3 (.slice (some ⟨g3,0,none⟩) (sl + 1) c3) (st ++ [⟨pi,pa,pn⟩])) pk).cut encC_len hsl;simp only [Act.put,puA,puB,puC]) | (go_at_call 23;with_reducible refine Calls.mono (HW1.out _ (H.known HK pk)) ?_;rintro e wc ⟨rfl,hb⟩;replace H:=H.grew hb.below;clear hb) | ((with_reducible refine isSlice ?_);refine AtSlice.one H rfl rfl rfl rfl rfl rfl rfl rfl rfl ?_;clear H;intro b _ H;simp only [Act.put,puA,puB,puC]) | ((with_reducible refine isAppend ?_);refine AtAppend.go (enc:=encT) H rfl rfl rfl rfl rfl (by decide) (by decide) rfl pk rfl (H.at pk) [⟨pi,0,1⟩] rfl (by simp [flatG,encT]) encT_len encT_one (by simp;omega) ?_;clear H;intro ad9 cp9 _ H;simp only [Act.put,puA,puB,puC]))
     have HH:=Lib.hid (St.only3 H (A:=rowsA encT 137 3 (.slice ad9 (ps.length + 1) cp9) (ps ++ [⟨pi,0,1⟩])) (B:=rowsA encC 176 3 (.slice ad2 nx.length c2) nx) (C:=rowsA encC 176 3 (.slice (some ⟨g3,0,none⟩) sl c3) st) pk pk pk)
     go_roundg d'
     case measure=>exact HD.out.1
     case rel=>exact ⟨_,nx,st,HD.out.2,by have h:=HH.out;rw [hpl] at h;exact h⟩
    ·obtain ⟨x,hx,hcase⟩:=piece_case2 HSO.out HCL.out hi1 HPOK.out hn0 (by rw [hln];omega)
     have d_ge:decide (ln≤pn) = false:=by simp;omega
     clear hge
     rcases hcase with ⟨L,R,hr,hp⟩ | ⟨L,k,hr,hp⟩
     ·obtain ⟨b1,b2,b3,b4,b5,hw2⟩:=wlen_c (p:=p) (m:=m) (lv:=lv) HSO.out hp.lo1
      have hlmax:=txt_max HSO.out hp.lo1
      have HRU:=Lib.hid (show ∀ w,(stoA p lv m S).ho w→Calls Tryz.prog 45 #[.pointer (some ⟨p,0,none⟩),.int .i64 (pi:Int)] w fun e w'=>e = .returned (.tuple #[.agg #[.int .i64 (2:Int),.int .u8 (0:Int),.int .i64 L,.int .i64 R,.int .i64 (0:Int)],.nilIface])∧St w [] [] w' from fun w h=>rule_lit hi1 hx hr w h)
      have HW2:=Lib.hid hw2
      have HP:=Lib.hid hp
      clear hw2 hp hx hr
      by_cases hle:(S.txt L).length≤pa
      ·have hc:=HP.out.hi hle
       generalize (S.txt L).length = ll at *
       generalize hs':pa - ll = s' at *
       obtain ⟨d',hd',hinv'⟩:=HINV.out.cut hc.text hc.ok hc.cost
       have HD:=Lib.hid (And.intro hd' hinv')
       have HPP:=Lib.hid (show ∀ w,(rowsA encC 176 3 (.slice ad2 0 c2) ([]:List Pc)).ho w→Calls Tryz.prog 89 #[.slice ad2 0 c2,.agg #[.int .i64 (2:Int),.int .u8 (0:Int),.int .i64 L,.int .i64 R,.int .i64 (0:Int)],.agg #[.int .i64 pi,.int .i64 pa,.int .i64 pn],.int .i64 ll] w fun e w'=>∃ ad c,e = .returned (.slice ad 1 c)∧St w (rowsA encC 176 3 (.slice ad2 0 c2) ([]:List Pc)).fp [rowsA encC 176 3 (.slice ad 1 c) ([⟨R,s',pn⟩]:List Pc)] w' from fun w h=>ppair_hi pi L R pa pn ll s' hle hs'.symm (by omega) w h)
       have HRV:=Lib.hid (show ∀ ad c w,(rowsA encC 176 3 (.slice ad 1 c) ([⟨R,s',pn⟩]:List Pc)).ho w→Calls Tryz.prog 92 #[.slice ad 1 c] w fun e w'=>e = .returned (.tuple #[])∧St w (rowsA encC 176 3 (.slice ad 1 c) ([⟨R,s',pn⟩]:List Pc)).fp [rowsA encC 176 3 (.slice ad 1 c) ([⟨R,s',pn⟩]:List Pc)] w' from fun ad c w h=>rev_c (xs:=[⟨R,s',pn⟩]) rfl (by simp) w h)
       clear hd' hinv' hc hs' hle
       go_wp2_with (first | refine sL ?_ | (refine sS ?_;clear H;intros;rename_i H) | ((with_reducible refine isLoad ?_);refine AtLoad.rngT (vs:=[.int .i64 pi,.int .i64 pa,.int .i64 pn]) rfl rfl rfl (H.rngL (enc:=encC) (xs:=st ++ [⟨pi,pa,pn⟩]) pk encC_len HLAST.out) rfl ?_;replace H:=(H.pick (A:=rowsA encC 176 3 (.slice (some ⟨g3,0,none⟩) (sl + 1) c3) (st ++ [⟨pi,pa,pn⟩])) pk).cut encC_len hsl;simp only [Act.put,puA,puB,puC]) | (go_at_call 23;first | (with_reducible refine Calls.mono (HW1.out _ (H.known HK pk)) ?_;rintro e wc ⟨rfl,hb⟩;replace H:=H.grew hb.below;clear hb) | (with_reducible refine Calls.mono (HW2.out _ (H.known HK pk)) ?_;rintro e wc ⟨rfl,hb⟩;replace H:=H.grew hb.below;clear hb)) | (go_at_call 45;with_reducible refine Calls.mono (HRU.out _ (H.known HK pk)) ?_;rintro e wc ⟨rfl,hb⟩;replace H:=H.grew hb.below;clear hb) | ((with_reducible refine isCut ?_);refine AtCut.zero rfl rfl rfl rfl rfl rfl HAD.out ?_;replace H:=(H.pick (A:=rowsA encC 176 3 (.slice ad2 nx.length c2) nx) pk).zero;simp only [Act.put,puA,puB,puC]) | (go_at_call 89;with_reducible refine Calls.mono (HPP.out _ (H.get (A:=rowsA encC 176 3 (.slice ad2 0 c2) []) pk)) ?_;rintro e wc ⟨ad5,c5,rfl,hb⟩;replace H:=H.pick (A:=rowsA encC 176 3 (.slice ad2 0 c2) []) pk;replace H:=H.call hb;clear hb;simp only [List.cons_append,List.nil_append] at H) | (go_at_call 92;with_reducible refine Calls.mono (HRV.out _ _ _ (H.get (A:=rowsA encC 176 3 (.slice ad5 1 c5) [⟨R,s',pn⟩]) pk)) ?_;rintro e wc ⟨rfl,hb⟩;replace H:=H.pick (A:=rowsA encC 176 3 (.slice ad5 1 c5) [⟨R,s',pn⟩]) pk;replace H:=H.call hb;clear hb;simp only [List.cons_append,List.nil_append] at H) | ((with_reducible refine isAppend ?_);refine AtAppend.rows (enc:=encC) (xs:=st) (ys:=[⟨R,s',pn⟩]) H rfl rfl rfl rfl rfl (by decide) (by decide) rfl pk rfl (H.get (A:=rowsA encC 176 3 (.slice ad5 1 c5) [⟨R,s',pn⟩]) pk) encC_len encC_one (by simp;omega) ?_;clear H;intro ad9 cp9 _ H;simp only [hsl,List.length_cons,List.length_nil,Nat.zero_add,Nat.add_zero,Nat.reduceAdd,List.append_nil] at H;simp only [Act.put,puA,puB,puC]))
       have HH:=Lib.hid (St.only3 H (A:=rowsA encT 137 3 (.slice ad1 pl c1) ps) (B:=rowsA encC 176 3 (.slice ad5 1 c5) [⟨R,s',pn⟩]) (C:=rowsA encC 176 3 (.slice ad9 (sl + 1) cp9) (st ++ [⟨R,s',pn⟩])) pk pk pk)
       go_roundg d'
       case measure=>exact HD.out.1
       case rel =>
        try simp only [hsl,List.length_cons,List.length_nil,Nat.zero_add,Nat.add_zero,Nat.reduceAdd]
        exact ⟨ps,[⟨R,s',pn⟩],st ++ [⟨R,s',pn⟩],HD.out.2,HH.out⟩
      ·obtain ⟨n',hn'⟩:∃ n',n' = min pn ((S.txt L).length - pa):=⟨_,rfl⟩
       have hc:=HP.out.lo (by omega) n' hn'
       generalize (S.txt L).length = ll at *
       generalize hm':pn - n' = m' at *
       obtain ⟨d',hd',hinv'⟩:=HINV.out.cut hc.text hc.ok hc.cost
       have HD:=Lib.hid (And.intro hd' hinv')
       have HPP:=Lib.hid (show ∀ w,(rowsA encC 176 3 (.slice ad2 0 c2) ([]:List Pc)).ho w→Calls Tryz.prog 89 #[.slice ad2 0 c2,.agg #[.int .i64 (2:Int),.int .u8 (0:Int),.int .i64 L,.int .i64 R,.int .i64 (0:Int)],.agg #[.int .i64 pi,.int .i64 pa,.int .i64 pn],.int .i64 ll] w fun e w'=>∃ ad c,e = .returned (.slice ad 2 c)∧St w (rowsA encC 176 3 (.slice ad2 0 c2) ([]:List Pc)).fp [rowsA encC 176 3 (.slice ad 2 c) ([⟨L,pa,n'⟩,⟨R,0,m'⟩]:List Pc)] w' from fun w h=>ppair_lo pi L R pa pn ll n' m' (by omega) hn' hm'.symm (by omega) (by omega) w h)
       have HRV:=Lib.hid (show ∀ ad c w,(rowsA encC 176 3 (.slice ad 2 c) ([⟨L,pa,n'⟩,⟨R,0,m'⟩]:List Pc)).ho w→Calls Tryz.prog 92 #[.slice ad 2 c] w fun e w'=>e = .returned (.tuple #[])∧St w (rowsA encC 176 3 (.slice ad 2 c) ([⟨L,pa,n'⟩,⟨R,0,m'⟩]:List Pc)).fp [rowsA encC 176 3 (.slice ad 2 c) ([⟨R,0,m'⟩,⟨L,pa,n'⟩]:List Pc)] w' from fun ad c w h=>rev_c (xs:=[⟨L,pa,n'⟩,⟨R,0,m'⟩]) rfl (by simp) w h)
       clear hd' hinv' hc hm' hle hn'
       go_wp2_with (first | refine sL ?_ | (refine sS ?_;clear H;intros;rename_i H) | ((with_reducible refine isLoad ?_);refine AtLoad.rngT (vs:=[.int .i64 pi,.int .i64 pa,.int .i64 pn]) rfl rfl rfl (H.rngL (enc:=encC) (xs:=st ++ [⟨pi,pa,pn⟩]) pk encC_len HLAST.out) rfl ?_;replace H:=(H.pick (A:=rowsA encC 176 3 (.slice (some ⟨g3,0,none⟩) (sl + 1) c3) (st ++ [⟨pi,pa,pn⟩])) pk).cut encC_len hsl;simp only [Act.put,puA,puB,puC]) | (go_at_call 23;first | (with_reducible refine Calls.mono (HW1.out _ (H.known HK pk)) ?_;rintro e wc ⟨rfl,hb⟩;replace H:=H.grew hb.below;clear hb) | (with_reducible refine Calls.mono (HW2.out _ (H.known HK pk)) ?_;rintro e wc ⟨rfl,hb⟩;replace H:=H.grew hb.below;clear hb)) | (go_at_call 45;with_reducible refine Calls.mono (HRU.out _ (H.known HK pk)) ?_;rintro e wc ⟨rfl,hb⟩;replace H:=H.grew hb.below;clear hb) | ((with_reducible refine isCut ?_);refine AtCut.zero rfl rfl rfl rfl rfl rfl HAD.out ?_;replace H:=(H.pick (A:=rowsA encC 176 3 (.slice ad2 nx.length c2) nx) pk).zero;simp only [Act.put,puA,puB,puC]) | (go_at_call 89;with_reducible refine Calls.mono (HPP.out _ (H.get (A:=rowsA encC 176 3 (.slice ad2 0 c2) []) pk)) ?_;rintro e wc ⟨ad5,c5,rfl,hb⟩;replace H:=H.pick (A:=rowsA encC 176 3 (.slice ad2 0 c2) []) pk;replace H:=H.call hb;clear hb;simp only [List.cons_append,List.nil_append] at H) | (go_at_call 92;with_reducible refine Calls.mono (HRV.out _ _ _ (H.get (A:=rowsA encC 176 3 (.slice ad5 2 c5) [⟨L,pa,n'⟩,⟨R,0,m'⟩]) pk)) ?_;rintro e wc ⟨rfl,hb⟩;replace H:=H.pick (A:=rowsA encC 176 3 (.slice ad5 2 c5) [⟨L,pa,n'⟩,⟨R,0,m'⟩]) pk;replace H:=H.call hb;clear hb;simp only [List.cons_append,List.nil_append] at H) | ((with_reducible refine isAppend ?_);refine AtAppend.rows (enc:=encC) (xs:=st) (ys:=[⟨R,0,m'⟩,⟨L,pa,n'⟩]) H rfl rfl rfl rfl rfl (by decide) (by decide) rfl pk rfl (H.get (A:=rowsA encC 176 3 (.slice ad5 2 c5) [⟨R,0,m'⟩,⟨L,pa,n'⟩]) pk) encC_len encC_one (by simp;omega) ?_;clear H;intro ad9 cp9 _ H;simp only [hsl,List.length_cons,List.length_nil,Nat.zero_add,Nat.add_zero,Nat.reduceAdd,List.append_nil] at H;simp only [Act.put,puA,puB,puC]))
       have HH:=Lib.hid (St.only3 H (A:=rowsA encT 137 3 (.slice ad1 pl c1) ps) (B:=rowsA encC 176 3 (.slice ad5 2 c5) [⟨R,0,m'⟩,⟨L,pa,n'⟩]) (C:=rowsA encC 176 3 (.slice ad9 (sl + 2) cp9) (st ++ [⟨R,0,m'⟩,⟨L,pa,n'⟩])) pk pk pk)
       go_roundg d'
       case measure=>exact HD.out.1
       case rel =>
        try simp only [hsl,List.length_cons,List.length_nil,Nat.zero_add,Nat.add_zero,Nat.reduceAdd]
        exact ⟨ps,[⟨R,0,m'⟩,⟨L,pa,n'⟩],st ++ [⟨R,0,m'⟩,⟨L,pa,n'⟩],HD.out.2,HH.out⟩
     ·obtain ⟨b1,b2,b3,b4,b5,hw2⟩:=wlen_c (p:=p) (m:=m) (lv:=lv) HSO.out hp.lo1
      have hlmax:=txt_max HSO.out hp.lo1
      have hlpos:=hp.pos
      have HRU:=Lib.hid (show ∀ w,(stoA p lv m S).ho w→Calls Tryz.prog 45 #[.pointer (some ⟨p,0,none⟩),.int .i64 (pi:Int)] w fun e w'=>e = .returned (.tuple #[.agg #[.int .i64 (3:Int),.int .u8 (0:Int),.int .i64 L,.int .i64 (0:Int),.int .i64 k],.nilIface])∧St w [] [] w' from fun w h=>rule_lit hi1 hx hr w h)
      have HW2:=Lib.hid hw2
      have HP:=Lib.hid hp
      clear hw2 hp hx hr
      have e7:(((S.txt L).length:Int) == 0) = false:=beq_eq_false_iff_ne.2 (by omega)
      by_cases h1:pa % (S.txt L).length = 0
      ·have e1:(pa:Int) % ((S.txt L).length:Int) = 0:=by rw [show (pa:Int) % ((S.txt L).length:Int) = ((pa % (S.txt L).length:Nat):Int) from rfl,h1];rfl
       have e1':(pa:Int).tmod ((S.txt L).length:Int) = 0:=by rw [tmod_nat,h1];rfl
       by_cases h2:pn % (S.txt L).length = 0
       ·have e2:(pn:Int) % ((S.txt L).length:Int) = 0:=by rw [show (pn:Int) % ((S.txt L).length:Int) = ((pn % (S.txt L).length:Nat):Int) from rfl,h2];rfl
        have e2':(pn:Int).tmod ((S.txt L).length:Int) = 0:=by rw [tmod_nat,h2];rfl
        by_cases h3:pn = (S.txt L).length
        ·have ht:=HP.out.one h1 h2 h3
         generalize (S.txt L).length = ll at *
         obtain ⟨d',hd',hinv'⟩:=HINV.out.take ht.text ht.ok
         have HD:=Lib.hid (And.intro hd' hinv')
         have HPP:=Lib.hid (show ∀ w,Calls Tryz.prog 91 #[.agg #[.int .i64 (3:Int),.int .u8 (0:Int),.int .i64 L,.int .i64 (0:Int),.int .i64 k],.agg #[.int .i64 pi,.int .i64 pa,.int .i64 pn],.int .i64 ll] w fun e w'=>e = .returned (.agg #[.int .i64 L,.int .i64 (0:Int),.int .i64 (1:Int)])∧St w [] [] w' from fun w=>pcopies_one pi L k pa pn ll h3 w)
         have HRV:=Lib.hid (show ∀ ad c w,(rowsA encC 176 3 (.slice ad 0 c) ([]:List Pc)).ho w→Calls Tryz.prog 92 #[.slice ad 0 c] w fun e w'=>e = .returned (.tuple #[])∧St w (rowsA encC 176 3 (.slice ad 0 c) ([]:List Pc)).fp [rowsA encC 176 3 (.slice ad 0 c) ([]:List Pc)] w' from fun ad c w h=>rev_c (xs:=[]) rfl (by simp) w h)
         clear hd' hinv' ht h1 h2 h3
         go_wp2_with (first | refine sL ?_ | (refine sS ?_;clear H;intros;rename_i H) | ((with_reducible refine isLoad ?_);refine AtLoad.rngT (vs:=[.int .i64 pi,.int .i64 pa,.int .i64 pn]) rfl rfl rfl (H.rngL (enc:=encC) (xs:=st ++ [⟨pi,pa,pn⟩]) pk encC_len HLAST.out) rfl ?_;replace H:=(H.pick (A:=rowsA encC 176 3 (.slice (some ⟨g3,0,none⟩) (sl + 1) c3) (st ++ [⟨pi,pa,pn⟩])) pk).cut encC_len hsl;simp only [Act.put,puA,puB,puC]) | (go_at_call 23;first | (with_reducible refine Calls.mono (HW1.out _ (H.known HK pk)) ?_;rintro e wc ⟨rfl,hb⟩;replace H:=H.grew hb.below;clear hb) | (with_reducible refine Calls.mono (HW2.out _ (H.known HK pk)) ?_;rintro e wc ⟨rfl,hb⟩;replace H:=H.grew hb.below;clear hb)) | (go_at_call 45;with_reducible refine Calls.mono (HRU.out _ (H.known HK pk)) ?_;rintro e wc ⟨rfl,hb⟩;replace H:=H.grew hb.below;clear hb) | ((with_reducible refine isCut ?_);refine AtCut.zero rfl rfl rfl rfl rfl rfl HAD.out ?_;replace H:=(H.pick (A:=rowsA encC 176 3 (.slice ad2 nx.length c2) nx) pk).zero;simp only [Act.put,puA,puB,puC]) | (go_at_call 91;with_reducible refine Calls.mono (HPP.out _) ?_;rintro e wc ⟨rfl,hb⟩;replace H:=H.grew hb.below;clear hb) | ((with_reducible refine isSlice ?_);refine AtSlice.one H rfl rfl rfl rfl rfl rfl rfl rfl rfl ?_;clear H;intro b _ H;simp only [Act.put,puA,puB,puC]) | ((with_reducible refine isAppend ?_);refine AtAppend.go (enc:=encT) H rfl rfl rfl rfl rfl (by decide) (by decide) rfl pk rfl (H.at pk) [⟨L,0,1⟩] rfl (by simp [flatG,encT]) encT_len encT_one (by simp;omega) ?_;clear H;intro ad8 cp8 _ H;simp only [hpl] at H;simp only [Act.put,puA,puB,puC]) | (go_at_call 92;with_reducible refine Calls.mono (HRV.out _ _ _ (H.get (A:=rowsA encC 176 3 (.slice ad2 0 c2) ([]:List Pc)) pk)) ?_;rintro e wc ⟨rfl,hb⟩;replace H:=H.pick (A:=rowsA encC 176 3 (.slice ad2 0 c2) ([]:List Pc)) pk;replace H:=H.call hb;clear hb;simp only [List.cons_append,List.nil_append] at H) | ((with_reducible refine isAppend ?_);refine AtAppend.rows (enc:=encC) (xs:=st) (ys:=([]:List Pc)) H rfl rfl rfl rfl rfl (by decide) (by decide) rfl pk rfl (H.get (A:=rowsA encC 176 3 (.slice ad2 0 c2) ([]:List Pc)) pk) encC_len encC_one (by simp;omega) ?_;clear H;intro ad9 cp9 _ H;simp only [hsl,List.length_cons,List.length_nil,Nat.zero_add,Nat.add_zero,Nat.reduceAdd,List.append_nil] at H;simp only [Act.put,puA,puB,puC]))
         have HH:=Lib.hid (St.only3 H (A:=rowsA encT 137 3 (.slice ad8 (pl + 1) cp8) (ps ++ [⟨L,0,1⟩])) (B:=rowsA encC 176 3 (.slice ad2 0 c2) []) (C:=rowsA encC 176 3 (.slice ad9 sl cp9) st) pk pk pk)
         go_roundg d'
         case measure=>exact HD.out.1
         case rel =>
          try simp only [hsl,List.length_cons,List.length_nil,Nat.zero_add,Nat.add_zero,Nat.reduceAdd]
          exact ⟨_,[],st,HD.out.2,HH.out⟩
        ·have ht:=HP.out.more h1 h2 h3
         generalize (S.txt L).length = ll at *
         obtain ⟨q,hq⟩:∃ q,q = pn / ll:=⟨_,rfl⟩
         rw [← hq] at ht
         obtain ⟨d',hd',hinv'⟩:=HINV.out.take ht.text ht.ok
         have HD:=Lib.hid (And.intro hd' hinv')
         have HPP:=Lib.hid (show ∀ w,Calls Tryz.prog 91 #[.agg #[.int .i64 (3:Int),.int .u8 (0:Int),.int .i64 L,.int .i64 (0:Int),.int .i64 k],.agg #[.int .i64 pi,.int .i64 pa,.int .i64 pn],.int .i64 ll] w fun e w'=>e = .returned (.agg #[.int .i64 L,.int .i64 pi,.int .i64 q])∧St w [] [] w' from fun w=>pcopies_more pi L k pa pn ll q hlpos h3 hq (by omega) w)
         have HRV:=Lib.hid (show ∀ ad c w,(rowsA encC 176 3 (.slice ad 0 c) ([]:List Pc)).ho w→Calls Tryz.prog 92 #[.slice ad 0 c] w fun e w'=>e = .returned (.tuple #[])∧St w (rowsA encC 176 3 (.slice ad 0 c) ([]:List Pc)).fp [rowsA encC 176 3 (.slice ad 0 c) ([]:List Pc)] w' from fun ad c w h=>rev_c (xs:=[]) rfl (by simp) w h)
         clear hd' hinv' ht h1 h2 h3 hq
         go_wp2_with (first | refine sL ?_ | (refine sS ?_;clear H;intros;rename_i H) | ((with_reducible refine isLoad ?_);refine AtLoad.rngT (vs:=[.int .i64 pi,.int .i64 pa,.int .i64 pn]) rfl rfl rfl (H.rngL (enc:=encC) (xs:=st ++ [⟨pi,pa,pn⟩]) pk encC_len HLAST.out) rfl ?_;replace H:=(H.pick (A:=rowsA encC 176 3 (.slice (some ⟨g3,0,none⟩) (sl + 1) c3) (st ++ [⟨pi,pa,pn⟩])) pk).cut encC_len hsl;simp only [Act.put,puA,puB,puC]) | (go_at_call 23;first | (with_reducible refine Calls.mono (HW1.out _ (H.known HK pk)) ?_;rintro e wc ⟨rfl,hb⟩;replace H:=H.grew hb.below;clear hb) | (with_reducible refine Calls.mono (HW2.out _ (H.known HK pk)) ?_;rintro e wc ⟨rfl,hb⟩;replace H:=H.grew hb.below;clear hb)) | (go_at_call 45;with_reducible refine Calls.mono (HRU.out _ (H.known HK pk)) ?_;rintro e wc ⟨rfl,hb⟩;replace H:=H.grew hb.below;clear hb) | ((with_reducible refine isCut ?_);refine AtCut.zero rfl rfl rfl rfl rfl rfl HAD.out ?_;replace H:=(H.pick (A:=rowsA encC 176 3 (.slice ad2 nx.length c2) nx) pk).zero;simp only [Act.put,puA,puB,puC]) | (go_at_call 91;with_reducible refine Calls.mono (HPP.out _) ?_;rintro e wc ⟨rfl,hb⟩;replace H:=H.grew hb.below;clear hb) | ((with_reducible refine isSlice ?_);refine AtSlice.one H rfl rfl rfl rfl rfl rfl rfl rfl rfl ?_;clear H;intro b _ H;simp only [Act.put,puA,puB,puC]) | ((with_reducible refine isAppend ?_);refine AtAppend.go (enc:=encT) H rfl rfl rfl rfl rfl (by decide) (by decide) rfl pk rfl (H.at pk) [⟨L,pi,q⟩] rfl (by simp [flatG,encT]) encT_len encT_one (by simp;omega) ?_;clear H;intro ad8 cp8 _ H;simp only [hpl] at H;simp only [Act.put,puA,puB,puC]) | (go_at_call 92;with_reducible refine Calls.mono (HRV.out _ _ _ (H.get (A:=rowsA encC 176 3 (.slice ad2 0 c2) ([]:List Pc)) pk)) ?_;rintro e wc ⟨rfl,hb⟩;replace H:=H.pick (A:=rowsA encC 176 3 (.slice ad2 0 c2) ([]:List Pc)) pk;replace H:=H.call hb;clear hb;simp only [List.cons_append,List.nil_append] at H) | ((with_reducible refine isAppend ?_);refine AtAppend.rows (enc:=encC) (xs:=st) (ys:=([]:List Pc)) H rfl rfl rfl rfl rfl (by decide) (by decide) rfl pk rfl (H.get (A:=rowsA encC 176 3 (.slice ad2 0 c2) ([]:List Pc)) pk) encC_len encC_one (by simp;omega) ?_;clear H;intro ad9 cp9 _ H;simp only [hsl,List.length_cons,List.length_nil,Nat.zero_add,Nat.add_zero,Nat.reduceAdd,List.append_nil] at H;simp only [Act.put,puA,puB,puC]))
         have HH:=Lib.hid (St.only3 H (A:=rowsA encT 137 3 (.slice ad8 (pl + 1) cp8) (ps ++ [⟨L,pi,q⟩])) (B:=rowsA encC 176 3 (.slice ad2 0 c2) []) (C:=rowsA encC 176 3 (.slice ad9 sl cp9) st) pk pk pk)
         go_roundg d'
         case measure=>exact HD.out.1
         case rel =>
          try simp only [hsl,List.length_cons,List.length_nil,Nat.zero_add,Nat.add_zero,Nat.reduceAdd]
          exact ⟨_,[],st,HD.out.2,HH.out⟩
       ·have hc:=HP.out.off h1 h2
        generalize (S.txt L).length = ll at *
        obtain ⟨r,hrr⟩:∃ r,r = pn % ll:=⟨_,rfl⟩
        rw [← hrr] at hc
        obtain ⟨n3,hn3⟩:∃ n3,n3 = pn - r:=⟨_,rfl⟩
        rw [← hn3] at hc
        have e2:(pn:Int) % (ll:Int) = (r:Nat):=by rw [hrr];rfl
        have e2':(pn:Int).tmod (ll:Int) = (r:Nat):=by rw [tmod_nat,hrr]
        have e3:((r:Int) == 0) = false:=beq_eq_false_iff_ne.2 (by omega)
        obtain ⟨d',hd',hinv'⟩:=HINV.out.cut hc.text hc.ok hc.cost
        have HD:=Lib.hid (And.intro hd' hinv')
        have HPP:=Lib.hid (show ∀ w,(rowsA encC 176 3 (.slice ad2 0 c2) ([]:List Pc)).ho w→Calls Tryz.prog 90 #[.slice ad2 0 c2,.agg #[.int .i64 (3:Int),.int .u8 (0:Int),.int .i64 L,.int .i64 (0:Int),.int .i64 k],.agg #[.int .i64 pi,.int .i64 pa,.int .i64 pn],.int .i64 ll] w fun e w'=>∃ ad c,e = .returned (.slice ad 2 c)∧St w (rowsA encC 176 3 (.slice ad2 0 c2) ([]:List Pc)).fp [rowsA encC 176 3 (.slice ad 2 c) ([⟨pi,pa,n3⟩,⟨L,0,r⟩]:List Pc)] w' from fun w h=>ppower_off pi L k pa pn ll r n3 hlpos h1 hrr hn3 (by omega) (by omega) w h)
        have HRV:=Lib.hid (show ∀ ad c w,(rowsA encC 176 3 (.slice ad 2 c) ([⟨pi,pa,n3⟩,⟨L,0,r⟩]:List Pc)).ho w→Calls Tryz.prog 92 #[.slice ad 2 c] w fun e w'=>e = .returned (.tuple #[])∧St w (rowsA encC 176 3 (.slice ad 2 c) ([⟨pi,pa,n3⟩,⟨L,0,r⟩]:List Pc)).fp [rowsA encC 176 3 (.slice ad 2 c) ([⟨L,0,r⟩,⟨pi,pa,n3⟩]:List Pc)] w' from fun ad c w h=>rev_c (xs:=[⟨pi,pa,n3⟩,⟨L,0,r⟩]) rfl (by simp) w h)
        clear hd' hinv' hc hn3 hrr h1 h2
        go_wp2_with (first | refine sL ?_ | (refine sS ?_;clear H;intros;rename_i H) | ((with_reducible refine isLoad ?_);refine AtLoad.rngT (vs:=[.int .i64 pi,.int .i64 pa,.int .i64 pn]) rfl rfl rfl (H.rngL (enc:=encC) (xs:=st ++ [⟨pi,pa,pn⟩]) pk encC_len HLAST.out) rfl ?_;replace H:=(H.pick (A:=rowsA encC 176 3 (.slice (some ⟨g3,0,none⟩) (sl + 1) c3) (st ++ [⟨pi,pa,pn⟩])) pk).cut encC_len hsl;simp only [Act.put,puA,puB,puC]) | (go_at_call 23;first | (with_reducible refine Calls.mono (HW1.out _ (H.known HK pk)) ?_;rintro e wc ⟨rfl,hb⟩;replace H:=H.grew hb.below;clear hb) | (with_reducible refine Calls.mono (HW2.out _ (H.known HK pk)) ?_;rintro e wc ⟨rfl,hb⟩;replace H:=H.grew hb.below;clear hb)) | (go_at_call 45;with_reducible refine Calls.mono (HRU.out _ (H.known HK pk)) ?_;rintro e wc ⟨rfl,hb⟩;replace H:=H.grew hb.below;clear hb) | ((with_reducible refine isCut ?_);refine AtCut.zero rfl rfl rfl rfl rfl rfl HAD.out ?_;replace H:=(H.pick (A:=rowsA encC 176 3 (.slice ad2 nx.length c2) nx) pk).zero;simp only [Act.put,puA,puB,puC]) | (go_at_call 90;with_reducible refine Calls.mono (HPP.out _ (H.get (A:=rowsA encC 176 3 (.slice ad2 0 c2) []) pk)) ?_;rintro e wc ⟨ad5,c5,rfl,hb⟩;replace H:=H.pick (A:=rowsA encC 176 3 (.slice ad2 0 c2) []) pk;replace H:=H.call hb;clear hb;simp only [List.cons_append,List.nil_append] at H) | (go_at_call 92;with_reducible refine Calls.mono (HRV.out _ _ _ (H.get (A:=rowsA encC 176 3 (.slice ad5 2 c5) [⟨pi,pa,n3⟩,⟨L,0,r⟩]) pk)) ?_;rintro e wc ⟨rfl,hb⟩;replace H:=H.pick (A:=rowsA encC 176 3 (.slice ad5 2 c5) [⟨pi,pa,n3⟩,⟨L,0,r⟩]) pk;replace H:=H.call hb;clear hb;simp only [List.cons_append,List.nil_append] at H) | ((with_reducible refine isAppend ?_);refine AtAppend.rows (enc:=encC) (xs:=st) (ys:=[⟨L,0,r⟩,⟨pi,pa,n3⟩]) H rfl rfl rfl rfl rfl (by decide) (by decide) rfl pk rfl (H.get (A:=rowsA encC 176 3 (.slice ad5 2 c5) [⟨L,0,r⟩,⟨pi,pa,n3⟩]) pk) encC_len encC_one (by simp;omega) ?_;clear H;intro ad9 cp9 _ H;simp only [hsl,List.length_cons,List.length_nil,Nat.zero_add,Nat.add_zero,Nat.reduceAdd,List.append_nil] at H;simp only [Act.put,puA,puB,puC]))
        have HH:=Lib.hid (St.only3 H (A:=rowsA encT 137 3 (.slice ad1 pl c1) ps) (B:=rowsA encC 176 3 (.slice ad5 2 c5) [⟨L,0,r⟩,⟨pi,pa,n3⟩]) (C:=rowsA encC 176 3 (.slice ad9 (sl + 2) cp9) (st ++ [⟨L,0,r⟩,⟨pi,pa,n3⟩])) pk pk pk)
        go_roundg d'
        case measure=>exact HD.out.1
        case rel =>
         try simp only [hsl,List.length_cons,List.length_nil,Nat.zero_add,Nat.add_zero,Nat.reduceAdd]
         exact ⟨ps,[⟨L,0,r⟩,⟨pi,pa,n3⟩],st ++ [⟨L,0,r⟩,⟨pi,pa,n3⟩],HD.out.2,HH.out⟩
      ·obtain ⟨n',hn'⟩:∃ n',n' = min pn ((S.txt L).length - pa % (S.txt L).length):=⟨_,rfl⟩
       have hc:=HP.out.on h1 n' hn'
       generalize (S.txt L).length = ll at *
       obtain ⟨a,ha⟩:∃ a,a = pa % ll:=⟨_,rfl⟩
       rw [← ha] at hc h1 hn'
       have e1:(pa:Int) % (ll:Int) = (a:Nat):=by rw [ha];rfl
       have e1':(pa:Int).tmod (ll:Int) = (a:Nat):=by rw [tmod_nat,ha]
       have e3:((a:Int) == 0) = false:=beq_eq_false_iff_ne.2 (by omega)
       obtain ⟨s2,hs2⟩:∃ s2,s2 = pa + n':=⟨_,rfl⟩
       obtain ⟨n2,hn2⟩:∃ n2,n2 = pn - n':=⟨_,rfl⟩
       rw [← hs2,← hn2] at hc
       obtain ⟨r,hrr⟩:∃ r,r = n2 % ll:=⟨_,rfl⟩
       rw [← hrr] at hc
       obtain ⟨n3,hn3⟩:∃ n3,n3 = n2 - r:=⟨_,rfl⟩
       rw [← hn3] at hc
       obtain ⟨d',hd',hinv'⟩:=HINV.out.cut hc.text hc.ok hc.cost
       have HD:=Lib.hid (And.intro hd' hinv')
       have HPP:=Lib.hid (show ∀ w,(rowsA encC 176 3 (.slice ad2 0 c2) ([]:List Pc)).ho w→Calls Tryz.prog 90 #[.slice ad2 0 c2,.agg #[.int .i64 (3:Int),.int .u8 (0:Int),.int .i64 L,.int .i64 (0:Int),.int .i64 k],.agg #[.int .i64 pi,.int .i64 pa,.int .i64 pn],.int .i64 ll] w fun e w'=>∃ ad c,e = .returned (.slice ad 3 c)∧St w (rowsA encC 176 3 (.slice ad2 0 c2) ([]:List Pc)).fp [rowsA encC 176 3 (.slice ad 3 c) ([⟨L,a,n'⟩,⟨pi,s2,n3⟩,⟨L,0,r⟩]:List Pc)] w' from fun w h=>ppower_on pi L k pa pn ll a n' s2 n2 r n3 hlpos ha (by omega) hn' hs2 hn2 hrr hn3 (by omega) (by omega) w h)
       have HRV:=Lib.hid (show ∀ ad c w,(rowsA encC 176 3 (.slice ad 3 c) ([⟨L,a,n'⟩,⟨pi,s2,n3⟩,⟨L,0,r⟩]:List Pc)).ho w→Calls Tryz.prog 92 #[.slice ad 3 c] w fun e w'=>e = .returned (.tuple #[])∧St w (rowsA encC 176 3 (.slice ad 3 c) ([⟨L,a,n'⟩,⟨pi,s2,n3⟩,⟨L,0,r⟩]:List Pc)).fp [rowsA encC 176 3 (.slice ad 3 c) ([⟨L,0,r⟩,⟨pi,s2,n3⟩,⟨L,a,n'⟩]:List Pc)] w' from fun ad c w h=>rev_c (xs:=[⟨L,a,n'⟩,⟨pi,s2,n3⟩,⟨L,0,r⟩]) rfl (by simp) w h)
       clear hd' hinv' hc hn3 hrr hn2 hs2 ha hn' h1
       go_wp2_with (first | refine sL ?_ | (refine sS ?_;clear H;intros;rename_i H) | ((with_reducible refine isLoad ?_);refine AtLoad.rngT (vs:=[.int .i64 pi,.int .i64 pa,.int .i64 pn]) rfl rfl rfl (H.rngL (enc:=encC) (xs:=st ++ [⟨pi,pa,pn⟩]) pk encC_len HLAST.out) rfl ?_;replace H:=(H.pick (A:=rowsA encC 176 3 (.slice (some ⟨g3,0,none⟩) (sl + 1) c3) (st ++ [⟨pi,pa,pn⟩])) pk).cut encC_len hsl;simp only [Act.put,puA,puB,puC]) | (go_at_call 23;first | (with_reducible refine Calls.mono (HW1.out _ (H.known HK pk)) ?_;rintro e wc ⟨rfl,hb⟩;replace H:=H.grew hb.below;clear hb) | (with_reducible refine Calls.mono (HW2.out _ (H.known HK pk)) ?_;rintro e wc ⟨rfl,hb⟩;replace H:=H.grew hb.below;clear hb)) | (go_at_call 45;with_reducible refine Calls.mono (HRU.out _ (H.known HK pk)) ?_;rintro e wc ⟨rfl,hb⟩;replace H:=H.grew hb.below;clear hb) | ((with_reducible refine isCut ?_);refine AtCut.zero rfl rfl rfl rfl rfl rfl HAD.out ?_;replace H:=(H.pick (A:=rowsA encC 176 3 (.slice ad2 nx.length c2) nx) pk).zero;simp only [Act.put,puA,puB,puC]) | (go_at_call 90;with_reducible refine Calls.mono (HPP.out _ (H.get (A:=rowsA encC 176 3 (.slice ad2 0 c2) []) pk)) ?_;rintro e wc ⟨ad5,c5,rfl,hb⟩;replace H:=H.pick (A:=rowsA encC 176 3 (.slice ad2 0 c2) []) pk;replace H:=H.call hb;clear hb;simp only [List.cons_append,List.nil_append] at H) | (go_at_call 92;with_reducible refine Calls.mono (HRV.out _ _ _ (H.get (A:=rowsA encC 176 3 (.slice ad5 3 c5) [⟨L,a,n'⟩,⟨pi,s2,n3⟩,⟨L,0,r⟩]) pk)) ?_;rintro e wc ⟨rfl,hb⟩;replace H:=H.pick (A:=rowsA encC 176 3 (.slice ad5 3 c5) [⟨L,a,n'⟩,⟨pi,s2,n3⟩,⟨L,0,r⟩]) pk;replace H:=H.call hb;clear hb;simp only [List.cons_append,List.nil_append] at H) | ((with_reducible refine isAppend ?_);refine AtAppend.rows (enc:=encC) (xs:=st) (ys:=[⟨L,0,r⟩,⟨pi,s2,n3⟩,⟨L,a,n'⟩]) H rfl rfl rfl rfl rfl (by decide) (by decide) rfl pk rfl (H.get (A:=rowsA encC 176 3 (.slice ad5 3 c5) [⟨L,0,r⟩,⟨pi,s2,n3⟩,⟨L,a,n'⟩]) pk) encC_len encC_one (by simp;omega) ?_;clear H;intro ad9 cp9 _ H;simp only [hsl,List.length_cons,List.length_nil,Nat.zero_add,Nat.add_zero,Nat.reduceAdd,List.append_nil] at H;simp only [Act.put,puA,puB,puC]))
       have HH:=Lib.hid (St.only3 H (A:=rowsA encT 137 3 (.slice ad1 pl c1) ps) (B:=rowsA encC 176 3 (.slice ad5 3 c5) [⟨L,0,r⟩,⟨pi,s2,n3⟩,⟨L,a,n'⟩]) (C:=rowsA encC 176 3 (.slice ad9 (sl + 3) cp9) (st ++ [⟨L,0,r⟩,⟨pi,s2,n3⟩,⟨L,a,n'⟩])) pk pk pk)
       go_roundg d'
       case measure=>exact HD.out.1
       case rel =>
        try simp only [hsl,List.length_cons,List.length_nil,Nat.zero_add,Nat.add_zero,Nat.reduceAdd]
        exact ⟨ps,[⟨L,0,r⟩,⟨pi,s2,n3⟩,⟨L,a,n'⟩],st ++ [⟨L,0,r⟩,⟨pi,s2,n3⟩,⟨L,a,n'⟩],HD.out.2,HH.out⟩
end
end Go.Proofs.YtijnhpaafhcndaaGreat
section
namespace Go.Proofs
open Go.Shelf
def Tryz.laysRq_ren:Go.Shelf.Ren:=⟨fun | 35=>65 | n=>n,fun | 22=>98 | 23=>137 | n=>n,fun | n=>n⟩
theorem Tryz.laysRq:Go.Proofs.SlLaysE0.n35 Tryz.prog Tryz.laysRq_ren:={
 mixed:=by kernel_rfl
 f35:=⟨Tryz.f65.name,by decide,Tryz.func65.trans (congrArg some (by kernel_rfl))⟩
 t0:=Tryz.underlying0
 a0:=Tryz.isAgg0
 z0:=Tryz.sizeOf0
 v0:=Tryz.zeroValue0
 t3:=Tryz.underlying3
 a3:=Tryz.isAgg3
 z3:=Tryz.sizeOf3
 v3:=Tryz.zeroValue3
 t4:=Tryz.underlying4
 a4:=Tryz.isAgg4
 z4:=Tryz.sizeOf4
 v4:=Tryz.zeroValue4
 t22:=Tryz.underlying98
 a22:=Tryz.isAgg98
 z22:=Tryz.sizeOf98
 v22:=Tryz.zeroValue98 }
end Go.Proofs
namespace Go.Proofs.YtijnhpaafhcndaaGreat
open Go.RowKit Go.Maps Go.Sort
set_option maxHeartbeats 2000000
set_option maxRecDepth 100000
set_option linter.unusedSimpArgs false
set_option linter.unusedVariables false
instance:Inhabited Pt:=⟨⟨0,0,0⟩⟩
theorem revT_c {ad:Option Addr} {c n:Nat} {xs:List Pt} (hn:xs.length = n) (hx:n≤16777216) (w:World) (h:(rowsA encT 137 3 (.slice ad n c) xs).ho w) :
  Calls Tryz.prog 65 #[.slice ad n c] w fun e w'=>e = .returned (.tuple #[])∧St w (rowsA encT 137 3 (.slice ad n c) xs).fp [rowsA encT 137 3 (.slice ad n c) xs.reverse] w':=by
 subst hn
 by_cases h0:xs.length = 0
 ·have hxs:xs = []:=List.eq_nil_of_length_eq_zero h0
  subst hxs
  have:=AnyQ.slices_Reverse_empty Tryz.laysRq ad c w
  refine this.mono ?_
  rintro e w' ⟨rfl,rfl⟩
  exact ⟨rfl,St.one h⟩
 ·obtain ⟨g,c',he,_,_⟩:=rowsA_cases h (by omega)
  injection he with e1 e2 e3
  subst e1 e3
  have hK:=holdsK_of encT_len (by omega) h
  have:=AnyQ.slices_Reverse Tryz.laysRq 3 Tryz.isAgg137 Tryz.sizeOf137 encT encT_len encT_one g 0 c xs.toArray w hK (by simp;omega)
  refine this.mono ?_
  rintro e w' ⟨rfl,m,rfl⟩
  have e5:xs.toArray.reverse = xs.reverse.toArray:=by simp
  rw [e5]
  exact ⟨rfl,rowsA_put encT_len (by omega) (by simp) m h⟩
end Go.Proofs.YtijnhpaafhcndaaGreat
end
namespace Go.Proofs.YtijnhpaafhcndaaGreat
section
theorem rep_reverse (k:Nat) (l:List Nat):(rep k l).reverse = rep k l.reverse:=by
 induction k with
 |zero=>simp [rep]
 |succ k ih =>
  rw [rep_succ,List.reverse_append,ih,rep_add k 1,rep_one]
def partsB (b:Bool) (ps:List Pt):List Pt:=if b then ps.reverse else ps
theorem partsB_len (b:Bool) (ps:List Pt):(partsB b ps).length = ps.length:=by cases b <;> simp [partsB]
theorem partsB_mem {b:Bool} {ps:List Pt} {t:Pt} (h:t∈partsB b ps):t∈ps:=by cases b <;> simpa [partsB] using h
def runP (S:Sto) (b:Bool) (ps:List Pt):List Nat:=(ps.map fun t=>dirT b (S.ptTxt t)).flatten
theorem runP_append (S:Sto) (b:Bool) (x y:List Pt):runP S b (x ++ y) = runP S b x ++ runP S b y:=by simp [runP]
theorem runP_all (S:Sto) (b:Bool) (ps:List Pt):runP S b (partsB b ps) = dirT b (textP S ps):=by
 cases b with
 |false=>rfl
 |true =>
  simp only [partsB,if_true,dirT]
  induction ps with
  |nil=>rfl
  |cons t ps ih =>
   rw [List.reverse_cons,runP_append,ih]
   simp [textP,runP,dirT]
theorem runP_take (S:Sto) (b:Bool) {ps:List Pt} {j:Nat} {t:Pt} (h:ps[j]? = some t):runP S b (ps.take (j + 1)) = runP S b (ps.take j) ++ dirT b (S.ptTxt t):=by
 rw [List.take_add_one,h,runP_append]
 simp [runP]
def PRun (m:Mc) (q0:Nat) (l:List Nat) (q h:Nat):Prop:=q = m.ends q0 l∧h = capN (m.sum q0 l)
theorem PRun.nil (m:Mc) (q0:Nat):PRun m q0 [] q0 0:=⟨rfl,rfl⟩
theorem PRun.app {m:Mc} {q0:Nat} {l:List Nat} {q h:Nat} (r:PRun m q0 l q h) (l2:List Nat):PRun m q0 (l ++ l2) (m.ends q l2) (capN (h + m.sum q l2)):=by
 obtain ⟨rfl,rfl⟩:=r
 refine ⟨(m.ends_append q0 l l2).symm,?_⟩
 rw [m.sum_append]
 unfold capN beyond;omega
theorem PRun.le {m:Mc} {q0:Nat} {l:List Nat} {q h:Nat} (r:PRun m q0 l q h):h≤beyond:=by rw [r.2];exact capN_le _
def BRun (m:Mc) (q0:Nat) (l base:List Nat) (t j k q h:Nat):Prop:=k = t / 2 ^ j∧PRun m q0 (l ++ rep (t % 2 ^ j) base) q h
theorem BRun.first {m:Mc} {q0:Nat} {l base:List Nat} {t q h:Nat} (r:PRun m q0 l q h):BRun m q0 l base t 0 t q h:=by
 refine ⟨by simp,?_⟩
 rw [Nat.pow_zero,Nat.mod_one,rep_zero,List.append_nil]
 exact r
theorem bit_mod (t j:Nat):t % 2 ^ (j + 1) = t % 2 ^ j + 2 ^ j * (t / 2 ^ j % 2):=by
 rw [Nat.pow_succ,Nat.mod_mul]
theorem BRun.on {m:Mc} {q0:Nat} {l base:List Nat} {t j k q h:Nat} (r:BRun m q0 l base t j k q h) (hb:k % 2 = 1):BRun m q0 l base t (j + 1) (k / 2) (m.ends q (rep (2 ^ j) base)) (capN (h + m.sum q (rep (2 ^ j) base))):=by
 obtain ⟨rfl,r⟩:=r
 refine ⟨by rw [Nat.pow_succ,Nat.div_div_eq_div_mul],?_⟩
 rw [bit_mod,hb,Nat.mul_one,rep_add,← List.append_assoc]
 exact r.app _
theorem BRun.off {m:Mc} {q0:Nat} {l base:List Nat} {t j k q h:Nat} (r:BRun m q0 l base t j k q h) (hb:k % 2 = 0):BRun m q0 l base t (j + 1) (k / 2) q h:=by
 obtain ⟨rfl,r⟩:=r
 refine ⟨by rw [Nat.pow_succ,Nat.div_div_eq_div_mul],?_⟩
 rw [bit_mod,hb,Nat.mul_zero,Nat.add_zero]
 exact r
theorem BRun.last {m:Mc} {q0:Nat} {l base:List Nat} {t j k q h:Nat} (r:BRun m q0 l base t j k q h) (hk:k = 0):PRun m q0 (l ++ rep t base) q h:=by
 obtain ⟨rfl,r⟩:=r
 have:t % 2 ^ j = t:=Nat.mod_eq_of_lt (by
  rcases Nat.lt_or_ge t (2 ^ j) with h | h
  ·exact h
  ·have:=Nat.div_pos h (Nat.two_pow_pos j);omega)
 rwa [this] at r
theorem BRun.lt {m:Mc} {q0:Nat} {l base:List Nat} {t j k q h n:Nat} (r:BRun m q0 l base t j k q h) (hk:0 < k) (ht:t < 2 ^ n):j < n:=by
 obtain ⟨rfl,_⟩:=r
 rcases Nat.lt_or_ge j n with h | h
 ·exact h
 ·have h2:2 ^ n≤2 ^ j:=Nat.pow_le_pow_right (by omega) h
  rw [Nat.div_eq_of_lt (by omega)] at hk
  omega
end
end Go.Proofs.YtijnhpaafhcndaaGreat
