/-
  Part 8 of the texts behind the statements of this seat: walks and laws Lw, Mk, Ml, Mm, Mn, Mo, Mp, Lx, Ly, Mq. Conditions: as each states.
-/
import Derived.Test.YtminpdngkjlehaaDoorCq7
import Derived.Defers
import Derived.Recover
set_option linter.unusedSimpArgs false
set_option linter.unusedVariables false
set_option maxRecDepth 100000
set_option maxHeartbeats 80000000
open Array renaming getElem?_eq_some_iff→xk,getElem?_modify→Z4,replicate→YY
open Bool renaming eq_iff_iff→q5,false_eq_true→kQ
open Go.Proofs.Tryd renaming func3→QJ,func8→ZU,ntmps8→vY,prog→z6
open List renaming Perm→yd,cons_append→z7,drop_succ_cons→wO,drop_zero→y8,eq_nil_of_length_eq_zero→qI,getD_eq_getElem?_getD→ze,getElem?_append_left→zv,getElem?_append_right→qu,getElem?_eq_none_iff→yh,getElem?_map→zq,getElem?_range→xP,length_append→zN,length_eq_one_iff→qZ,length_map→zE,length_singleton→qm,map_cons→qU,map_nil→k6,mem_append→zt,mem_append_left→q6,mem_append_right→qx,mem_cons→zG,mem_cons_self→zS,mem_map→zC,mem_singleton→zV,nil_append→z8,range→zl,take_of_length_le→zM,take_zero→jG
open Nat renaming and_le_right→wP,eq_zero_or_pos→qR,le_refl→zp,lt_of_le_of_lt→yL,lt_or_ge→zD,lt_trichotomy→yG,zero_add→qA,zero_le→zH,zero_lt_succ→xd
namespace Go.Proofs.YtminpdngkjlehaaDoor
section
open Go.RowKit Go.Maps
attribute [local go_sem] qM
theorem XN (p q:Addr) (w:World) :
  CallsD z6 21 #[.pointer (some p),.pointer (some q)] .returning w fun e u' w'=>e=.returned (.tuple #[])∧u'=.returning∧w'=w:=by
 refine callsD_of_wpS Tryd.func21 rfl fun c₀ cs hu=>?_
 apply wpS_seq;apply wpS_region;simp [wpOpsS,go_sem,recoverD,hu,Tryd.ntmps21,Exit.thenS];refine wpS_cond (t:=false) (by simp [Act.eval,YY]) ?_;simp only [kQ,if_false];refine wpS_of_wp (wp_skip ?_);cases c₀
 simp_all [bodyPostS,results,Tryd.results21]
theorem XU:∀ (l:List (Hd×SlT)),zX qp l=zX xE (l.map fun x=>(⟨x.1,slV x.2⟩:R8))
 |[]=>rfl
 |x::l=>by
  show qp x++zX qp l=_
  rw [XU l];rfl
theorem jW {α:Type} {enc:α->List Value} {e k n c:Nat} {ad:Option Addr} {xs:List α} {w:World} (hk:∀ x,(enc x).length=k) (h0:0<xs.length) (h:(zi enc e k (.slice ad n c) xs).ho w):∃ g,ad=some ⟨g,0,none⟩∧RowIn [(g,0,zX enc xs)] enc k (.slice ad n c) xs∧(zw [(g,0,zX enc xs)]).ho w:=by
 obtain ⟨ad9,c9,e9,hm⟩:=zW h;injection e9 with e1 e2 e3
 subst e1 e2 e3;obtain ⟨g,c',e8,_⟩:=qF h h0;injection e8 with e1 _ e3
 subst e1 e3;refine ⟨g,rfl,⟨_,_,rfl,hm,fun _=>⟨g,0,rfl,by simp⟩⟩,?_⟩;have hpl:=Jd h;rw [jm,xV];refine ⟨fun x hx=>?_,fun x hx=>?_⟩
 ·simp only [zV] at hx;subst hx;refine ⟨(zi enc e k (.slice (some ⟨g,0,none⟩) xs.length c) xs).lt w h g (by rw [q9];simp [Value.ownBlock]),fun j u hj=>?_⟩;have hjl:j<xs.length*k:=(by have:=zP hj;rwa [qz enc k hk] at this);have hk0:0<k:=by
   rcases qR k with h|h
   ·rw [h] at hjl;omega
   ·exact h
  have hq:j/k<xs.length:=Nat.div_lt_of_lt_mul (by rw [Nat.mul_comm];exact hjl);have hx:xs[j/k]?=some (xs[j/k]'hq):=zg _;have h1:=wV enc k hk xs (j/k) _ hx (j%k) (Nat.mod_lt _ hk0);have hdm:j/k*k+j%k=j:=(by rw [Nat.mul_comm];exact Nat.div_add_mod j k);rw [hdm,hj] at h1;have:=qL h hk hx (j:=j%k) h1.symm;rwa [hdm,show j=0+j by omega] at this
 ·simp only [zV] at hx;subst hx;exact hpl g (by rw [q9];simp [Value.ownBlock])
theorem ZM {fn:Func} {p q:Tmp} (h:fn.results=#[.cell p 37,.cell q 29]) {w0 w:World} {M:List Nat} {L R R':List As} (H:St w0 M L w) {tmps:Array Value} {g g2:Nat} {cs:Array Value} {v:Value} (hp:tmps.getD p undef=.pointer (some ⟨g,0,none⟩)) (hk:Pick L (blk g (.cells cs 37)) R) (hr:wK 37 cs.size=true) (hq:tmps.getD q undef=.pointer (some ⟨g2,0,none⟩)) (hk2:Pick L (blk g2 (.cells #[v] 29)) R') :
  (results fn tmps).run z6 w=.ok (.tuple #[.agg cs,v]) w:=by
 have hl:=xY (w:=w) (yR hr) (H.at hk) (o:=0) (vs:=cs.toList) (by simp only [y8];exact zM (by simp)) (by simp);simp only [Instr.loadAt,Instr.sureAddr,Sem.run_bind,Sem.run_pure,Result.andThen_ok] at hl;have hp':tmps[p]?.getD undef=.pointer (some ⟨g,0,none⟩):=(by simpa using hp);have hq':tmps[q]?.getD undef=.pointer (some ⟨g2,0,none⟩):=(by simpa using hq);have hc:w.cell? ⟨g2,0,none⟩=some v:=cell_of_row _ g2 0 #[v] 29 (0,0) (H.at hk2);have hl2:(loadVar 29 ⟨g2,0,none⟩).run z6 w=.ok v w:=(by simp [go_sem,hc,Tryd.underlying29]);simp [results,h,hp',hq',asAddr,hl,hl2,Result.andThen]
def abR:Rx:=.mk ⟨3,0,0,0,0,0,0⟩ [.mk (vq 97) [],.mk (vq 98) []]
theorem ltr_fit (c:Nat):(vq c).Fit:=⟨wM _ 0,wM _ 1,wM _ 2,wM _ 3⟩
theorem KG {P:zT} (c:Nat):RxIn P ⟨vq c,.slice none 0 0⟩ (.mk (vq c) []) :=
 .mk ⟨vq c,.slice none 0 0⟩ [] [] (ltr_fit c) ⟨none,0,rfl,by simp,fun h=>by simp at h⟩ rfl fun i r p h=>by simp at h
theorem ab_in {P:zT} {ad:Option Addr} {cp:Nat} (h:RowIn P qp 8 (.slice ad 2 cp) ([97,98].map ltr)):RxIn P ⟨⟨3,0,0,0,0,0,0⟩,.slice ad 2 cp⟩ abR:=by
 refine .mk ⟨⟨3,0,0,0,0,0,0⟩,.slice ad 2 cp⟩ _ [⟨vq 97,.slice none 0 0⟩,⟨vq 98,.slice none 0 0⟩] ⟨xd _,xd _,xd _,xd _⟩ ?_ rfl fun i r p h1 h2=>?_
 ·obtain ⟨ad',c',e1,hm,h3⟩:=h;refine ⟨ad',c',e1,hm,fun h0=>?_⟩;obtain ⟨g,o,e2,hmem⟩:=h3 (by simp);refine ⟨g,o,e2,?_⟩;rw [XU] at hmem;exact hmem
 ·match i,h1,h2 with
  |0,h1,h2=>simp at h1 h2;subst h1 h2;exact KG 97
  |1,h1,h2=>simp at h1 h2;subst h1 h2;exact KG 98
  |i+2,h1,_=>simp at h1
theorem ZY:abR.valid=true:=by
 simp [abR,Rx.valid,Rx.validL,Hd.okN,vq]
theorem Zq:abR.meas=some 2:=by
 simp [abR,Rx.meas,Rx.node,Rx.nodeL,Hd.cop,vq]
def sab:ByteArray:=⟨#[97,98]⟩
theorem sab_L:StrL sab [97,98]:=by
 refine ⟨rfl,fun i c h=>?_,by simp⟩
 match i,h with
 |0,h=>simp at h;subst h;intro w;kernel_rfl
 |1,h=>simp at h;subst h;intro w;kernel_rfl
 |i+2,h=>simp at h
theorem plain_a:Y6 97:=by unfold Y6;refine ⟨by omega,by omega,by omega,by omega,by omega,by decide,by omega,by omega,by omega,by omega,by omega,by omega⟩
theorem plain_b:Y6 98:=by unfold Y6;refine ⟨by omega,by omega,by omega,by omega,by omega,by decide,by omega,by omega,by omega,by omega,by omega,by omega⟩
theorem meas_ab {b2:Nat} {ad:Option Addr} {cp:Nat} (w:World) (h1:(blk b2 (.cells #[.int .i64 3,.int .u64 0,.int .u64 0,.int .u64 0,.int .u64 0,.int .i64 0,.int .i64 0,.slice ad 2 cp] 37)).ho w) (h2:(zi qp 37 8 (.slice ad 2 cp) ([97,98].map ltr)).ho w) :
  Calls z6 23 #[.pointer (some ⟨b2,0,none⟩)] w fun e w'=>e=.returned (.tuple #[.int .i64 2,.nilIface])∧St w [] [] w':=by
 obtain ⟨g,rfl,hr,hp⟩:=jW yC (by simp) h2;have hp2:(zw [(b2,0,[.int .i64 3,.int .u64 0,.int .u64 0,.int .u64 0,.int .u64 0,.int .i64 0,.int .i64 0,.slice (some ⟨g,0,none⟩) 2 cp])]).ho w:=(St.one h1).blk_poolG.ho _ (by simp);have hpa:=jv hp2 hp;have hn:NodeAt ([(b2,0,[.int .i64 3,.int .u64 0,.int .u64 0,.int .u64 0,.int .u64 0,.int .i64 0,.int .i64 0,.slice (some ⟨g,0,none⟩) 2 cp])]++[(g,0,zX qp ([97,98].map ltr))]) b2 0 ⟨⟨3,0,0,0,0,0,0⟩,.slice (some ⟨g,0,none⟩) 2 cp⟩ abR:=by
  refine ⟨fun w hw=>?_,by simp,(ab_in hr).mono fun y hy=>qx _ hy⟩;have:=(xB hw)
  rw [xV] at this;exact (this _ (q6 _ (zV.2 rfl))).2
 refine zm (JQ hn ZY w hpa) ?_;rintro e w' ⟨⟨h,_⟩|⟨p,h,he⟩,hb⟩
 ·rw [Zq] at h;cases h
 ·rw [Zq] at h;injection h with h
  subst h;exact ⟨he,hb⟩
theorem parse_ab (w:World) :
  Calls z6 8 #[.string ⟨#[97,98]⟩] w fun e w'=>∃ ad cp,e=.returned (.tuple #[.agg #[.int .i64 3,.int .u64 0,.int .u64 0,.int .u64 0,.int .u64 0,.int .i64 0,.int .i64 0,.slice ad 2 cp],.nilIface])∧St w [] [zi qp 37 8 (.slice ad 2 cp) ([97,98].map ltr)] w':=by
 have H:=St.nil w [];have HK:Ks w [] []:=Ks.nil w _;have hmf:∀ (fn:Fn) (first cap:Array Value) (w:World),(Instr.makeFunc fn first cap).run z6 w=.ok (.func fn first cap) w:=fun _ _ _ _=>rfl
 have HEX:Hid (∀ bp w,(blk bp (.cells #[.string ⟨#[97,98]⟩,.int .i64 0] 58)).ho w->Calls z6 22 #[.pointer (some ⟨bp,0,none⟩)] w fun e w'=>∃ ad cp,e=.returned (.agg #[.int .i64 3,.int .u64 0,.int .u64 0,.int .u64 0,.int .u64 0,.int .i64 0,.int .i64 0,.slice ad 2 cp])∧St w [bp] [blk bp (.cells #[.string ⟨#[97,98]⟩,.int .i64 2] 58),zi qp 37 8 (.slice ad 2 cp) ([97,98].map ltr)] w'):=zh fun bp w h=>expr_c (bp:=bp) (s:=sab) sab_L (by simp) (by simp) (by simp [plain_a,plain_b]) w h
 have HCO:Hid (∀ w,Calls z6 20 #[.string ⟨#[97,98]⟩,.string ⟨#[40]⟩] w fun e w'=>e=.returned (.int .i64 0)∧w'=w):=zh fun w=>by
  have:=Tryd.strings_Count_one ⟨#[97,98]⟩ 40 w;have e:Lib.countByte (ByteArray.mk #[97,98]).data.toList 40=0:=(by decide);rw [e] at this;exact this
 go_enter_defers ZU,vY
 go_wp2_with (first|refine sL ?_|(refine sS ?_;clear H;intros;rename_i H)|(go_at_call 20;with_reducible refine zm (HCO.out _) ?_;rintro e wc ⟨rfl,rfl⟩));rename_i b2 _ b3 bp _ _ _ _ _ _;refine zm (HEX.out _ _ (H.get pk)) ?_;rintro e wc ⟨ad,cp,rfl,hb⟩;rw [← qi bp (.cells #[.string ⟨#[97,98]⟩,.int .i64 0] 58)] at hb;replace H:=(H.pick pk).call hb;simp only [z7,z8] at H;clear hb;have HMS:=zh (fun w h1 h2=>meas_ab (b2:=b2) (ad:=ad) (cp:=cp) w h1 h2);go_wp2_with (first|refine sL ?_|(refine sS ?_;clear H;intros;rename_i H)|(go_at_call 23;with_reducible refine zm (HMS.out _ (H.get pk) (H.get pk)) ?_;rintro e wc ⟨rfl,hb⟩;replace H:=H.grew hb.below;clear hb));refine leaves_cons (f:=21) (args:=#[.pointer (some ⟨b2,0,none⟩),.pointer (some ⟨b3,0,none⟩)]) (by simp) (by simp [go_sem]) ?_;refine (XN _ _ _).mono ?_;rintro e u' w'' ⟨rfl,rfl,rfl⟩;exact ⟨_,ZM rfl H rfl pk rfl rfl pk,ad,cp,rfl,H.picks (.cons pk .nil)⟩
end
section
open Go.RowKit Go.Maps
attribute [local go_sem] qM run_panic_i
def XsIn (P:zT) (xs:List (Hd×SlT)) (l:List Rx):Prop:=xs.length=l.length∧∀ (i:Nat) (x:Hd×SlT) (r:Rx),xs[i]?=some x->l[i]?=some r->RxIn P ⟨x.1,slV x.2⟩ r
theorem XsIn.nil {P:zT}:XsIn P [] []:=⟨rfl,fun i x r h=>by simp at h⟩
theorem XsIn.mono {P Q:zT} {xs:List (Hd×SlT)} {l:List Rx} (h:XsIn P xs l) (hs:∀ y∈P,y∈Q):XsIn Q xs l:=⟨h.1,fun i x r a b=>(h.2 i x r a b).mono hs⟩
theorem XsIn.snoc {P:zT} {xs:List (Hd×SlT)} {l:List Rx} {x:Hd×SlT} {r:Rx} (h:XsIn P xs l) (hx:RxIn P ⟨x.1,slV x.2⟩ r):XsIn P (xs++[x]) (l++[r]):=by
 refine ⟨by simp [h.1],fun i y q a b=>?_⟩;rcases yG i xs.length with g|g|g
 ·rw [zv g] at a;rw [zv (by rw [← h.1];exact g)] at b;exact h.2 i y q a b
 ·subst g;rw [qu (zp _)] at a;rw [h.1,qu (zp _)] at b;simp at a b;subst a b;exact hx
 ·have:=zP a;simp at this;omega
theorem xQ {P Q:zT}:(xq (P++Q)).length=(xq P).length+(xq Q).length:=by unfold xq;simp
theorem vh {g:Nat} {cs:List Value}:(xq [(g,0,cs)]).length=cs.length:=by unfold xq;simp
theorem St.rows_poolG1 {e n c:Nat} {ad:Option Addr} {xs:List (Hd×SlT)} {w0 w:World} {M:List Nat} {R:List As} (h:St w0 M (zi qp e 8 (.slice ad n c) xs::R) w) (h0:0<xs.length) :
  ∃ g,ad=some ⟨g,0,none⟩∧RowIn [(g,0,zX qp xs)] qp 8 (.slice ad n c) xs∧St w0 M (zw [(g,0,zX qp xs)]::R) w:=by
 obtain ⟨g,rfl,hr,hp⟩:=jW yC h0 (h.ho _ zS);refine ⟨g,rfl,hr,h.conv (by rw [kz,q9];rfl) fun hh=>?_⟩;obtain ⟨g',e',_,hp'⟩:=jW yC h0 hh;cases e'
 exact hp'
theorem St.blk_rows {e g:Nat} {cs:Array Value} {w0 w:World} {M:List Nat} {R:List As} (h:St w0 M (blk g (.cells cs e)::R) w) (x0:Hd×SlT) (he:cs.toList=qp x0):St w0 M (zi qp e 8 (.slice (some ⟨g,0,none⟩) 1 1) [x0]::R) w :=
 h.conv (by rw [q9,qi];rfl) fun hb=>jy (xs:=[x0]) (by rw [yB] at hb;exact hb) (by simp [maxLen]) (by simp [zX,he]) yC
theorem XsIn.node {P:zT} {xs:List (Hd×SlT)} {l:List Rx} {h:Hd} {g n c:Nat} {ad:Option Addr} (hx:XsIn P xs l) (hr:RowIn [(g,0,zX qp xs)] qp 8 (.slice ad n c) xs) (hf:h.Fit):RxIn ([(g,0,zX qp xs)]++P) ⟨h,.slice ad n c⟩ (.mk h l):=by
 refine .mk ⟨h,.slice ad n c⟩ l (xs.map fun x=>(⟨x.1,slV x.2⟩:R8)) hf ?_ (by rw [zE,hx.1]) fun i r p h1 h2=>?_
 ·obtain ⟨ad',c',e1,hm,h3⟩:=hr;refine ⟨ad',c',by rw [zE];exact e1,by rw [zE];exact hm,fun h0=>?_⟩;rw [zE] at h0;obtain ⟨g',o,e2,hmem⟩:=h3 h0;refine ⟨g',o,e2,?_⟩;rw [← XU];exact q6 _ hmem
 ·rw [zq] at h1;cases h9:xs[i]? with
  |none=>rw [h9] at h1;simp at h1
  |some x =>
   rw [h9] at h1;simp at h1;subst h1;exact (hx.2 i x p h9 h2).mono fun y hy=>qx _ hy
theorem kn (k lo hi:Int):(⟨k,0,0,0,0,lo,hi⟩:Hd).Fit:=⟨xd _,xd _,xd _,xd _⟩
theorem cntH_le {L:List Nat} {lo b c:Nat} {hi:Int} (h:Q1 L lo b=some (hi,c)) (hb:b<=L.length):b<=c∧c<=L.length:=by
 unfold Q1 at h;split at h
 ·rename_i h44;have:=zP h44;split at h
  ·split at h
   ·cases h
   ·rename_i hh cc hn;have:=vO hn (by omega);injection h with h;injection h with h1 h2;omega
  ·injection h with h;injection h with h1 h2;omega
 ·injection h with h;injection h with h1 h2;omega
theorem cntP_le {L:List Nat} {a b:Nat} {o:Option (Nat×Int)} (h:XP L a=some (o,b)) (ha:a<=L.length):(o=none->b=a)∧(o≠none->a<b)∧b<=L.length:=by
 unfold XP at h;split at h
 ·rename_i h9;have:=zP h9;injection h with h;injection h with h1 h2;subst h1;simp;omega
 ·split at h
  ·rename_i h9;have:=zP h9;injection h with h;injection h with h1 h2;subst h1;simp;omega
  ·split at h
   ·rename_i h9;have:=zP h9;injection h with h;injection h with h1 h2;subst h1;simp;omega
   ·split at h
    ·injection h with h;injection h with h1 h2;subst h1 h2;simp;omega
    ·rename_i h9;have h10:L[a]?=some 123:=(by simpa using h9);have:=zP h10;split at h
     ·cases h
     ·rename_i lo b' hn;have h1:=vO hn (by omega);split at h
      ·cases h
      ·rename_i hi c hc;have h2:=cntH_le hc h1.2.1;split at h
       ·rename_i h11;have:=zP h11.1;injection h with h;injection h with h1 h2;subst h1;simp;omega
       ·cases h
theorem seq_0 (ad:Option Addr) (cp:Nat) (w:World) :
  Calls z6 56 #[.slice ad 0 cp] w fun e w'=>e=.returned (.agg #[.int .i64 1,.int .u64 0,.int .u64 0,.int .u64 0,.int .u64 0,.int .i64 0,.int .i64 0,.slice none 0 0])∧St w [] [] w':=by
 have H:=St.nil w [];have HK:Ks w [] []:=Ks.nil w _;go_enter Tryd.func56,Tryd.ntmps56;go_wp2_with (first|refine sL ?_|(refine sS ?_;clear H;intros;rename_i H));refine bodyPost_ret (qy rfl H rfl pk rfl) rfl ?_;exact ⟨rfl,H.nix⟩
theorem Jf {e g n c:Nat} {x:Hd×SlT} {w:World} (h:(zi qp e 8 (.slice (some ⟨g,0,none⟩) n c) [x]).ho w):w.rangeAt g 0 (qp x):=fun j u hj=>by
 have:=qL h yC (i:=0) (x:=x) rfl (j:=j) hj;simpa using this
theorem seq_1 {g cp:Nat} {k:Int} {s0 s1 s2 s3:Nat} {lo hi:Int} {ad:Option Addr} {n c:Nat} (w:World) (h:(zi qp 37 8 (.slice (some ⟨g,0,none⟩) 1 cp) [(⟨k,s0,s1,s2,s3,lo,hi⟩,(ad,n,c))]).ho w) :
  Calls z6 56 #[.slice (some ⟨g,0,none⟩) 1 cp] w fun e w'=>e=.returned (.agg #[.int .i64 k,.int .u64 (s0:Nat),.int .u64 (s1:Nat),.int .u64 (s2:Nat),.int .u64 (s3:Nat),.int .i64 lo,.int .i64 hi,.slice ad n c])∧St w [] [] w':=by
 have H:=St.nil w [];have HK:Ks w [] [zi qp 37 8 (.slice (some ⟨g,0,none⟩) 1 cp) [(⟨k,s0,s1,s2,s3,lo,hi⟩,(ad,n,c))]]:=Ks.one h;have HRG:Hid (∀ w,(zi qp 37 8 (.slice (some ⟨g,0,none⟩) 1 cp) [(⟨k,s0,s1,s2,s3,lo,hi⟩,(ad,n,c))]).ho w->w.rangeAt g 0 [.int .i64 k,.int .u64 (s0:Nat),.int .u64 (s1:Nat),.int .u64 (s2:Nat),.int .u64 (s3:Nat),.int .i64 lo,.int .i64 hi,.slice ad n c]):=zh fun w h=>Jf h
 clear h;go_enter Tryd.func56,Tryd.ntmps56;go_wp2_with (first|refine sL ?_|(refine sS ?_;clear H;intros;rename_i H)|((with_reducible refine qN ?_);refine AtLoad.rngT rfl rfl rfl (HRG.out _ (H.known HK pk)) rfl ?_;simp only [Act.put,puA,puB,puC]));refine bodyPost_ret (qy rfl H rfl pk rfl) rfl ?_;exact ⟨rfl,H.nix⟩
end
section
open Go.RowKit Go.Maps
attribute [local go_sem] qM run_panic_i
def zR:Array Value:=#[.int .i64 0,.int .u64 0,.int .u64 0,.int .u64 0,.int .u64 0,.int .i64 0,.int .i64 0,.slice none 0 0]
theorem ExC.mono {s:ByteArray} {L:List Nat} {E:Nat->Option (Rx×Nat)} {a b:Nat} (h:ExC s L E a) (hab:a<=b):ExC s L E b:=fun c h1 h2=>h c (by omega) h2
theorem XsIn.one {P:zT} {x:Hd×SlT} {r:Rx} (h:RxIn P ⟨x.1,slV x.2⟩ r):XsIn P [x] [r]:=XsIn.nil.snoc h
theorem St.blk_node {e g:Nat} {cs:Array Value} {x:Hd×SlT} {t:Rx} {P:zT} {w0 w:World} {M:List Nat} {R:List As} (H:St w0 M (blk g (.cells cs e)::zw P::R) w) (he:cs.toList=qp x) (hx:RxIn P ⟨x.1,slV x.2⟩ t) (h:Hd) (hf:h.Fit) :
  ∃ P',RxIn P' ⟨h,.slice (some ⟨g,0,none⟩) 1 1⟩ (.mk h [t])∧(∀ y∈P,y∈P')∧(xq P').length=(xq P).length+8∧St w0 M (zw P'::R) w:=by
 obtain ⟨g',e1,hr,H2⟩:=(H.blk_rows x he).rows_poolG1 (by simp);cases e1
 refine ⟨_,(XsIn.one hx).node hr hf,fun y hy=>qx _ hy,?_,H2.poolG_add⟩;rw [xQ,vh,qz qp 8 yC];simp;omega
theorem JG {P:zT}:RxIn P ⟨⟨1,0,0,0,0,0,0⟩,.slice none 0 0⟩ (.mk ⟨1,0,0,0,0,0,0⟩ []) :=
 .mk ⟨⟨1,0,0,0,0,0,0⟩,.slice none 0 0⟩ [] [] (kn 1 0 0) ⟨none,0,rfl,by simp,fun h=>by simp at h⟩ rfl fun i r p h=>by simp at h
def CtX (w:World) (bp b2 bt a bo nl:Nat) (s:ByteArray) (L:List Nat) (Q:Option (Rx×Nat)) (v3:Value) (l:List Rx) (xs:List (Hd×SlT)) (mm:Nat) (wr:World):Prop :=
 ∃ (f b:Nat) (t:Rx) (k:Int) (s0 s1 s2 s3:Nat) (lo hi:Int) (ad:Option Addr) (n c:Nat) (P:zT),mm=nl-b∧bo<b∧b<=nl∧nl-b<f∧Qr L f b t=Q∧XsIn P xs l∧RxIn P ⟨⟨k,s0,s1,s2,s3,lo,hi⟩,.slice ad n c⟩ t∧16*a+(xq P).length+8*l.length+8<=16*b∧a+l.length+1<=b ∧
  St w [bp] [blk bt (.cells #[.int .i64 k,.int .u64 (s0:Nat),.int .u64 (s1:Nat),.int .u64 (s2:Nat),.int .u64 (s3:Nat),.int .i64 lo,.int .i64 hi,.slice ad n c] 37),paB bp s b,blk b2 (.cells #[.int .i64 0,.int .u64 0,.int .u64 0,.int .u64 0,.int .u64 0,.int .i64 0,.int .i64 0,.slice none 0 0] 37),zi qp 37 8 v3 xs,zw P] wr
def TmX (w:World) (bp b2 a nl:Nat) (s:ByteArray) (L:List Nat) (E:Nat->Option (Rx×Nat)) (D:Option (Rx×Nat)) (mm:Nat) (v3:Value) (wr:World):Prop :=
 ∃ (f b:Nat) (l:List Rx) (xs:List (Hd×SlT)) (P:zT),mm=nl-b∧a<=b∧b<=nl∧nl-b<f∧QN L E f b l=D∧XsIn P xs l∧16*a+(xq P).length+8*l.length<=16*b∧a+l.length<=b ∧
  St w [bp] [paB bp s b,blk b2 (.cells #[.int .i64 0,.int .u64 0,.int .u64 0,.int .u64 0,.int .u64 0,.int .i64 0,.int .i64 0,.slice none 0 0] 37),zi qp 37 8 v3 xs,zw P] wr
theorem Va {bp a:Nat} {s:ByteArray} {L:List Nat} {E:Nat->Option (Rx×Nat)} (hs:StrL s L) (hl:L.length<=262144) (ha:a<=L.length) (hE:ExC s L E a) (w:World) (h:(paB bp s a).ho w) :
  Calls z6 39 #[.pointer (some ⟨bp,0,none⟩)] w (PoX w bp s L a 0 (QN L E (L.length+1) a [])):=by
 have H:=St.one h;rw [qi] at H;have HK:Ks w [bp] []:=Ks.nil w _;obtain ⟨D,hD⟩:∃ z,QN L E (L.length+1) a []=z:=⟨_,rfl⟩
 rw [hD];have HX:=zh (za hs (za hl hE));obtain ⟨nl,hnl⟩:∃ z,L.length=z:=⟨_,rfl⟩
 have HNL:=zh hnl;have hsz:=hs.size;have HD:=zh hD;rw [hnl] at hsz hl ha HD;clear hs h hE hD hnl;go_enter Tryd.func39,Tryd.ntmps39;go_wp2_with (first|refine sL ?_|(refine sS ?_;clear H;intros;rename_i H));rename_i b2 _ _ _;replace H:=H.empty (A:=zi qp 37 8 (.slice none 0 0) []) (yS _) (by rw [q9];rfl);replace H:=H.nilG;go_loopg [3] (nl-a) (fun mm v3 wr=>TmX w bp b2 a nl s L E D mm v3 wr);case atStart=>exact ⟨nl+1,a,[],[],[],rfl,zp _,ha,by omega,HD.out,XsIn.nil,by simp [xq],by simp,H.picks (.cons pk (.cons pk (.cons pk (.cons pk .nil))))⟩
 case round =>
  clear H HD;obtain ⟨f,b,l,xs,P,rfl,hab,hbn,hfu,hD,hxs,hac,hln,H⟩:=hrel;obtain ⟨f,rfl⟩:∃ g,f=g+1:=⟨f-1,by omega⟩
  rw [QN] at hD;obtain ⟨ad3,c3,rfl,hml⟩:=zW (H.get (A:=zi qp 37 8 _ xs) pk);obtain ⟨n3,hn3⟩:∃ z,xs.length=z:=⟨_,rfl⟩
  rw [hn3] at H hml ⊢;have HXS:=zh (za hxs hn3);have hl3:l.length=n3:=(by rw [← hxs.1,hn3]);have HL3:=zh hl3;rw [hl3] at hac hln;have hac2:n3<=262144:=(by omega);clear hxs hn3 hl3;have hnl2:=HNL.out;cases hc:L[b]? with
  |none =>
   have hbe:b=nl:=by
    have h1:=yh.1 hc;rw [HNL.out] at h1;omega
   have e1:decide ((b:Int)<(nl:Int))=false:=(by simp;omega);have e1n:decide (b<nl)=false:=(by simp;omega);rw [hc] at hD;simp only at hD;subst hD;(try clear hbe)
   (try clear r1)
   (try clear r2)
   have HT9:Hid (n3<=262144):=zh hac2;rcases zD n3 1 with g0|g0
   ·obtain rfl:n3=0:=by omega
    have hl0:l=[]:=qI HL3.out;subst hl0;clear g0 hc;go_wp2_with (first|refine sL ?_|(refine sS ?_;clear H;intros;rename_i H));refine zr H 34 [] [] (by kernel_rfl) (by kernel_rfl) ?_;apply Exists.intro;refine ⟨fun w1 hw1 HX=>?_,fun bs wr Hr=>?_⟩
    ·refine sG ?_;repeat (first|go_big_quiet_skip|refine sQ ?_|fail|go_big_quiet_step (fail))
     exact wpQuiet_nil rfl
    clear H;have H:=Hr;clear Hr;replace H:=sH H;refine sT ?_;go_wp2_with (first|refine sL ?_|(refine sS ?_;clear H;intros;rename_i H)|(go_at_call 56;with_reducible refine zm (seq_0 _ _ _) ?_;rintro e wc ⟨rfl,hb⟩;replace H:=H.grew hb.below;clear hb));refine bodyPost_ret (qy rfl H rfl pk rfl) rfl ?_;exact ⟨1,0,0,0,0,0,0,none,0,0,[],rfl,JG,by simp [xq];omega,by have:=HNL.out;omega,(H.picks (.cons (A:=paB bp s b) pk .nil)).nilG.perm (yd.swap ..)⟩
   rcases zD n3 2 with g1|g1
   ·obtain rfl:n3=1:=by omega
    obtain ⟨xx,hxx⟩:=qZ.1 HXS.out.2;subst hxx;obtain ⟨r,hr⟩:=qZ.1 HL3.out;subst hr;have hrx:=HXS.out.1.2 0 xx r rfl rfl;obtain ⟨⟨k,s0,s1,s2,s3,lo,hi⟩,ad,n,c9⟩:=xx;obtain ⟨g3,hg3⟩:∃ g3,ad3=some ⟨g3,0,none⟩:=by
     obtain ⟨g3,c4,e9,_⟩:=qF (H.get (A:=zi qp 37 8 (.slice ad3 1 c3) [(⟨k,s0,s1,s2,s3,lo,hi⟩,(ad,n,c9))]) pk) (by simp);injection e9 with e1' _ _
     exact ⟨g3,e1'⟩
    subst hg3;have HR:=zh hrx;clear g0 g1 hc hrx;go_wp2_with (first|refine sL ?_|(refine sS ?_;clear H;intros;rename_i H));refine zr H 34 [] [] (by kernel_rfl) (by kernel_rfl) ?_;apply Exists.intro;refine ⟨fun w1 hw1 HX=>?_,fun bs wr Hr=>?_⟩
    ·refine sG ?_;repeat (first|go_big_quiet_skip|refine sQ ?_|fail|go_big_quiet_step (fail))
     exact wpQuiet_nil rfl
    clear H;have H:=Hr;clear Hr;replace H:=sH H;refine sT ?_;go_wp2_with (first|refine sL ?_|(refine sS ?_;clear H;intros;rename_i H)|(go_at_call 56;with_reducible refine zm (seq_1 _ (H.get (A:=zi qp 37 8 (.slice (some ⟨g3,0,none⟩) 1 c3) [(⟨k,s0,s1,s2,s3,lo,hi⟩,(ad,n,c9))]) pk)) ?_;rintro e wc ⟨rfl,hb⟩;replace H:=H.grew hb.below;clear hb));refine bodyPost_ret (qy rfl H rfl pk rfl) rfl ?_;exact ⟨k,s0,s1,s2,s3,lo,hi,ad,n,c9,P,rfl,HR.out,by omega,by have:=HNL.out;omega,H.picks (.cons pk (.cons pk .nil))⟩
   have hsq:Ka l=.mk ⟨3,0,0,0,0,0,0⟩ l:=by
    have:=HL3.out
    match l,this with
    |[],h=>simp at h;omega
    |[_],h=>simp at h;omega
    |_::_::_,_=>rfl
   have HSE:=zh hsq;have HSQ:=zh (fun w=>V7 n3 g1 (by omega) ad3 c3 w);clear g0 hc hsq;go_wp2_with (first|refine sL ?_|(refine sS ?_;clear H;intros;rename_i H));refine zr H 34 [] [] (by kernel_rfl) (by kernel_rfl) ?_;apply Exists.intro;refine ⟨fun w1 hw1 HX=>?_,fun bs wr Hr=>?_⟩
   ·refine sG ?_;repeat (first|go_big_quiet_skip|refine sQ ?_|fail|go_big_quiet_step (fail))
    exact wpQuiet_nil rfl
   clear H;have H:=Hr;clear Hr;replace H:=sH H;refine sT ?_;go_wp2_with (first|refine sL ?_|(refine sS ?_;clear H;intros;rename_i H)|(go_at_call 56;with_reducible refine zm (HSQ.out _) ?_;rintro e wc ⟨rfl,hb⟩;replace H:=H.grew hb.below;clear hb));refine bodyPost_ret (qy rfl H rfl pk rfl) rfl ?_;replace H:=H.picks (.cons (A:=zi qp 37 8 (.slice ad3 n3 c3) xs) pk (.cons (A:=zw P) pk (.cons (A:=paB bp s b) pk .nil)));obtain ⟨g3,hg3,hrow,H⟩:=H.rows_poolG1 (by rw [HXS.out.2];omega);exact ⟨3,0,0,0,0,0,0,ad3,n3,c3,_,rfl,by rw [HSE.out];exact HXS.out.1.node hrow (kn 3 0 0),by rw [xQ,vh,qz qp 8 yC,HXS.out.2];omega,by have:=HNL.out;omega,H.poolG_add.perm (yd.swap ..)⟩
  |some c =>
   rw [hc] at hD;simp only at hD;have hbl:b<nl:=(by have:=zP hc;rw [HNL.out] at this;exact this);have hix:=HX.out.1.idx b c hc;have e1:decide ((b:Int)<(nl:Int))=true:=(by simp;omega);have e1n:decide (b<nl)=true:=(by simp;omega);by_cases r1:c=124
   ·have e2:((c:Int) != 124)=false:=(by simp;omega);rw [if_pos (.inl r1)] at hD;subst hD;(try clear hbe)
    (try clear r1)
    (try clear r2)
    have HT9:Hid (n3<=262144):=zh hac2;rcases zD n3 1 with g0|g0
    ·obtain rfl:n3=0:=by omega
     have hl0:l=[]:=qI HL3.out;subst hl0;clear g0 hc;go_wp2_with (first|refine sL ?_|(refine sS ?_;clear H;intros;rename_i H));refine zr H 34 [] [] (by kernel_rfl) (by kernel_rfl) ?_;apply Exists.intro;refine ⟨fun w1 hw1 HX=>?_,fun bs wr Hr=>?_⟩
     ·refine sG ?_;repeat (first|go_big_quiet_skip|refine sQ ?_|fail|go_big_quiet_step (fail))
      exact wpQuiet_nil rfl
     clear H;have H:=Hr;clear Hr;replace H:=sH H;refine sT ?_;go_wp2_with (first|refine sL ?_|(refine sS ?_;clear H;intros;rename_i H)|(go_at_call 56;with_reducible refine zm (seq_0 _ _ _) ?_;rintro e wc ⟨rfl,hb⟩;replace H:=H.grew hb.below;clear hb));refine bodyPost_ret (qy rfl H rfl pk rfl) rfl ?_;exact ⟨1,0,0,0,0,0,0,none,0,0,[],rfl,JG,by simp [xq];omega,by have:=HNL.out;omega,(H.picks (.cons (A:=paB bp s b) pk .nil)).nilG.perm (yd.swap ..)⟩
    rcases zD n3 2 with g1|g1
    ·obtain rfl:n3=1:=by omega
     obtain ⟨xx,hxx⟩:=qZ.1 HXS.out.2;subst hxx;obtain ⟨r,hr⟩:=qZ.1 HL3.out;subst hr;have hrx:=HXS.out.1.2 0 xx r rfl rfl;obtain ⟨⟨k,s0,s1,s2,s3,lo,hi⟩,ad,n,c9⟩:=xx;obtain ⟨g3,hg3⟩:∃ g3,ad3=some ⟨g3,0,none⟩:=by
      obtain ⟨g3,c4,e9,_⟩:=qF (H.get (A:=zi qp 37 8 (.slice ad3 1 c3) [(⟨k,s0,s1,s2,s3,lo,hi⟩,(ad,n,c9))]) pk) (by simp);injection e9 with e1' _ _
      exact ⟨g3,e1'⟩
     subst hg3;have HR:=zh hrx;clear g0 g1 hc hrx;go_wp2_with (first|refine sL ?_|(refine sS ?_;clear H;intros;rename_i H));refine zr H 34 [] [] (by kernel_rfl) (by kernel_rfl) ?_;apply Exists.intro;refine ⟨fun w1 hw1 HX=>?_,fun bs wr Hr=>?_⟩
     ·refine sG ?_;repeat (first|go_big_quiet_skip|refine sQ ?_|fail|go_big_quiet_step (fail))
      exact wpQuiet_nil rfl
     clear H;have H:=Hr;clear Hr;replace H:=sH H;refine sT ?_;go_wp2_with (first|refine sL ?_|(refine sS ?_;clear H;intros;rename_i H)|(go_at_call 56;with_reducible refine zm (seq_1 _ (H.get (A:=zi qp 37 8 (.slice (some ⟨g3,0,none⟩) 1 c3) [(⟨k,s0,s1,s2,s3,lo,hi⟩,(ad,n,c9))]) pk)) ?_;rintro e wc ⟨rfl,hb⟩;replace H:=H.grew hb.below;clear hb));refine bodyPost_ret (qy rfl H rfl pk rfl) rfl ?_;exact ⟨k,s0,s1,s2,s3,lo,hi,ad,n,c9,P,rfl,HR.out,by omega,by have:=HNL.out;omega,H.picks (.cons pk (.cons pk .nil))⟩
    have hsq:Ka l=.mk ⟨3,0,0,0,0,0,0⟩ l:=by
     have:=HL3.out
     match l,this with
     |[],h=>simp at h;omega
     |[_],h=>simp at h;omega
     |_::_::_,_=>rfl
    have HSE:=zh hsq;have HSQ:=zh (fun w=>V7 n3 g1 (by omega) ad3 c3 w);clear g0 hc hsq;go_wp2_with (first|refine sL ?_|(refine sS ?_;clear H;intros;rename_i H));refine zr H 34 [] [] (by kernel_rfl) (by kernel_rfl) ?_;apply Exists.intro;refine ⟨fun w1 hw1 HX=>?_,fun bs wr Hr=>?_⟩
    ·refine sG ?_;repeat (first|go_big_quiet_skip|refine sQ ?_|fail|go_big_quiet_step (fail))
     exact wpQuiet_nil rfl
    clear H;have H:=Hr;clear Hr;replace H:=sH H;refine sT ?_;go_wp2_with (first|refine sL ?_|(refine sS ?_;clear H;intros;rename_i H)|(go_at_call 56;with_reducible refine zm (HSQ.out _) ?_;rintro e wc ⟨rfl,hb⟩;replace H:=H.grew hb.below;clear hb));refine bodyPost_ret (qy rfl H rfl pk rfl) rfl ?_;replace H:=H.picks (.cons (A:=zi qp 37 8 (.slice ad3 n3 c3) xs) pk (.cons (A:=zw P) pk (.cons (A:=paB bp s b) pk .nil)));obtain ⟨g3,hg3,hrow,H⟩:=H.rows_poolG1 (by rw [HXS.out.2];omega);exact ⟨3,0,0,0,0,0,0,ad3,n3,c3,_,rfl,by rw [HSE.out];exact HXS.out.1.node hrow (kn 3 0 0),by rw [xQ,vh,qz qp 8 yC,HXS.out.2];omega,by have:=HNL.out;omega,H.poolG_add.perm (yd.swap ..)⟩
   have e2:((c:Int) != 124)=true:=(by simp;omega);by_cases r2:c=41
   ·have e3:((c:Int) != 41)=false:=(by simp;omega);rw [if_pos (.inr r2)] at hD;subst hD;(try clear hbe)
    (try clear r1)
    (try clear r2)
    have HT9:Hid (n3<=262144):=zh hac2;rcases zD n3 1 with g0|g0
    ·obtain rfl:n3=0:=by omega
     have hl0:l=[]:=qI HL3.out;subst hl0;clear g0 hc;go_wp2_with (first|refine sL ?_|(refine sS ?_;clear H;intros;rename_i H));refine zr H 34 [] [] (by kernel_rfl) (by kernel_rfl) ?_;apply Exists.intro;refine ⟨fun w1 hw1 HX=>?_,fun bs wr Hr=>?_⟩
     ·refine sG ?_;repeat (first|go_big_quiet_skip|refine sQ ?_|fail|go_big_quiet_step (fail))
      exact wpQuiet_nil rfl
     clear H;have H:=Hr;clear Hr;replace H:=sH H;refine sT ?_;go_wp2_with (first|refine sL ?_|(refine sS ?_;clear H;intros;rename_i H)|(go_at_call 56;with_reducible refine zm (seq_0 _ _ _) ?_;rintro e wc ⟨rfl,hb⟩;replace H:=H.grew hb.below;clear hb));refine bodyPost_ret (qy rfl H rfl pk rfl) rfl ?_;exact ⟨1,0,0,0,0,0,0,none,0,0,[],rfl,JG,by simp [xq];omega,by have:=HNL.out;omega,(H.picks (.cons (A:=paB bp s b) pk .nil)).nilG.perm (yd.swap ..)⟩
    rcases zD n3 2 with g1|g1
    ·obtain rfl:n3=1:=by omega
     obtain ⟨xx,hxx⟩:=qZ.1 HXS.out.2;subst hxx;obtain ⟨r,hr⟩:=qZ.1 HL3.out;subst hr;have hrx:=HXS.out.1.2 0 xx r rfl rfl;obtain ⟨⟨k,s0,s1,s2,s3,lo,hi⟩,ad,n,c9⟩:=xx;obtain ⟨g3,hg3⟩:∃ g3,ad3=some ⟨g3,0,none⟩:=by
      obtain ⟨g3,c4,e9,_⟩:=qF (H.get (A:=zi qp 37 8 (.slice ad3 1 c3) [(⟨k,s0,s1,s2,s3,lo,hi⟩,(ad,n,c9))]) pk) (by simp);injection e9 with e1' _ _
      exact ⟨g3,e1'⟩
     subst hg3;have HR:=zh hrx;clear g0 g1 hc hrx;go_wp2_with (first|refine sL ?_|(refine sS ?_;clear H;intros;rename_i H));refine zr H 34 [] [] (by kernel_rfl) (by kernel_rfl) ?_;apply Exists.intro;refine ⟨fun w1 hw1 HX=>?_,fun bs wr Hr=>?_⟩
     ·refine sG ?_;repeat (first|go_big_quiet_skip|refine sQ ?_|fail|go_big_quiet_step (fail))
      exact wpQuiet_nil rfl
     clear H;have H:=Hr;clear Hr;replace H:=sH H;refine sT ?_;go_wp2_with (first|refine sL ?_|(refine sS ?_;clear H;intros;rename_i H)|(go_at_call 56;with_reducible refine zm (seq_1 _ (H.get (A:=zi qp 37 8 (.slice (some ⟨g3,0,none⟩) 1 c3) [(⟨k,s0,s1,s2,s3,lo,hi⟩,(ad,n,c9))]) pk)) ?_;rintro e wc ⟨rfl,hb⟩;replace H:=H.grew hb.below;clear hb));refine bodyPost_ret (qy rfl H rfl pk rfl) rfl ?_;exact ⟨k,s0,s1,s2,s3,lo,hi,ad,n,c9,P,rfl,HR.out,by omega,by have:=HNL.out;omega,H.picks (.cons pk (.cons pk .nil))⟩
    have hsq:Ka l=.mk ⟨3,0,0,0,0,0,0⟩ l:=by
     have:=HL3.out
     match l,this with
     |[],h=>simp at h;omega
     |[_],h=>simp at h;omega
     |_::_::_,_=>rfl
    have HSE:=zh hsq;have HSQ:=zh (fun w=>V7 n3 g1 (by omega) ad3 c3 w);clear g0 hc hsq;go_wp2_with (first|refine sL ?_|(refine sS ?_;clear H;intros;rename_i H));refine zr H 34 [] [] (by kernel_rfl) (by kernel_rfl) ?_;apply Exists.intro;refine ⟨fun w1 hw1 HX=>?_,fun bs wr Hr=>?_⟩
    ·refine sG ?_;repeat (first|go_big_quiet_skip|refine sQ ?_|fail|go_big_quiet_step (fail))
     exact wpQuiet_nil rfl
    clear H;have H:=Hr;clear Hr;replace H:=sH H;refine sT ?_;go_wp2_with (first|refine sL ?_|(refine sS ?_;clear H;intros;rename_i H)|(go_at_call 56;with_reducible refine zm (HSQ.out _) ?_;rintro e wc ⟨rfl,hb⟩;replace H:=H.grew hb.below;clear hb));refine bodyPost_ret (qy rfl H rfl pk rfl) rfl ?_;replace H:=H.picks (.cons (A:=zi qp 37 8 (.slice ad3 n3 c3) xs) pk (.cons (A:=zw P) pk (.cons (A:=paB bp s b) pk .nil)));obtain ⟨g3,hg3,hrow,H⟩:=H.rows_poolG1 (by rw [HXS.out.2];omega);exact ⟨3,0,0,0,0,0,0,ad3,n3,c3,_,rfl,by rw [HSE.out];exact HXS.out.1.node hrow (kn 3 0 0),by rw [xQ,vh,qz qp 8 yC,HXS.out.2];omega,by have:=HNL.out;omega,H.poolG_add.perm (yd.swap ..)⟩
   have e3:((c:Int) != 41)=true:=(by simp;omega);rw [if_neg (by omega)] at hD;have HT:=zh (fun w h=>term_x (bp:=bp) HX.out.1 HX.out.2.1 (by rw [HNL.out];exact hbn) (HX.out.2.2.mono hab) w h);cases ht:YR L E b with
   |none =>
    rw [ht] at hD HT;have hd:D=none:=hD.symm;subst hd;clear hD hc ht;go_wp2_with (first|refine sL ?_|(refine sS ?_;clear H;intros;rename_i H));refine zr H 34 [] [] (by kernel_rfl) (by kernel_rfl) ?_;apply Exists.intro;refine ⟨fun w1 hw1 HX=>?_,fun bs wr Hr=>?_⟩
    ·refine sG ?_;repeat (first|go_big_quiet_skip|refine sQ ?_|fail|go_big_quiet_step (fail))
     exact wpQuiet_nil rfl
    clear H;have H:=Hr;clear Hr;replace H:=sH H;refine sT ?_;go_wp2_with (first|refine sL ?_|(refine sS ?_;clear H;intros;rename_i H));refine zm (HT.out _ (H.get pk)) ?_;rintro e wc ⟨rfl,hb⟩;replace H:=H.at1 (bp:=bp) pk hb;simp only [xS];go_wp2_with (first|refine sL ?_|(refine sS ?_;clear H;intros;rename_i H));refine zJ rfl ?_;exact ⟨rfl,H.nix⟩
   |some q =>
    obtain ⟨t,b'⟩:=q;rw [ht] at hD HT;simp only at hD;obtain ⟨Q,hQ⟩:∃ z,Qr L (L.length+1) b' t=z:=⟨_,rfl⟩
    rw [hQ] at hD;have HD:=zh hD;have HQ:=zh hQ;clear hD hc ht hQ;go_wp2_with (first|refine sL ?_|(refine sS ?_;clear H;intros;rename_i H));refine zr H 34 [] [] (by kernel_rfl) (by kernel_rfl) ?_;apply Exists.intro;refine ⟨fun w1 hw1 HX=>?_,fun bs wr Hr=>?_⟩
    ·refine sG ?_;repeat (first|go_big_quiet_skip|refine sQ ?_|fail|go_big_quiet_step (fail))
     exact wpQuiet_nil rfl
    clear H;have H:=Hr;clear Hr;replace H:=sH H;refine sT ?_;go_wp2_with (first|refine sL ?_|(refine sS ?_;clear H;intros;rename_i H));refine zm (HT.out _ (H.get pk)) ?_;rintro e wc ⟨k,s0,s1,s2,s3,lo,hi,ad,n,cp,P1,rfl,hrx,hadr,hb9,hb⟩;replace H:=H.at1 (bp:=bp) pk hb;simp only [z7,z8] at H;rw [HNL.out] at hb9;have HR:=zh hrx;clear hb hrx;go_wp2_with (first|refine sL ?_|(refine sS ?_;clear H;intros;rename_i H));rename_i bt _ _ _ _;replace H:=H.picks (.cons (A:=zw P1) pk (.cons (A:=zw P) pk (.cons (A:=blk bt (.cells #[.int .i64 k,.int .u64 (s0:Nat),.int .u64 (s1:Nat),.int .u64 (s2:Nat),.int .u64 (s3:Nat),.int .i64 lo,.int .i64 hi,.slice ad n cp] 37)) pk (.cons (A:=paB bp s b') pk (.cons (A:=blk b2 (.cells #[.int .i64 0,.int .u64 0,.int .u64 0,.int .u64 0,.int .u64 0,.int .i64 0,.int .i64 0,.slice none 0 0] 37)) pk (.cons (A:=zi qp 37 8 (.slice ad3 n3 c3) xs) pk .nil))))));replace H:=H.poolG_add;go_loopg [] (nl-b') (fun mm wr=>CtX w bp b2 bt a b nl s L Q (.slice ad3 n3 c3) l xs mm wr);case atStart=>exact ⟨nl+1,b',t,k,s0,s1,s2,s3,lo,hi,ad,n,cp,P1++P,rfl,by omega,hb9,by omega,by rw [← HQ.out,HNL.out],HXS.out.1.mono (fun y hy=>qx _ hy),HR.out.mono (fun y hy=>q6 _ hy),by rw [xQ,HL3.out];omega,by have:=HL3.out;omega,H.picks (.cons pk (.cons pk (.cons pk (.cons pk (.cons pk .nil)))))⟩
    case round =>
     clear H HQ HR HT hadr hb9;obtain ⟨f2,d,t2,k2,u0,u1,u2,u3,lo2,hi2,ad2,m2,cp2,P2,rfl,hbd,hdn,hf2,hQ2,hxs2,hrx2,hac3,hln,H⟩:=hrel;obtain ⟨f2,rfl⟩:∃ g,f2=g+1:=⟨f2-1,by omega⟩
     rw [Qr] at hQ2;rw [HL3.out] at hac3 hln;have HCN:=zh (fun w h=>cnt_c (bp:=bp) (a:=d) HX.out.1 HX.out.2.1 (by rw [HNL.out];exact hdn) w h);have HR2:=zh (za hrx2 hxs2);clear hrx2 hxs2;cases hcn:XP L d with
     |none =>
      rw [hcn] at hQ2 HCN;have hq:Q=none:=hQ2.symm;subst hq;have hd:D=none:=HD.out.symm;subst hd;clear hQ2 hcn;go_wp2_with (first|refine sL ?_|(refine sS ?_;clear H;intros;rename_i H));refine zm (HCN.out _ (H.get pk)) ?_;rintro e wc ⟨rfl,hb⟩;replace H:=H.at1 (bp:=bp) pk hb;simp only [xS];go_wp2_with (first|refine sL ?_|(refine sS ?_;clear H;intros;rename_i H));refine zJ rfl ?_;exact ⟨rfl,H.nix⟩
     |some q =>
      obtain ⟨o,d2⟩:=q;obtain ⟨hd1,hd2,hd3⟩:=cntP_le hcn (by rw [HNL.out];exact hdn);rw [HNL.out] at hd3;cases o with
      |none =>
       obtain rfl:d2=d:=hd1 rfl;rw [hcn] at hQ2 HCN;have hq:Q=some (t2,d2):=hQ2.symm;subst hq;clear hQ2 hcn hd1 hd2;go_wp2_with (first|refine sL ?_|(refine sS ?_;clear H;intros;rename_i H));refine zm (HCN.out _ (H.get pk)) ?_;rintro e wc ⟨rfl,hb⟩;replace H:=H.at1 (bp:=bp) pk hb;simp only [z7,z8] at H;clear hb;go_wp2_with (first|refine sL ?_|(refine sS ?_;clear H;intros;rename_i H)|((with_reducible refine ym ?_);refine AtSlice.one H rfl rfl rfl rfl rfl rfl rfl rfl rfl ?_;clear H;intro b99 _ H;simp only [Act.put,puA,puB,puC])|((with_reducible refine xm ?_);refine AtAppend.goN (enc:=qp) H rfl rfl rfl rfl rfl (by decide) (by decide) rfl (xs:=xs) pk rfl (H.at pk) [((⟨k2,u0,u1,u2,u3,lo2,hi2⟩:Hd),((ad2,m2,cp2):SlT))] rfl (by simp [zX,qp,xE,slV]) yC Q4 (by have:=HXS.out.2;simp only [zN,qm];omega) HXS.out.2 ?_;clear H;intro ad9 cp9 _ H;simp only [Act.put,puA,puB,puC]));go_roundg (nl-d2);case measure=>omega
       case rel=>exact ⟨f,d2,l++[t2],xs++[((⟨k2,u0,u1,u2,u3,lo2,hi2⟩:Hd),((ad2,m2,cp2):SlT))],P2,rfl,by omega,by omega,by omega,HD.out,HR2.out.2.snoc HR2.out.1,by rw [zN,HL3.out];simp only [qm];omega,by rw [zN,HL3.out];simp only [qm];omega,H.picks (.cons pk (.cons pk (.cons pk (.cons pk .nil))))⟩
      |some q =>
       obtain ⟨lo3,hi3⟩:=q;have hd4:d<d2:=hd2 (by simp);rw [hcn] at hQ2 HCN;simp only at hQ2;have HQ2:=zh hQ2;clear hQ2 hcn hd1 hd2;go_wp2_with (first|refine sL ?_|(refine sS ?_;clear H;intros;rename_i H));refine zm (HCN.out _ (H.get pk)) ?_;rintro e wc ⟨rfl,hb⟩;replace H:=H.at1 (bp:=bp) pk hb;simp only [z7,z8] at H;clear hb;go_wp2_with (first|refine sL ?_|(refine sS ?_;clear H;intros;rename_i H)|((with_reducible refine ym ?_);refine AtSlice.one H rfl rfl rfl rfl rfl rfl rfl rfl rfl ?_;clear H;intro b99 _ H;simp only [Act.put,puA,puB,puC]));replace H:=H.picks (.cons (A:=blk b99 (.cells #[.int .i64 k2,.int .u64 (u0:Nat),.int .u64 (u1:Nat),.int .u64 (u2:Nat),.int .u64 (u3:Nat),.int .i64 lo2,.int .i64 hi2,.slice ad2 m2 cp2] 37)) pk (.cons (A:=zw P2) pk (.cons (A:=blk bt (.cells #[.int .i64 5,.int .u64 0,.int .u64 0,.int .u64 0,.int .u64 0,.int .i64 (lo3:Nat),.int .i64 hi3,.slice (some ⟨b99,0,none⟩) 1 1] 37)) pk (.cons (A:=paB bp s d2) pk (.cons (A:=blk b2 (.cells #[.int .i64 0,.int .u64 0,.int .u64 0,.int .u64 0,.int .u64 0,.int .i64 0,.int .i64 0,.slice none 0 0] 37)) pk (.cons (A:=zi qp 37 8 (.slice ad3 n3 c3) xs) pk .nil))))));obtain ⟨P3,hn3,hsub,hadr3,H⟩:=H.blk_node (x:=((⟨k2,u0,u1,u2,u3,lo2,hi2⟩:Hd),((ad2,m2,cp2):SlT))) rfl HR2.out.1 ⟨5,0,0,0,0,(lo3:Nat),hi3⟩ (kn 5 _ _);go_roundg (nl-d2);case measure=>omega
       case rel=>exact ⟨f2,d2,_,5,0,0,0,0,(lo3:Nat),hi3,some ⟨b99,0,none⟩,1,1,P3,rfl,by omega,hd3,by omega,HQ2.out,HR2.out.2.mono hsub,hn3,by rw [hadr3,HL3.out];omega,by rw [HL3.out];omega,H.picks (.cons pk (.cons pk (.cons pk (.cons pk (.cons pk .nil)))))⟩
end
section
open Go.RowKit Go.Maps
attribute [local go_sem] qM run_panic_i
def ExX (w:World) (bp b2 a nl:Nat) (s:ByteArray) (L:List Nat) (E:Nat->Option (Rx×Nat)) (D:Option (Rx×Nat)) (mm:Nat) (v3:Value) (wr:World):Prop :=
 ∃ (f b:Nat) (l:List Rx) (xs:List (Hd×SlT)) (P:zT),mm=nl-b∧a<=b∧b<=nl∧nl-b<f∧Ye L E f b l=D∧XsIn P xs l∧1<=l.length∧16*a+(xq P).length+16*l.length<=16*b+16∧a+l.length<=b+1 ∧
  St w [bp] [paB bp s b,blk b2 (.cells #[.int .i64 0,.int .u64 0,.int .u64 0,.int .u64 0,.int .u64 0,.int .i64 0,.int .i64 0,.slice none 0 0] 37),zi qp 37 8 v3 xs,zw P] wr
theorem expr_1 {bp a d:Nat} {s:ByteArray} {L:List Nat} (hs:StrL s L) (hl:L.length<=262144) (ha:a<=L.length) (hE:ExC s L (kl L d) a) (w:World) (h:(paB bp s a).ho w) :
  Calls z6 22 #[.pointer (some ⟨bp,0,none⟩)] w (PoX w bp s L a 0 (kl L (d+1) a)):=by
 have H:=St.one h;rw [qi] at H;have HK:Ks w [bp] []:=Ks.nil w _;obtain ⟨E,hE9⟩:∃ z,kl L d=z:=⟨_,rfl⟩
 obtain ⟨D,hD⟩:∃ z,kl L (d+1) a=z:=⟨_,rfl⟩
 rw [hD];rw [kl] at hD;rw [hE9] at hE hD;have HX:=zh (za hs (za hl hE));obtain ⟨nl,hnl⟩:∃ z,L.length=z:=⟨_,rfl⟩
 have HNL:=zh hnl;have hsz:=hs.size;have HT:=zh (fun w h=>Va (bp:=bp) hs hl ha hE w h);rw [hnl] at hsz hl ha;clear hs h hE hE9 hnl;cases ht:QN L E (L.length+1) a [] with
 |none =>
  rw [ht] at hD HT;have hd:D=none:=hD.symm;subst hd;clear hD ht;go_enter Tryd.func22,Tryd.ntmps22;go_wp2_with (first|refine sL ?_|(refine sS ?_;clear H;intros;rename_i H));refine zm (HT.out _ (H.get pk)) ?_;rintro e wc ⟨rfl,hb⟩;replace H:=H.at1 (bp:=bp) pk hb;simp only [xS];refine zJ rfl ?_;exact ⟨rfl,H.nix⟩
 |some q =>
  obtain ⟨t,b0⟩:=q;rw [ht] at hD HT;simp only at hD;have HD:=zh hD;clear hD ht;go_enter Tryd.func22,Tryd.ntmps22;go_wp2_with (first|refine sL ?_|(refine sS ?_;clear H;intros;rename_i H));refine zm (HT.out _ (H.get pk)) ?_;rintro e wc ⟨k,s0,s1,s2,s3,lo,hi,ad,n,cp,P1,rfl,hrx,hadr,hb9,hb⟩;replace H:=H.at1 (bp:=bp) pk hb;simp only [z7,z8] at H;rw [HNL.out] at hb9;have HR:=zh hrx;clear hb hrx HT;go_wp2_with (first|refine sL ?_|(refine sS ?_;clear H;intros;rename_i H)|((with_reducible refine ym ?_);refine AtSlice.one H rfl rfl rfl rfl rfl rfl rfl rfl rfl ?_;clear H;intro b99 _ H;simp only [Act.put,puA,puB,puC]));rename_i b2 _ _ _ _;replace H:=H.picks (.cons (A:=blk b99 (.cells #[.int .i64 k,.int .u64 (s0:Nat),.int .u64 (s1:Nat),.int .u64 (s2:Nat),.int .u64 (s3:Nat),.int .i64 lo,.int .i64 hi,.slice ad n cp] 37)) pk (.cons (A:=paB bp s b0) pk (.cons (A:=blk b2 (.cells zR 37)) pk (.cons (A:=zw P1) pk .nil))));replace H:=H.blk_rows ((⟨k,s0,s1,s2,s3,lo,hi⟩:Hd),((ad,n,cp):SlT)) rfl;go_loopg [3] (nl-b0) (fun mm v3 wr=>ExX w bp b2 a nl s L E D mm v3 wr);case atStart=>exact ⟨nl+1,b0,[t],_,P1,rfl,by omega,hb9,by omega,by rw [← HD.out,HNL.out],XsIn.one HR.out,by simp,by simp;omega,by simp;omega,H.picks (.cons pk (.cons pk (.cons pk (.cons pk .nil))))⟩
  case round =>
   clear H HD HR hadr hb9;obtain ⟨f,b,l,xs,P,rfl,hab,hbn,hfu,hD,hxs,hl1,hac,hln,H⟩:=hrel;obtain ⟨f,rfl⟩:∃ g,f=g+1:=⟨f-1,by omega⟩
   rw [Ye] at hD;obtain ⟨ad3,c3,rfl,hml⟩:=zW (H.get (A:=zi qp 37 8 _ xs) pk);obtain ⟨n3,hn3⟩:∃ z,xs.length=z:=⟨_,rfl⟩
   rw [hn3] at H hml ⊢;have HXS:=zh (za hxs hn3);have hl3:l.length=n3:=(by rw [← hxs.1,hn3]);have HL3:=zh hl3;rw [hl3] at hac hln hl1;have hac2:n3<=262145:=(by omega);clear hxs hn3 hl3;by_cases r1:L[b]?=some 124
   ·rw [if_pos r1] at hD;have hbl:b<nl:=(by have:=zP r1;rw [HNL.out] at this;exact this);have Y:=zh (fun w h=>ZP (bp:=bp) HX.out.1 HX.out.2.1 r1 w h);obtain ⟨b1,hb1⟩:∃ z,z=b+1:=⟨_,rfl⟩
    rw [← hb1] at Y hD;have hb1n:b1<=nl:=(by omega);have hbb1:b<b1:=(by omega);have hab1:a<=b1:=(by omega);have HB1:=zh hb1;have HT:=zh (fun w h=>Va (bp:=bp) (a:=b1) HX.out.1 HX.out.2.1 (by rw [HNL.out];exact hb1n) (HX.out.2.2.mono hab1) w h);cases ht:QN L E (L.length+1) b1 [] with
    |none =>
     rw [ht] at hD HT;have hd:D=none:=hD.symm;subst hd;clear hD ht hb1 r1;go_wp2_with (first|refine sL ?_|(refine sS ?_;clear H;intros;rename_i H));refine zm (Y.out _ (H.get (A:=paB bp s b) pk)) ?_;rintro e wc ⟨rfl,hb⟩;replace H:=H.at1 (bp:=bp) pk hb;simp only [z7,z8] at H;clear hb;go_wp2_with (first|refine sL ?_|(refine sS ?_;clear H;intros;rename_i H));refine zm (HT.out _ (H.get pk)) ?_;rintro e wc ⟨rfl,hb⟩;replace H:=H.at1 (bp:=bp) pk hb;simp only [xS];go_wp2_with (first|refine sL ?_|(refine sS ?_;clear H;intros;rename_i H));refine zJ rfl ?_;exact ⟨rfl,H.nix⟩
    |some q =>
     obtain ⟨t2,b4⟩:=q;rw [ht] at hD HT;simp only at hD;have HD:=zh hD;clear hD ht hb1 r1;go_wp2_with (first|refine sL ?_|(refine sS ?_;clear H;intros;rename_i H));refine zm (Y.out _ (H.get (A:=paB bp s b) pk)) ?_;rintro e wc ⟨rfl,hb⟩;replace H:=H.at1 (bp:=bp) pk hb;simp only [z7,z8] at H;clear hb;go_wp2_with (first|refine sL ?_|(refine sS ?_;clear H;intros;rename_i H));refine zm (HT.out _ (H.get pk)) ?_;rintro e wc ⟨k,s0,s1,s2,s3,lo,hi,ad,n,cp,P1,rfl,hrx,hadr,hb9,hb⟩;replace H:=H.at1 (bp:=bp) pk hb;simp only [z7,z8] at H;rw [HNL.out] at hb9;have HR:=zh hrx;clear hb hrx;go_wp2_with (first|refine sL ?_|(refine sS ?_;clear H;intros;rename_i H)|((with_reducible refine ym ?_);refine AtSlice.one H rfl rfl rfl rfl rfl rfl rfl rfl rfl ?_;clear H;intro b99 _ H;simp only [Act.put,puA,puB,puC])|((with_reducible refine xm ?_);refine AtAppend.goN (enc:=qp) H rfl rfl rfl rfl rfl (by decide) (by decide) rfl (xs:=xs) pk rfl (H.at pk) [((⟨k,s0,s1,s2,s3,lo,hi⟩:Hd),((ad,n,cp):SlT))] rfl (by simp [zX,qp,xE,slV]) yC Q4 (by have:=HXS.out.2;simp only [zN,qm];omega) HXS.out.2 ?_;clear H;intro ad9 cp9 _ H;simp only [Act.put,puA,puB,puC]));go_roundg (nl-b4);case measure=>have:=HB1.out;omega
     case rel =>
      replace H:=H.picks (.cons (A:=zw P1) pk (.cons (A:=zw P) pk (.cons (A:=paB bp s b4) pk (.cons (A:=blk b2 (.cells zR 37)) pk (.cons (A:=zi qp 37 8 _ (xs++[((⟨k,s0,s1,s2,s3,lo,hi⟩:Hd),((ad,n,cp):SlT))])) pk .nil)))));replace H:=H.poolG_add;have hB1:=HB1.out;exact ⟨f,b4,l++[t2],_,P1++P,rfl,by omega,by omega,by omega,HD.out,(HXS.out.1.mono (fun y hy=>qx _ hy)).snoc (HR.out.mono (fun y hy=>q6 _ hy)),by simp,by rw [zN,HL3.out,xQ];simp only [qm];omega,by rw [zN,HL3.out];simp only [qm];omega,H.picks (.cons pk (.cons pk (.cons pk (.cons pk .nil))))⟩
   ·rw [if_neg r1] at hD;have Y:=zh (fun w h=>vy (bp:=bp) HX.out.1 HX.out.2.1 (by rw [HNL.out];exact hbn) r1 w h);subst hD;clear r1;rcases zD n3 2 with g1|g1
    ·obtain rfl:n3=1:=by omega
     obtain ⟨xx,hxx⟩:=qZ.1 HXS.out.2;subst hxx;obtain ⟨r,hr⟩:=qZ.1 HL3.out;subst hr;have hrx:=HXS.out.1.2 0 xx r rfl rfl;obtain ⟨⟨k,s0,s1,s2,s3,lo,hi⟩,ad,n,c9⟩:=xx;obtain ⟨g3,hg3⟩:∃ g3,ad3=some ⟨g3,0,none⟩:=by
      obtain ⟨g3,c4,e9,_⟩:=qF (H.get (A:=zi qp 37 8 (.slice ad3 1 c3) [(⟨k,s0,s1,s2,s3,lo,hi⟩,(ad,n,c9))]) pk) (by simp);injection e9 with e1' _ _
      exact ⟨g3,e1'⟩
     subst hg3;have HR:=zh hrx;have HRG:Hid (∀ w,(zi qp 37 8 (.slice (some ⟨g3,0,none⟩) 1 c3) [(⟨k,s0,s1,s2,s3,lo,hi⟩,(ad,n,c9))]).ho w->w.rangeAt g3 0 [.int .i64 k,.int .u64 (s0:Nat),.int .u64 (s1:Nat),.int .u64 (s2:Nat),.int .u64 (s3:Nat),.int .i64 lo,.int .i64 hi,.slice ad n c9]):=zh fun w h=>Jf h
     clear g1 hrx;go_wp2_with (first|refine sL ?_|(refine sS ?_;clear H;intros;rename_i H)|(go_at_call 40;with_reducible refine zm (Y.out _ (H.get (A:=paB bp s b) pk)) ?_;rintro e wc ⟨rfl,hb⟩;replace H:=H.grew hb.below;clear hb)|((with_reducible refine qN ?_);refine AtLoad.rngT rfl rfl rfl (HRG.out _ (H.get pk)) rfl ?_;simp only [Act.put,puA,puB,puC]));refine bodyPost_ret (qy rfl H rfl pk rfl) rfl ?_;exact ⟨k,s0,s1,s2,s3,lo,hi,ad,n,c9,P,rfl,HR.out,by omega,by have:=HNL.out;omega,H.picks (.cons pk (.cons pk .nil))⟩
    ·have hsq:altR l=.mk ⟨4,0,0,0,0,0,0⟩ l:=by
      have:=HL3.out
      match l,this with
      |[],h=>simp at h;omega
      |[_],h=>simp at h;omega
      |_::_::_,_=>rfl
     have HSE:=zh hsq;have e1:((n3:Int)==1)=false:=(by simp;omega);clear hsq;go_wp2_with (first|refine sL ?_|(refine sS ?_;clear H;intros;rename_i H)|(go_at_call 40;with_reducible refine zm (Y.out _ (H.get (A:=paB bp s b) pk)) ?_;rintro e wc ⟨rfl,hb⟩;replace H:=H.grew hb.below;clear hb));refine bodyPost_ret (qy rfl H rfl pk rfl) rfl ?_;replace H:=H.picks (.cons (A:=zi qp 37 8 (.slice ad3 n3 c3) xs) pk (.cons (A:=zw P) pk (.cons (A:=paB bp s b) pk .nil)));obtain ⟨g3,hg3,hrow,H⟩:=H.rows_poolG1 (by rw [HXS.out.2];omega);exact ⟨4,0,0,0,0,0,0,ad3,n3,c3,_,rfl,by rw [HSE.out];exact HXS.out.1.node hrow (kn 4 0 0),by rw [xQ,vh,qz qp 8 yC,HXS.out.2];omega,by have:=HNL.out;omega,H.poolG_add.perm (yd.swap ..)⟩
theorem expr_x {s:ByteArray} {L:List Nat} (hs:StrL s L) (hl:L.length<=262144):∀ (d a:Nat),a<=L.length->L.length<a+d->∀ (bp:Nat) (w:World),(paB bp s a).ho w ->
  Calls z6 22 #[.pointer (some ⟨bp,0,none⟩)] w (PoX w bp s L a 0 (kl L d a))
 |0,a,ha,hd=>by omega
 |d+1,a,ha,hd=>fun bp w h=>expr_1 hs hl ha (fun b h1 h2 bp w h=>expr_x hs hl d b h2 (by omega) bp w h) w h
end
section
open Go.RowKit Go.Maps
attribute [local go_sem] qM run_panic_i
theorem cntH_ok {L:List Nat} {lo b c:Nat} {hi:Int} (h:Q1 L lo b=some (hi,c)) (hb:b<=L.length) (hlo:lo<=64):hi = -1∨(0<=hi∧hi<=64):=by
 unfold Q1 at h;split at h
 ·rename_i h44;have:=zP h44;split at h
  ·split at h
   ·cases h
   ·rename_i hh cc hn;have:=vO hn (by omega);injection h with h;injection h with h1 h2;omega
  ·injection h with h;injection h with h1 h2;omega
 ·injection h with h;injection h with h1 h2;omega
theorem cntP_ok {L:List Nat} {a b lo:Nat} {hi:Int} (h:XP L a=some (some (lo,hi),b)):lo<=64∧(hi = -1∨((lo:Int)<=hi∧hi<=64)):=by
 unfold XP at h;split at h
 ·injection h with h;injection h with h1 h2;injection h1 with h1;injection h1 with h1 h3;omega
 ·split at h
  ·injection h with h;injection h with h1 h2;injection h1 with h1;injection h1 with h1 h3;omega
  ·split at h
   ·injection h with h;injection h with h1 h2;injection h1 with h1;injection h1 with h1 h3;omega
   ·split at h
    ·injection h with h;injection h with h1 h2;cases h1
    ·rename_i h9;have h10:L[a]?=some 123:=(by simpa using h9);have:=zP h10;split at h
     ·cases h
     ·rename_i lo' b' hn;have h1:=vO hn (by omega);split at h
      ·cases h
      ·rename_i hi' c hc;have h2:=cntH_ok hc h1.2.1 h1.2.2;split at h
       ·rename_i h11;have h12:=h11.2;injection h with h;injection h with h3 h4;injection h3 with h3;injection h3 with h3 h5
        omega
       ·cases h
theorem vT {S:Nat->Nat}:(YN S).valid=true:=by
 rw [YN,Rx.valid];simp [Hd.okN,Rx.validL]
theorem rep_okN {lo:Nat} {hi:Int} (h1:lo<=64) (h2:hi = -1∨((lo:Int)<=hi∧hi<=64)):(⟨5,0,0,0,0,lo,hi⟩:Hd).okN 1=true:=by
 have e0:decide ((0:Int)<=(lo:Int))=true:=(by simp);have e1:decide ((lo:Int)<=64)=true:=(by simp;omega);unfold Hd.okN;simp only [e0,e1];rcases h2 with g|⟨g1,g2⟩
 ·subst g;simp
 ·have e2:decide ((lo:Int)<=hi)=true:=(by simp;omega);have e3:decide (hi<=64)=true:=(by simp;omega);simp only [e2,e3];simp
theorem Qs {L:List Nat}:∀ (f a:Nat) (t:Rx) {r:Rx} {b:Nat},t.valid=true->Qr L f a t=some (r,b)->r.valid=true
 |0,a,t,r,b,_,h=>by rw [Qr] at h;cases h
 |f+1,a,t,r,b,ht,h=>by
  rw [Qr] at h;split at h
  ·cases h
  ·injection h with h;injection h with h1 h2;subst h1;exact ht
  ·rename_i lo hi b' hc;have h1:=cntP_ok hc;refine Qs f b' _ ?_ h;rw [Rx.valid_iff];refine ⟨?_,fun p hp=>?_⟩
   ·exact rep_okN h1.1 h1.2
   ·simp only [Rx.ps,zV] at hp;subst hp;exact ht
theorem YL {l:List Rx} (h:∀ r∈l,r.valid=true):(Ka l).valid=true:=by
 match l,h with
 |[],_=>rw [Ka,Rx.valid];simp [Hd.okN,Rx.validL]
 |[r],h=>exact h r (by simp)
 |a::b::t,h =>
  show (Rx.mk ⟨3,0,0,0,0,0,0⟩ (a::b::t)).valid=true
  rw [Rx.valid_iff];exact ⟨by simp [Rx.hd,Rx.ps,Hd.okN],h⟩
theorem Jq {l:List Rx} (h:∀ r∈l,r.valid=true) (h1:1<=l.length):(altR l).valid=true:=by
 match l,h,h1 with
 |[],_,h1=>simp at h1
 |[r],h,_=>exact h r (by simp)
 |a::b::t,h,_ =>
  show (Rx.mk ⟨4,0,0,0,0,0,0⟩ (a::b::t)).valid=true
  rw [Rx.valid_iff];exact ⟨by simp [Rx.hd,Rx.ps,Hd.okN],h⟩
theorem Jk {L:List Nat} {E:Nat->Option (Rx×Nat)} (hE:∀ a r b,E a=some (r,b)->r.valid=true) {a b:Nat} {r:Rx} (h:YR L E a=some (r,b)):r.valid=true:=by
 unfold YR at h;split at h
 ·cases h
 ·split at h
  ·split at h
   ·cases h
   ·injection h with h;injection h with h1 h2;subst h1;exact vT
  ·split at h
   ·injection h with h;injection h with h1 h2;subst h1;exact vT
   ·split at h
    ·split at h
     ·cases h
     ·injection h with h;injection h with h1 h2;subst h1;exact vT
    ·split at h
     ·split at h
      ·cases h
      ·rename_i r' a2 hr;split at h
       ·injection h with h;injection h with h1 h2;subst h1;exact hE _ _ _ hr
       ·cases h
     ·split at h
      ·cases h
      ·injection h with h;injection h with h1 h2;subst h1;exact vT
theorem Zj {L:List Nat} {E:Nat->Option (Rx×Nat)} (hE:∀ a r b,E a=some (r,b)->r.valid=true):∀ (f a:Nat) (l:List Rx) {r:Rx} {b:Nat},(∀ x∈l,x.valid=true)->QN L E f a l=some (r,b)->r.valid=true
 |0,a,l,r,b,_,h=>by rw [QN] at h;cases h
 |f+1,a,l,r,b,hl,h=>by
  rw [QN] at h;split at h
  ·injection h with h;injection h with h1 h2;subst h1;exact YL hl
  ·split at h
   ·injection h with h;injection h with h1 h2;subst h1;exact YL hl
   ·split at h
    ·cases h
    ·rename_i t b' ht;split at h
     ·cases h
     ·rename_i t' b'' hc;refine Zj hE f b'' _ (fun x hx=>?_) h;rcases zt.1 hx with hx|hx
      ·exact hl x hx
      ·simp only [zV] at hx;subst hx;exact Qs _ _ _ (Jk hE ht) hc
theorem Qn {L:List Nat} {E:Nat->Option (Rx×Nat)} (hE:∀ a r b,E a=some (r,b)->r.valid=true):∀ (f a:Nat) (l:List Rx) {r:Rx} {b:Nat},(∀ x∈l,x.valid=true)->1<=l.length->Ye L E f a l=some (r,b)->r.valid=true
 |0,a,l,r,b,_,_,h=>by rw [Ye] at h;cases h
 |f+1,a,l,r,b,hl,h1,h=>by
  rw [Ye] at h;split at h
  ·split at h
   ·cases h
   ·rename_i t b' ht;refine Qn hE f b' _ (fun x hx=>?_) (by simp) h;rcases zt.1 hx with hx|hx
    ·exact hl x hx
    ·simp only [zV] at hx;subst hx;exact Zj hE _ _ _ (fun x hx=>by simp at hx) ht
  ·injection h with h;injection h with h2 h3;subst h2;exact Jq hl h1
theorem jS {L:List Nat}:∀ (d a:Nat) (r:Rx) (b:Nat),kl L d a=some (r,b)->r.valid=true
 |0,a,r,b,h=>by rw [kl] at h;cases h
 |d+1,a,r,b,h=>by
  rw [kl] at h;split at h
  ·cases h
  ·rename_i t b' ht;refine Qn (jS d) _ _ _ (fun x hx=>?_) (by simp) h;simp only [zV] at hx;subst hx;exact Zj (jS d) _ _ _ (fun x hx=>by simp at hx) ht
def vu (L:List Nat):Nat ⊕ Rx:=match kl L (L.length+1) 0 with
 |none=>.inl 4
 |some (r,b)=>if b<L.length then .inl 4 else match r.meas with
  |none=>.inl 9
  |some _=>.inr r
theorem Kr {w0 w:World} {M:List Nat} {R:List As} {b2 b3:Nat} {c0 c1 c2 c3 c4 c5 c6 c7 v:Value} (H:St w0 M (blk b2 (.cells #[c0,c1,c2,c3,c4,c5,c6,c7] 37)::blk b3 (.cells #[v] 29)::R) w) (pt:TypeId) (pv:Value) :
  CallsD z6 21 #[.pointer (some ⟨b2,0,none⟩),.pointer (some ⟨b3,0,none⟩)] (.panicking [{ v:=.iface pt pv,recovered:=false }]) w fun e u' w'=>e=.returned (.tuple #[])∧u'=.panicking [{ v:=.iface pt pv,recovered:=true }] ∧
   St w0 M (blk b2 (.cells #[.int .i64 0,.int .u64 0,.int .u64 0,.int .u64 0,.int .u64 0,.int .i64 0,.int .i64 0,.slice none 0 0] 37)::blk b3 (.cells #[.iface 56 (.int .i64 4)] 29)::R) w':=by
 refine callsD_of_wpS Tryd.func21 rfl fun c₀ cs hu=>?_
 apply wpS_seq;apply wpS_region;simp [wpOpsS,go_sem,recoverD,hu,Tryd.ntmps21,Exit.thenS];refine wpS_cond (t:=true) (by simp [Act.eval,YY]) ?_;simp only [if_true];refine wpS_of_wp ?_;go_wp2_with (first|refine sL ?_|(refine sS ?_;clear H;intros;rename_i H));simp [bodyPostS,results,Tryd.results21];exact H
end
section
open Go.RowKit Go.Maps
attribute [local go_sem] qM run_panic_i
def PoP (w:World) (nL:Nat) (o:Nat ⊕ Rx) (e:Ending) (w':World):Prop :=
 match o with
 |.inl k=>e=.returned (.tuple #[.agg #[.int .i64 0,.int .u64 0,.int .u64 0,.int .u64 0,.int .u64 0,.int .i64 0,.int .i64 0,.slice none 0 0],.iface 56 (.int .i64 (k:Nat))])∧St w [] [] w'
 |.inr r=>∃ (k:Int) (s0 s1 s2 s3:Nat) (lo hi:Int) (ad:Option Addr) (n c:Nat) (P:zT),e=.returned (.tuple #[.agg #[.int .i64 k,.int .u64 (s0:Nat),.int .u64 (s1:Nat),.int .u64 (s2:Nat),.int .u64 (s3:Nat),.int .i64 lo,.int .i64 hi,.slice ad n c],.nilIface])∧RxIn P ⟨⟨k,s0,s1,s2,s3,lo,hi⟩,.slice ad n c⟩ r∧(xq P).length<=16*nL∧St w [] [zw P] w'
theorem meas_x {P:zT} {b2:Nat} {k:Int} {s0 s1 s2 s3:Nat} {lo hi:Int} {ad:Option Addr} {n c:Nat} {r:Rx} (hx:RxIn P ⟨⟨k,s0,s1,s2,s3,lo,hi⟩,.slice ad n c⟩ r) (hv:r.valid=true) (w:World) (h1:(blk b2 (.cells #[.int .i64 k,.int .u64 (s0:Nat),.int .u64 (s1:Nat),.int .u64 (s2:Nat),.int .u64 (s3:Nat),.int .i64 lo,.int .i64 hi,.slice ad n c] 37)).ho w) (hp:(zw P).ho w) :
  Calls z6 23 #[.pointer (some ⟨b2,0,none⟩)] w fun e w'=>((r.meas=none∧e=.returned (.tuple #[.int .i64 0,.iface 56 (.int .i64 9)]))∨∃ p,r.meas=some p∧e=.returned (.tuple #[.int .i64 (p:Nat),.nilIface]))∧St w [] [] w':=by
 have hp2:(zw [(b2,0,[.int .i64 k,.int .u64 (s0:Nat),.int .u64 (s1:Nat),.int .u64 (s2:Nat),.int .u64 (s3:Nat),.int .i64 lo,.int .i64 hi,.slice ad n c])]).ho w:=(St.one h1).blk_poolG.ho _ (by simp);have hpa:=jv hp2 hp;refine JQ (x:=⟨⟨k,s0,s1,s2,s3,lo,hi⟩,.slice ad n c⟩) ⟨fun w hw=>?_,by simp,hx.mono fun y hy=>qx _ hy⟩ hv w hpa;have:=(xB hw)
 rw [xV] at this;exact (this _ (q6 _ (zV.2 rfl))).2
theorem KY {s:ByteArray} {L:List Nat} (hs:StrL s L) (hl:L.length<=1000) (w:World):Calls z6 8 #[.string s] w (PoP w L.length (vu L)):=by
 have H:=St.nil w [];have HK:Ks w [] []:=Ks.nil w _;have hmf:∀ (fn:Fn) (first cap:Array Value) (w:World),(Instr.makeFunc fn first cap).run z6 w=.ok (.func fn first cap) w:=fun _ _ _ _=>rfl
 obtain ⟨cnt,hcnt⟩:∃ z,Lib.countByte s.data.toList 40=z:=⟨_,rfl⟩
 have hcl:cnt<=1000:=by
  have h1:Lib.countByte s.data.toList 40<=s.data.toList.length:=List.count_le_length;have h2:=hs.size;rw [ByteArray.size] at h2;rw [Array.length_toList,h2,hcnt] at h1;omega
 have HCO:Hid (∀ w,Calls z6 20 #[.string s,.string ⟨#[40]⟩] w fun e w'=>e=.returned (.int .i64 (cnt:Nat))∧w'=w):=zh fun w=>by
  have:=Tryd.strings_Count_one s 40 w;rw [hcnt] at this;exact this
 have e1:decide ((1024:Int)<(cnt:Int))=false:=(by simp;omega);have e1n:decide (1024<cnt)=false:=(by simp;omega);have HEX:=zh (fun (bp:Nat) (w:World) h=>expr_x hs (by omega) (L.length+1) 0 (zH _) (by omega) bp w h);obtain ⟨D,hD⟩:∃ z,vu L=z:=⟨_,rfl⟩
 rw [hD];unfold vu at hD;obtain ⟨nl,hnl⟩:∃ z,L.length=z:=⟨_,rfl⟩
 have hsz:=hs.size;have HNL:=zh hnl;have hev:=jS (L:=L) (L.length+1) 0;rw [hnl] at hsz hl;have e0:decide ((262144:Int)<(nl:Int))=false:=(by simp;omega);have e0n:decide (262144<nl)=false:=(by simp;omega);have HLT:Hid (L.length=nl∧∀ b:Nat,b<=L.length->b<=nl):=zh ⟨hnl,fun b h=>by omega⟩;clear hs hcnt;cases hx:kl L (L.length+1) 0 with
 |none =>
  rw [hx] at hD HEX;have hd:D=.inl 4:=hD.symm;subst hd;rw [hnl];clear hD hx hev hnl
  go_enter_defers ZU,vY
  go_wp2_with (first|refine sL ?_|(refine sS ?_;clear H;intros;rename_i H)|(go_at_call 20;with_reducible refine zm (HCO.out _) ?_;rintro e wc ⟨rfl,rfl⟩));rename_i b2 _ b3 bp _ _ _ _ _ _;refine zm (HEX.out _ _ (H.get pk)) ?_;rintro e wc ⟨rfl,hb⟩;replace H:=H.at1 (bp:=bp) pk hb;simp only [z8] at H;clear hb;replace H:=H.picks (.cons (A:=blk b2 (.cells #[.int .i64 0,.int .u64 0,.int .u64 0,.int .u64 0,.int .u64 0,.int .i64 0,.int .i64 0,.slice none 0 0] 37)) pk (.cons (A:=blk b3 (.cells #[.nilIface] 29)) pk .nil));simp only [xS];go_wp2_with (first|refine sL ?_|(refine sS ?_;clear H;intros;rename_i H));refine leaves_cons (f:=21) (args:=#[.pointer (some ⟨b2,0,none⟩),.pointer (some ⟨b3,0,none⟩)]) (by simp) (by simp [go_sem]) ?_;refine (Kr H _ _).mono ?_;rintro e u' w'' ⟨rfl,rfl,H⟩;simp only [settle];exact ⟨_,ZM rfl H rfl pk rfl rfl pk,rfl,H.nix⟩
 |some q =>
  obtain ⟨r,b⟩:=q;rw [hx] at hD HEX;simp only at hD;have HV:=zh (hev r b hx);rw [hnl] at hD ⊢;clear hx hev hnl;by_cases hlt:b<nl
  ·rw [if_pos hlt] at hD;have hd:D=.inl 4:=hD.symm;subst hd;clear hD;have f1:decide ((b:Int)<(nl:Int))=true:=(by simp;omega);have f1n:decide (b<nl)=true:=by simp;omega
   go_enter_defers ZU,vY
   go_wp2_with (first|refine sL ?_|(refine sS ?_;clear H;intros;rename_i H)|(go_at_call 20;with_reducible refine zm (HCO.out _) ?_;rintro e wc ⟨rfl,rfl⟩));rename_i b2 _ b3 bp _ _ _ _ _ _;refine zm (HEX.out _ _ (H.get pk)) ?_;rintro e wc ⟨k,s0,s1,s2,s3,lo,hi,ad,n,cp,P,rfl,hrx,hadr,hb9,hb⟩;replace H:=H.at1 (bp:=bp) pk hb;simp only [z7,z8] at H;have hb8:=HLT.out.2 _ hb9;have HR:=zh hrx;clear hb hrx hb9;go_wp2_with (first|refine sL ?_|(refine sS ?_;clear H;intros;rename_i H));replace H:=H.picks (.cons (A:=blk b2 (.cells #[.int .i64 k,.int .u64 (s0:Nat),.int .u64 (s1:Nat),.int .u64 (s2:Nat),.int .u64 (s3:Nat),.int .i64 lo,.int .i64 hi,.slice ad n cp] 37)) pk (.cons (A:=blk b3 (.cells #[.nilIface] 29)) pk .nil));refine leaves_cons (f:=21) (args:=#[.pointer (some ⟨b2,0,none⟩),.pointer (some ⟨b3,0,none⟩)]) (by simp) (by simp [go_sem]) ?_;refine (Kr H _ _).mono ?_;rintro e u' w'' ⟨rfl,rfl,H⟩;simp only [settle];exact ⟨_,ZM rfl H rfl pk rfl rfl pk,rfl,H.nix⟩
  ·rw [if_neg hlt] at hD;have f1:decide ((b:Int)<(nl:Int))=false:=(by simp;omega);have f1n:decide (b<nl)=false:=(by simp;omega);cases hm:r.meas with
   |none =>
    rw [hm] at hD;have hd:D=.inl 9:=hD.symm;subst hd;have HM9:=zh hm;clear hD hm
    go_enter_defers ZU,vY
    go_wp2_with (first|refine sL ?_|(refine sS ?_;clear H;intros;rename_i H)|(go_at_call 20;with_reducible refine zm (HCO.out _) ?_;rintro e wc ⟨rfl,rfl⟩));rename_i b2 _ b3 bp _ _ _ _ _ _;refine zm (HEX.out _ _ (H.get pk)) ?_;rintro e wc ⟨k,s0,s1,s2,s3,lo,hi,ad,n,cp,P,rfl,hrx,hadr,hb9,hb⟩;replace H:=H.at1 (bp:=bp) pk hb;simp only [z7,z8] at H;have hb8:=HLT.out.2 _ hb9;have HR:=zh hrx;clear hb hrx hb9;have HMS:Hid (∀ w,(blk b2 (.cells #[.int .i64 k,.int .u64 (s0:Nat),.int .u64 (s1:Nat),.int .u64 (s2:Nat),.int .u64 (s3:Nat),.int .i64 lo,.int .i64 hi,.slice ad n cp] 37)).ho w->(zw P).ho w->Calls z6 23 #[.pointer (some ⟨b2,0,none⟩)] w fun e w'=>e=.returned (.tuple #[.int .i64 0,.iface 56 (.int .i64 9)])∧St w [] [] w'):=zh fun w h1 h2=>by
     refine zm (meas_x HR.out HV.out w h1 h2) ?_;rintro e w' ⟨⟨h,he⟩|⟨p,h,he⟩,hb⟩
     ·exact ⟨he,hb⟩
     ·rw [HM9.out] at h;cases h
    go_wp2_with (first|refine sL ?_|(refine sS ?_;clear H;intros;rename_i H)|(go_at_call 23;with_reducible refine zm (HMS.out _ (H.get pk) (H.get pk)) ?_;rintro e wc ⟨rfl,hb⟩;replace H:=H.grew hb.below;clear hb));refine leaves_cons (f:=21) (args:=#[.pointer (some ⟨b2,0,none⟩),.pointer (some ⟨b3,0,none⟩)]) (by simp) (by simp [go_sem]) ?_;refine (XN _ _ _).mono ?_;rintro e u' w'' ⟨rfl,rfl,rfl⟩;exact ⟨_,ZM rfl H rfl pk rfl rfl pk,rfl,H.nix⟩
   |some p9 =>
    rw [hm] at hD;have hd:D=.inr r:=hD.symm;subst hd;have HM9:=zh hm;clear hD hm
    go_enter_defers ZU,vY
    go_wp2_with (first|refine sL ?_|(refine sS ?_;clear H;intros;rename_i H)|(go_at_call 20;with_reducible refine zm (HCO.out _) ?_;rintro e wc ⟨rfl,rfl⟩));rename_i b2 _ b3 bp _ _ _ _ _ _;refine zm (HEX.out _ _ (H.get pk)) ?_;rintro e wc ⟨k,s0,s1,s2,s3,lo,hi,ad,n,cp,P,rfl,hrx,hadr,hb9,hb⟩;replace H:=H.at1 (bp:=bp) pk hb;simp only [z7,z8] at H;have hb8:=HLT.out.2 _ hb9;have HR:=zh hrx;clear hb hrx hb9;have HMS:Hid (∀ w,(blk b2 (.cells #[.int .i64 k,.int .u64 (s0:Nat),.int .u64 (s1:Nat),.int .u64 (s2:Nat),.int .u64 (s3:Nat),.int .i64 lo,.int .i64 hi,.slice ad n cp] 37)).ho w->(zw P).ho w->Calls z6 23 #[.pointer (some ⟨b2,0,none⟩)] w fun e w'=>e=.returned (.tuple #[.int .i64 (p9:Nat),.nilIface])∧St w [] [] w'):=zh fun w h1 h2=>by
     refine zm (meas_x HR.out HV.out w h1 h2) ?_;rintro e w' ⟨⟨h,he⟩|⟨p,h,he⟩,hb⟩
     ·rw [HM9.out] at h;cases h
     ·rw [HM9.out] at h;injection h with h
      subst h;exact ⟨he,hb⟩
    go_wp2_with (first|refine sL ?_|(refine sS ?_;clear H;intros;rename_i H)|(go_at_call 23;with_reducible refine zm (HMS.out _ (H.get pk) (H.get pk)) ?_;rintro e wc ⟨rfl,hb⟩;replace H:=H.grew hb.below;clear hb));refine leaves_cons (f:=21) (args:=#[.pointer (some ⟨b2,0,none⟩),.pointer (some ⟨b3,0,none⟩)]) (by simp) (by simp [go_sem]) ?_;refine (XN _ _ _).mono ?_;rintro e u' w'' ⟨rfl,rfl,rfl⟩;exact ⟨_,ZM rfl H rfl pk rfl rfl pk,k,s0,s1,s2,s3,lo,hi,ad,n,cp,P,rfl,HR.out,by omega,H.picks (.cons pk .nil)⟩
end
section
open Go.RowKit Go.Maps
attribute [local go_sem] qM
def IcRel (w:World) (n mm:Nat) (v5:Value) (wr:World):Prop:=∃ i:Nat,mm=n-i∧i<=n∧v5=.int .i64 i∧St w [] [] wr
theorem ints_c {P:zT} {n ga oa ca gb ob cb:Nat} {f:Nat->Int} (hn:n<=1000) (ha:∀ i,i<n->∀ w,(zx P).ho w->w.cell? ⟨ga,oa+i,none⟩=some (.int .i64 (f i))) (hb:∀ i,i<n->∀ w,(zx P).ho w->w.cell? ⟨gb,ob+i,none⟩=some (.int .i64 (f i))) (w:World) (hp:(zx P).ho w) :
  Calls z6 24 #[.slice (some ⟨ga,oa,none⟩) n ca,.slice (some ⟨gb,ob,none⟩) n cb] w fun e w'=>e=.returned (.bool true)∧St w [] [] w':=by
 have H:=St.nil w [];have HK:Ks w [] [zx P]:=Ks.one hp;have HA:=zh ha;have HB:=zh hb;clear ha hb hp;go_enter Tryd.func24,Tryd.ntmps24;go_wp2_with (first|refine sL ?_|(refine sS ?_;clear H;intros;rename_i H));go_loopg [5] n (fun mm v5 wr=>IcRel w n mm v5 wr);case atStart=>exact ⟨0,rfl,zH _,rfl,H⟩
 case round =>
  clear H;obtain ⟨i,rfl,hi,rfl,H⟩:=hrel;by_cases hlt:i<n
  ·have f1:decide ((i:Int)<(n:Int))=true:=(by simp;omega);have f1n:decide (i<n)=true:=(by simp;omega);have HA9:=zh (HA.out i hlt);have HB9:=zh (HB.out i hlt);obtain ⟨x,hx⟩:∃ x,f i=x:=⟨_,rfl⟩
   rw [hx] at HA9 HB9;have e1:(x != x)=false:=(by simp);clear hx;go_wp2_with (first|refine sL ?_|(refine sS ?_;clear H;intros;rename_i H));refine zr H 9 [] [] (by kernel_rfl) (by kernel_rfl) ?_;apply Exists.intro;refine ⟨fun w1 hw1 HX=>?_,fun bs wr Hr=>?_⟩
   ·refine sG ?_;repeat (first|go_big_quiet_skip|refine sQ ?_|(with_reducible refine kI ?_;refine QtLoad.cel rfl rfl rfl rfl (fun y=>HA9.out _ ((HX y).known HK pk)) ?_;simp only [Act.put,puA,puB,puC])|(with_reducible refine kI ?_;refine QtLoad.cel rfl rfl rfl rfl (fun y=>HB9.out _ ((HX y).known HK pk)) ?_;simp only [Act.put,puA,puB,puC])|go_big_quiet_step (fail))
    exact wpQuiet_nil rfl
   clear H;have H:=Hr;clear Hr;replace H:=sH H;refine sT ?_;go_wp2_with (first|refine sL ?_|(refine sS ?_;clear H;intros;rename_i H));go_roundg (n-(i+1));case measure=>omega
   case rel=>exact ⟨i+1,rfl,by omega,by go_num,H⟩
  ·have f1:decide ((i:Int)<(n:Int))=false:=(by simp;omega);have f1n:decide (i<n)=false:=(by simp;omega);clear hlt;go_wp2_with (first|refine sL ?_|(refine sS ?_;clear H;intros;rename_i H));go_ret;exact ⟨rfl,H⟩
def Kn (w:World) (b2 b3 n mm:Nat) (c2 c3:Array Value) (v5:Value) (wr:World):Prop:=∃ i:Nat,mm=n-i∧i<=n∧v5=.int .i64 i∧St w [] [blk b2 (.cells c2 27),blk b3 (.cells c3 27)] wr
theorem same_x {P:zT} {vc vn va vc' vn' va':Value} {m:Mch} {n k:Nat} (h:MchIn P vc vn va m) (h':MchIn P vc' vn' va' m) (hm:m.Ok n k) (hn256:n<=256) (hk256:k<=256) (w:World) (hp:(zx P).ho w) :
  Calls z6 12 #[.agg #[.int .i64 0,vc,vn,va],.agg #[.int .i64 0,vc',vn',va']] w fun e w'=>e=.returned (.bool true)∧St w [] [] w':=by
 have H:=St.nil w [];have HK:Ks w [] [zx P]:=Ks.one hp;obtain ⟨gc,oc,cc,gn,on_,cn,ga,oa,ca,rfl,rfl,rfl,hcs⟩:=h.cells hm;obtain ⟨gc2,oc2,cc2,gn2,on2,cn2,ga2,oa2,ca2,rfl,rfl,rfl,hcs2⟩:=h'.cells hm;have HIC:Hid (∀ w,(zx P).ho w->Calls z6 24 #[.slice (some ⟨gc,oc,none⟩) 256 cc,.slice (some ⟨gc2,oc2,none⟩) 256 cc2] w fun e w'=>e=.returned (.bool true)∧St w [] [] w'):=zh fun w h =>
  ints_c (f:=fun i=>(m.cl i:Nat)) (by omega) (fun i hi w h=>hcs.cl i hi w h) (fun i hi w h=>hcs2.cl i hi w h) w h
 have HCS:=zh (za hcs hcs2);have HKP:=zh hm.kpos;clear h h' hp hm hcs hcs2;go_enter Tryd.func12,Tryd.ntmps12;go_wp2_with (first|refine sL ?_|(refine sS ?_;clear H;intros;rename_i H)|(go_at_call 24;with_reducible refine zm (HIC.out _ (H.known HK pk)) ?_;rintro e wc ⟨rfl,hb⟩;replace H:=H.grew hb.below;clear hb));rename_i b2 _ b3 _ _ _;replace H:=H.picks (.cons (A:=blk b2 (.cells #[.int .i64 0,.slice (some ⟨gc,oc,none⟩) 256 cc,.slice (some ⟨gn,on_,none⟩) n cn,.slice (some ⟨ga,oa,none⟩) n ca] 27)) pk (.cons (A:=blk b3 (.cells #[.int .i64 0,.slice (some ⟨gc2,oc2,none⟩) 256 cc2,.slice (some ⟨gn2,on2,none⟩) n cn2,.slice (some ⟨ga2,oa2,none⟩) n ca2] 27)) pk .nil));go_loopg [5] n (fun mm v5 wr=>Kn w b2 b3 n mm #[.int .i64 0,.slice (some ⟨gc,oc,none⟩) 256 cc,.slice (some ⟨gn,on_,none⟩) n cn,.slice (some ⟨ga,oa,none⟩) n ca] #[.int .i64 0,.slice (some ⟨gc2,oc2,none⟩) 256 cc2,.slice (some ⟨gn2,on2,none⟩) n cn2,.slice (some ⟨ga2,oa2,none⟩) n ca2] v5 wr);case atStart=>exact ⟨0,rfl,zH _,rfl,H⟩
 case round =>
  clear H;obtain ⟨i,rfl,hi,rfl,H⟩:=hrel;by_cases hlt:i<n
  ·have f1:decide ((i:Int)<(n:Int))=true:=(by simp;omega);have f1n:decide (i<n)=true:=(by simp;omega);have hrw:∃ gr or cr gr2 or2 cr2,Hid (∀ w,(zx P).ho w->w.cell? ⟨gn,on_+i,none⟩=some (.slice (some ⟨gr,or,none⟩) k cr))∧Hid (∀ w,(zx P).ho w->w.cell? ⟨gn2,on2+i,none⟩=some (.slice (some ⟨gr2,or2,none⟩) k cr2)) ∧
     Hid (∀ w,(zx P).ho w->Calls z6 24 #[.slice (some ⟨gr,or,none⟩) k cr,.slice (some ⟨gr2,or2,none⟩) k cr2] w fun e w'=>e=.returned (.bool true)∧St w [] [] w'):=by
    rcases qR k with h0|h0
    ·have:=HKP.out;omega
    ·obtain ⟨gr,or,cr,x1,x2⟩:=HCS.out.1.row i 0 hlt h0;obtain ⟨gr2,or2,cr2,y1,y2⟩:=HCS.out.2.row i 0 hlt h0;exact ⟨gr,or,cr,gr2,or2,cr2,zh x1,zh y1,zh fun w h=>ints_c (f:=fun c=>(m.ent i c:Nat)) (by omega) (fun c hc w h=>x2 c w hc h) (fun c hc w h=>y2 c w hc h) w h⟩
   obtain ⟨gr,or,cr,gr2,or2,cr2,HX1,HX2,HI⟩:=hrw;go_wp2_with (first|refine sL ?_|(refine sS ?_;clear H;intros;rename_i H));refine zr H 12 [] [] (by kernel_rfl) (by kernel_rfl) ?_;apply Exists.intro;refine ⟨fun w1 hw1 HX=>?_,fun bs wr Hr=>?_⟩
   ·refine sG ?_;repeat (first|go_big_quiet_skip|refine sQ ?_|(with_reducible refine kI ?_;refine QtLoad.cel rfl rfl rfl rfl (fun y=>HX1.out _ ((HX y).known HK pk)) ?_;simp only [Act.put,puA,puB,puC])|(with_reducible refine kI ?_;refine QtLoad.cel rfl rfl rfl rfl (fun y=>HX2.out _ ((HX y).known HK pk)) ?_;simp only [Act.put,puA,puB,puC])|go_big_quiet_step ((go_at_call 24;with_reducible exact K5 (HI.out _ ((HX _).known HK pk))))|go_big_quiet_step (fail))
    exact wpQuiet_nil rfl
   clear H;have H:=Hr;clear Hr;replace H:=sH H;refine sT ?_;go_wp2_with (first|refine sL ?_|(refine sS ?_;clear H;intros;rename_i H));go_roundg (n-(i+1));case measure=>omega
   case rel=>exact ⟨i+1,rfl,by omega,by go_num,H.picks (.cons pk (.cons pk .nil))⟩
  ·have f1:decide ((i:Int)<(n:Int))=false:=(by simp;omega);have f1n:decide (i<n)=false:=(by simp;omega);clear hlt;go_wp2_with (first|refine sL ?_|(refine sS ?_;clear H;intros;rename_i H));go_loopg [6] n (fun mm v5 wr=>Kn w b2 b3 n mm #[.int .i64 0,.slice (some ⟨gc,oc,none⟩) 256 cc,.slice (some ⟨gn,on_,none⟩) n cn,.slice (some ⟨ga,oa,none⟩) n ca] #[.int .i64 0,.slice (some ⟨gc2,oc2,none⟩) 256 cc2,.slice (some ⟨gn2,on2,none⟩) n cn2,.slice (some ⟨ga2,oa2,none⟩) n ca2] v5 wr);case atStart=>exact ⟨0,rfl,zH _,rfl,H⟩
   case round =>
    clear H f1 f1n;obtain ⟨j,rfl,hj,rfl,H⟩:=hrel;by_cases hlt:j<n
    ·have f1:decide ((j:Int)<(n:Int))=true:=(by simp;omega);have f1n:decide (j<n)=true:=(by simp;omega);have HA9:=zh (HCS.out.1.ac j hlt);have HB9:=zh (HCS.out.2.ac j hlt);obtain ⟨x,hx⟩:∃ x,m.ac j=x:=⟨_,rfl⟩
     rw [hx] at HA9 HB9;have e1:(x != x)=false:=(by simp);clear hx;go_wp2_with (first|refine sL ?_|(refine sS ?_;clear H;intros;rename_i H));refine zr H 11 [] [] (by kernel_rfl) (by kernel_rfl) ?_;apply Exists.intro;refine ⟨fun w1 hw1 HX=>?_,fun bs wr Hr=>?_⟩
     ·refine sG ?_;repeat (first|go_big_quiet_skip|refine sQ ?_|(with_reducible refine kI ?_;refine QtLoad.cel rfl rfl rfl rfl (fun y=>HA9.out _ ((HX y).known HK pk)) ?_;simp only [Act.put,puA,puB,puC])|(with_reducible refine kI ?_;refine QtLoad.cel rfl rfl rfl rfl (fun y=>HB9.out _ ((HX y).known HK pk)) ?_;simp only [Act.put,puA,puB,puC])|go_big_quiet_step (fail))
      exact wpQuiet_nil rfl
     clear H;have H:=Hr;clear Hr;replace H:=sH H;refine sT ?_;go_wp2_with (first|refine sL ?_|(refine sS ?_;clear H;intros;rename_i H));go_roundg (n-(j+1));case measure=>omega
     case rel=>exact ⟨j+1,rfl,by omega,by go_num,H.picks (.cons pk (.cons pk .nil))⟩
    ·have f1:decide ((j:Int)<(n:Int))=false:=(by simp;omega);have f1n:decide (j<n)=false:=(by simp;omega);clear hlt;go_wp2_with (first|refine sL ?_|(refine sS ?_;clear H;intros;rename_i H));go_ret;exact ⟨rfl,H.nix⟩
theorem ints_0 (w:World):Calls z6 24 #[.slice none 0 0,.slice none 0 0] w fun e w'=>e=.returned (.bool true)∧St w [] [] w':=by
 have H:=St.nil w [];have HK:Ks w [] []:=Ks.nil w _;go_enter Tryd.func24,Tryd.ntmps24;go_wp2_with (first|refine sL ?_|(refine sS ?_;clear H;intros;rename_i H));go_loopg [5] 0 (fun mm v5 wr=>IcRel w 0 mm v5 wr);case atStart=>exact ⟨0,rfl,zH _,rfl,H⟩
 case round =>
  clear H;obtain ⟨i,rfl,hi,rfl,H⟩:=hrel;obtain rfl:i=0:=by omega
  go_wp2_with (first|refine sL ?_|(refine sS ?_;clear H;intros;rename_i H));go_ret;exact ⟨rfl,H⟩
theorem same_0 (w:World):Calls z6 12 #[.agg #[.int .i64 0,.slice none 0 0,.slice none 0 0,.slice none 0 0],.agg #[.int .i64 0,.slice none 0 0,.slice none 0 0,.slice none 0 0]] w fun e w'=>e=.returned (.bool true)∧St w [] [] w':=by
 have H:=St.nil w [];have HK:Ks w [] []:=Ks.nil w _;have HIC:=zh ints_0;go_enter Tryd.func12,Tryd.ntmps12;go_wp2_with (first|refine sL ?_|(refine sS ?_;clear H;intros;rename_i H)|(go_at_call 24;with_reducible refine zm (HIC.out _) ?_;rintro e wc ⟨rfl,hb⟩;replace H:=H.grew hb.below;clear hb));rename_i b2 _ b3 _ _ _;replace H:=H.picks (.cons (A:=blk b2 (.cells #[.int .i64 0,.slice none 0 0,.slice none 0 0,.slice none 0 0] 27)) pk (.cons (A:=blk b3 (.cells #[.int .i64 0,.slice none 0 0,.slice none 0 0,.slice none 0 0] 27)) pk .nil));go_loopg [5] 0 (fun mm v5 wr=>Kn w b2 b3 0 mm #[.int .i64 0,.slice none 0 0,.slice none 0 0,.slice none 0 0] #[.int .i64 0,.slice none 0 0,.slice none 0 0,.slice none 0 0] v5 wr);case atStart=>exact ⟨0,rfl,zH _,rfl,H⟩
 case round =>
  clear H;obtain ⟨i,rfl,hi,rfl,H⟩:=hrel;obtain rfl:i=0:=by omega
  go_wp2_with (first|refine sL ?_|(refine sS ?_;clear H;intros;rename_i H));go_loopg [6] 0 (fun mm v5 wr=>Kn w b2 b3 0 mm #[.int .i64 0,.slice none 0 0,.slice none 0 0,.slice none 0 0] #[.int .i64 0,.slice none 0 0,.slice none 0 0,.slice none 0 0] v5 wr);case atStart=>exact ⟨0,rfl,zH _,rfl,H⟩
  case round =>
   clear H;obtain ⟨j,rfl,hj,rfl,H⟩:=hrel;obtain rfl:j=0:=by omega
   go_wp2_with (first|refine sL ?_|(refine sS ?_;clear H;intros;rename_i H));go_ret;exact ⟨rfl,H.nix⟩
end
section
open Go.RowKit Go.Maps
theorem not_big {r:Rx} {search:Bool} (hv:r.valid=true) (hp:r.pos<=7):¬ r.big search:=by
 intro h;unfold Rx.big at h;have hlen:=Rx.re_len hv ⟨[],[]⟩;simp at hlen;obtain ⟨c,hc⟩:∃ z,(r.re.write ⟨[],[]⟩).2=z:=⟨_,rfl⟩
 obtain ⟨t,ht⟩:∃ z,(r.re.write ⟨[],[]⟩).1=z:=⟨_,rfl⟩
 rw [hc,ht] at h;rw [hc] at hlen;have hm:∀ p∈Zd c,p<128:=by
  intro p hp';unfold Zd at hp';have hf:(zl 256).foldl (fun l b=>ins l (X4 c b)) []=((zl 256).map (X4 c)).foldl ins []:=(by rw [List.foldl_map]);rw [hf,qk] at hp';rcases hp' with hp'|hp'
  ·simp at hp'
  ·obtain ⟨b,_,rfl⟩:=zC.1 hp';refine Nat.lt_pow_two_of_testBit (n:=7) _ fun i hi=>?_
   unfold X4;rw [jM];have:¬ i<c.sets.length:=by omega
   simp [this]
 have hr:∀ x,Rch c t search (·∈Zd c) x->x<128:=by
  intro x hx;cases hx with
  |zero h=>exact yL wP (hm _ h)
  |step _ h=>exact yL wP (hm _ h)
 obtain ⟨h1,h2⟩:=W8 (c:=c) (t:=t) (search:=search) (A:=Zd c) (limit:=256) 257 (i:=0) (l:=(yf (Zd c) t.fst).foldl ins []) (wk (fun x hx=>by simp at hx) fun x hx=>by
  obtain ⟨p,hp',rfl⟩:=zC.1 hx;exact .zero hp') (yl _ _ (by simp))
 have:=xU h2 fun x hx=>hr x (h1 x hx)
 omega
theorem QW {c b:Nat} (hb:b<256):JK (vq c).set b=decide (b=c):=by
 have h:JK (vq c).set b=bit (ofL [c]) b:=by
  have:=KD (⟨ofL [c],wM _⟩:LW) hb;exact this
 rw [h,Kq];simp
theorem ab_lang {t:List Nat} (ht:Lts t):abR.lang false t↔t=[97,98]:=by
 have hre:abR.re=.seq [.set (vq 97).set,.set (vq 98).set]:=by
  unfold abR;rw [Rx.re];simp [Rx.reL,Rx.re,vq,Hd.set]
 unfold Rx.lang;rw [if_neg (by simp),hre,Re.L,Re.SeqL];constructor
 ·rintro ⟨a,b,rfl,h1,h2⟩;rw [Re.L] at h1;obtain ⟨x,rfl,hx⟩:=h1;rw [Re.SeqL] at h2;obtain ⟨a2,b2,rfl,h3,h4⟩:=h2;rw [Re.L] at h3;obtain ⟨y,rfl,hy⟩:=h3;rw [Re.SeqL] at h4;subst h4;rw [QW (ht x (by simp)),decide_eq_true_eq] at hx;rw [QW (ht y (by simp)),decide_eq_true_eq] at hy;subst hx hy;rfl
 ·rintro rfl;refine ⟨[97],[98],rfl,?_,?_⟩
  ·rw [Re.L];exact ⟨97,rfl,by rw [QW (by omega)];simp⟩
  ·rw [Re.SeqL];refine ⟨[98],[],rfl,?_,?_⟩
   ·rw [Re.L];exact ⟨98,rfl,by rw [QW (by omega)];simp⟩
   ·rw [Re.SeqL]
def M4:Mch:=⟨(zl 256).map fun b=>if b=97 then 1 else if b=98 then 2 else 0,[[1,2,1],[1,1,1],[1,1,3],[1,1,1]],[false,false,false,true],0⟩
theorem X9 {b:Nat} (hb:b<256):M4.cl b=if b=97 then 1 else if b=98 then 2 else 0:=by
 unfold Mch.cl M4;rw [ze,zq,xP hb];rfl
theorem Km:M4.Ok 4 3:=by
 refine ⟨by simp [M4],rfl,rfl,by decide,?_,?_,?_⟩
 ·intro r hr;simp [M4] at hr;rcases hr with rfl|rfl|rfl|rfl <;> rfl
 ·intro r hr q hq;simp [M4] at hr;rcases hr with rfl|rfl|rfl|rfl <;> (simp at hq;omega)
 ·intro c hc;unfold M4 at hc;obtain ⟨b,_,rfl⟩:=zC.1 hc;split
  ·omega
  ·split <;> omega
theorem kE {q b:Nat} (hb:b<256):M4.step q b=M4.ent q (if b=97 then 1 else if b=98 then 2 else 0):=by
 unfold Mch.step;rw [X9 hb]
theorem Kl:∀ (t:List Nat),Lts t->M4.run 1 t=1
 |[],_=>rfl
 |x::t,h=>by
  have hx:=h x (by simp);show M4.run (M4.step 1 x) t=1
  have:M4.step 1 x=1:=by
   rw [kE hx];split
   ·rfl
   ·split <;> rfl
  rw [this];exact Kl t fun y hy=>h y (by simp [hy])
theorem XL {t:List Nat} (ht:Lts t):M4.lang t=true↔t=[97,98]:=by
 have hd:∀ (r:List Nat),Lts r->M4.ac (M4.run 1 r)=false:=fun r hr=>by rw [Kl r hr];rfl
 unfold Mch.lang
 match t,ht with
 |[],_=>simp [Mch.run,M4,Mch.ac]
 |x::t,ht =>
  have hx:=ht x (by simp);have ht2:Lts t:=fun y hy=>ht y (by simp [hy])
  show M4.ac (M4.run (M4.step 0 x) t)=true↔_
  rw [kE hx];by_cases h97:x=97
  ·subst h97;rw [if_pos rfl];show M4.ac (M4.run 2 t)=true↔_
   match t,ht2 with
   |[],_=>simp [Mch.run,M4,Mch.ac]
   |y::t,ht2 =>
    have hy:=ht2 y (by simp);have ht3:Lts t:=fun z hz=>ht2 z (by simp [hz])
    show M4.ac (M4.run (M4.step 2 y) t)=true↔_
    rw [kE hy];by_cases h98:y=98
    ·subst h98;rw [if_neg (by omega),if_pos rfl];show M4.ac (M4.run 3 t)=true↔_
     match t,ht3 with
     |[],_=>simp [Mch.run,M4,Mch.ac]
     |z::t,ht3 =>
      have hz:=ht3 z (by simp);have ht4:Lts t:=fun u hu=>ht3 u (by simp [hu])
      show M4.ac (M4.run (M4.step 3 z) t)=true↔_
      have:M4.step 3 z=1:=by
       rw [kE hz];split
       ·rfl
       ·split <;> rfl
      rw [this,hd t ht4];simp
    ·have:M4.ent 2 (if y=97 then 1 else if y=98 then 2 else 0)=1:=by
      rw [if_neg h98];split <;> rfl
     rw [this,hd t ht3];simp;intro h;exact absurd h h98
  ·have:M4.ent 0 (if x=97 then 1 else if x=98 then 2 else 0)=1:=by
    rw [if_neg h97];split <;> rfl
   rw [this,hd t ht2];simp;intro h;exact absurd h h97
theorem M4_canon:M4.Canon 4 3:=by
 refine ⟨Km,rfl,?_,?_,?_,?_⟩
 ·intro q h0 h4;have hq:q=1∨q=2∨q=3:=(by omega);rcases hq with rfl|rfl|rfl
  ·exact ⟨0,0,by omega,by omega,rfl,fun p' c' h=>by omega,fun c' h=>by omega⟩
  ·refine ⟨0,1,by omega,by omega,rfl,fun p' c' h=>by omega,fun c' h=>?_⟩;have hc:c'=0:=(by omega);subst hc;decide
  ·refine ⟨2,2,by omega,by omega,rfl,fun p' c' h1 h2=>?_,fun c' h=>?_⟩
   ·have hp:p'=0∨p'=1:=(by omega);have hc:c'=0∨c'=1∨c'=2:=(by omega);rcases hp with rfl|rfl <;> rcases hc with rfl|rfl|rfl <;> decide
   ·have hc:c'=0∨c'=1:=(by omega);rcases hc with rfl|rfl <;> decide
 ·intro p q hp hq h;have h1:=h [] (fun b hb=>by simp at hb);have h2:=h [98] (fun b hb=>by simp at hb;omega);have h3:=h [97,98] (fun b hb=>by simp at hb;omega);have e98:∀ s,M4.run s [98]=M4.ent s 2:=fun s=>by show M4.step s 98=_;rw [kE (by omega)];rfl
  have e97:∀ s,M4.run s [97,98]=M4.ent (M4.ent s 1) 2:=fun s=>by show M4.step (M4.step s 97) 98=_;rw [kE (by omega),kE (by omega)];rfl
  rw [e98,e98] at h2;rw [e97,e97] at h3;have hp4:p=0∨p=1∨p=2∨p=3:=(by omega);have hq4:q=0∨q=1∨q=2∨q=3:=(by omega);rcases hp4 with rfl|rfl|rfl|rfl <;> rcases hq4 with rfl|rfl|rfl|rfl <;> first|rfl|(exfalso;revert h1;decide)|(exfalso;revert h2;decide)|(exfalso;revert h3;decide)
 ·intro c hc;have h3:c=0∨c=1∨c=2:=(by omega);rcases h3 with rfl|rfl|rfl
  ·exact ⟨0,by omega,by rw [X9 (by omega)];rfl,fun b' h=>by omega⟩
  ·exact ⟨97,by omega,by rw [X9 (by omega)];rfl,fun b' h=>by rw [X9 (by omega),if_neg (by omega),if_neg (by omega)];omega⟩
  ·exact ⟨98,by omega,by rw [X9 (by omega)];rfl,fun b' h=>by
    rw [X9 (by omega)];split
    ·omega
    ·rw [if_neg (by omega)];omega⟩
 ·intro c d hc hd h;have h3:c=0∨c=1∨c=2:=(by omega);have h4:d=0∨d=1∨d=2:=(by omega);have g0:=h 0 (by omega);have g2:=h 2 (by omega);rcases h3 with rfl|rfl|rfl <;> rcases h4 with rfl|rfl|rfl <;> first|rfl|(exfalso;revert g0;decide)|(exfalso;revert g2;decide)
theorem Jn {m:Mch} (h:OfOk abR false m):m=M4:=by
 obtain ⟨⟨n,k,hc,_⟩,hl⟩:=h;exact Qp hc M4_canon fun t ht=>by rw [q5,hl t ht,ab_lang ht,XL ht]
theorem abR_err:abR.err=0:=by
 unfold Rx.err;rw [if_pos ZY,Zq]
theorem abR_pos:abR.pos=2:=(Rx.meas_is Zq).1.symm
end
section
open Go.RowKit Go.Maps
attribute [local go_sem] qM
theorem AtSlice.litK {t e:TypeId} {n:Nat} {ps:Array (Nat×Operand)} {ops:Array Oper} {Q:Exit->Act->World->Prop} {rest:List Oper} {a:Act} {w w0:World} {M:List Nat} {L:List As} {o1:Oper} (H:St w0 M L w) (hw:Region.wanted o1 (yielded ops a.tmps)=true) (ho:o1.op=.buildSlice t n ps) (hte:wY t=some e) {z:Value} {k bytes:Nat} {cs:Array Value} (hi:vm e=some (z,k,bytes)) (hn:¬ n*k > 2 ^ 24) (hn0:¬ n*k=0)
  (hf:Instr.fill (fun i=>some (i*k,k)) ((Array.range (n*k)).map (z.cells[·%z.cells.size]!)) (ps.map fun (i,x)=>(i,a.eval x)).toList=some cs)
  (h:∀ b w',St w0 M (blk b (.cells cs e)::L) w'->wpList z6 ops Q rest (a.put o1.dst (.slice (some ⟨b,0,none⟩) n n)) w'):AtSlice z6 ops Q o1 t n ps rest a w :=
 wpList_step fun _ hK=>by
  rw [if_pos hw];obtain ⟨i,h2,h3,h4,h5⟩:=kr hi;have hr:=run_buildSlice (P:=z6) w t e n (ps.map fun (i,x)=>(i,a.eval x)) cs i z (wB hte) h2 h3 (by rw [h4];exact hn) (by rw [h4];exact hn0) (by rw [h4];exact hf);unfold Oper.wp execOp;simp only [ho,Sem.run_bind,hr,Result.andThen_ok,Sem.run_pure];exact hK _ _ (h _ _ (H.alloc _))
theorem St.freeze {g:Nat} {cs:Array Value} {e:TypeId} {w0 w:World} {M:List Nat} {L:List As} (h:St w0 M (blk g (.cells cs e)::L) w):St w0 M (blk g (.cells cs e (cs.size,cs.size+1))::L) (w.freeze ⟨g,cs.size,none⟩ 1):=by
 have hg:w.heap[g]?=some (.cells cs e):=h.at Pick.here;have hs:(w.freeze ⟨g,cs.size,none⟩ 1).heap.size=w.heap.size:=(by unfold World.freeze;simp);have hlt:g<w.heap.size:=(xk.1 hg).1;refine St.turn h (A':=blk g (.cells cs e (cs.size,cs.size+1))) (fun b hb=>?_) rfl rfl rfl hs ?_ (by rw [qi,qi])
 ·have hne:g≠b:=fun e'=>hb (by simp [blk,e'])
  unfold World.freeze;simp only [Nat.succ_ne_zero,if_false];rw [Z4,if_neg hne]
 ·rw [yB];unfold World.freeze;simp only [Nat.succ_ne_zero,if_false];rw [Z4,if_pos rfl,hg];rfl
theorem run_conv {t:TypeId} (hte:wY t=some 5) {g n c:Nat} {cs:Array Value} {e:TypeId} {w:World} (hg:w.heap[g]?=some (.cells cs e)):(convert t t (.slice (some ⟨g,0,none⟩) n c)).run z6 w=.ok (.slice (some ⟨g,0,none⟩) n c) (w.freeze ⟨g,cs.size,none⟩ 1):=by
 have hu:=run_underlying (P:=z6) (wB hte);have hu5:z6.underlying 5=some (.int .u8):=(by kernel_rfl);have hu6:=run_underlying (P:=z6) hu5;simp [convert,hu,hu6,markStringish,shape,freeze,Sem.run,World.shape?,hg]
section
variable {ops:Array Oper} {Q:Exit->Act->World->Prop} {rest:List Oper} {a:Act} {w w0:World} {M:List Nat} {L R:List As} {o1:Oper}
theorem AtConv.bytes {t e:TypeId} {x:Operand} (H:St w0 M L w) (hw:Region.wanted o1 (yielded ops a.tmps)=true) (ho:o1.op=.convert t t x) (hte:wY t=some 5) {g n c:Nat} (hx:a.eval x=.slice (some ⟨g,0,none⟩) n c) {cs:Array Value} {m:Nat} (hm:cs.size=m) (hp:Pick L (blk g (.cells cs e)) R)
  (h:∀ w',St w0 M (blk g (.cells cs e (m,m+1))::R) w'->wpList z6 ops Q rest (a.put o1.dst (.slice (some ⟨g,0,none⟩) n c)) w'):AtConv z6 ops Q o1 t t x rest a w :=
 wpList_step fun _ hK=>by
  rw [if_pos hw];have H':=H.pick hp;have hg:w.heap[g]?=some (.cells cs e):=H'.at Pick.here;unfold Oper.wp execOp;simp only [ho,hx,Sem.run_bind,run_conv hte hg,Result.andThen_ok,Sem.run_pure];exact hK _ _ (h _ (hm ▸ H'.freeze))
end
theorem St.blk_poolF {e:TypeId} {g:Nat} {cs:Array Value} {fr:Nat×Nat} {w0 w:World} {M:List Nat} {R:List As} (h:St w0 M (blk g (.cells cs e fr)::R) w):St w0 M (zx [(g,0,cs.toList)]::R) w :=
 h.conv (by rw [xf,qi];rfl) fun hb=>by
  rw [yB] at hb;rw [xV];intro x hx;simp only [zG,List.not_mem_nil,or_false] at hx;subst hx;refine ⟨(xk.1 hb).1,fun j u hj=>?_⟩;rw [cell_of_row w g (0+j) cs e fr hb];simpa using hj
theorem cons_ab {ad:Option Addr} {cp:Nat} (w:World) (h:(zi qp 37 8 (.slice ad 2 cp) ([97,98].map ltr)).ho w) (hde:deA.ho w) :
  Calls z6 19 #[.agg #[.int .i64 3,.int .u64 0,.int .u64 0,.int .u64 0,.int .u64 0,.int .i64 0,.int .i64 0,.slice ad 2 cp],.bool false] w fun e w'=>∃ (vc vn va:Value) (P':zT),e=.returned (.tuple #[.agg #[.int .i64 0,vc,vn,va],.nilIface])∧MchIn P' vc vn va M4∧St w [] [zx P'] w':=by
 obtain ⟨g,rfl,hr,hp⟩:=jW yC (by simp) h;refine zm (vi (search:=false) (ab_in hr) (ab_in hr).fits (by simp [xq,qz qp 8 yC]) w hp hde) ?_;rintro e w' (⟨h1,_⟩|⟨_,h2,_⟩|⟨_,_,m,vc,vn,va,P',h3,rfl,h4,hb⟩)
 ·exact absurd abR_err h1
 ·exact absurd h2 (not_big ZY (by rw [abR_pos];omega))
 ·obtain rfl:=Jn h3;exact ⟨vc,vn,va,P',rfl,h4,hb⟩
theorem JZ (w:World) (hde:deA.ho w) :
  Calls z6 7 #[.string ⟨#[97,98]⟩] w fun e w'=>∃ (vc vn va:Value) (P':zT),e=.returned (.tuple #[.agg #[.int .i64 0,vc,vn,va],.nilIface])∧MchIn P' vc vn va M4∧St w [] [zx P'] w':=by
 have H:=St.nil w [];have HK:Ks w [] [deA]:=Ks.one hde;clear hde;go_enter Tryd.func7,Tryd.ntmps7;go_wp2_with (first|refine sL ?_|(refine sS ?_;clear H;intros;rename_i H));refine zm (parse_ab _) ?_;rintro e wc ⟨ad,cp,rfl,hb⟩;replace H:=H.call0 hb;simp only [z7,z8] at H;clear hb;have HCN:=zh (fun w h1 h2=>cons_ab (ad:=ad) (cp:=cp) w h1 h2);go_wp2_with (first|refine sL ?_|(refine sS ?_;clear H;intros;rename_i H));refine zm (HCN.out _ (H.get pk) (H.known (A:=deA) HK pk)) ?_;rintro e wc ⟨vc,vn,va,P',rfl,hm,hb⟩;obtain ⟨gc,oc,cc,gn,on_,cn,ga,oa,ca,rfl,rfl,rfl,_⟩:=hm.cells Km;replace H:=H.call0 hb;simp only [z7,z8] at H;have HM:=zh hm;clear hb hm;go_wp2_with (first|refine sL ?_|(refine sS ?_;clear H;intros;rename_i H));refine bodyPost_ret (yv rfl H rfl pk rfl rfl) rfl ?_;exact ⟨_,_,_,P',rfl,HM.out,H.picks (.cons pk .nil)⟩
theorem acc_ab {P':zT} {vc vn va:Value} (hm:MchIn P' vc vn va M4) {t:List Nat} (ht:Lts t) (h0:0<t.length) (hl:t.length<=300) {g:Nat} {fr:Nat×Nat} (w:World) (h:(blk g (.cells (t.map fun c=>Value.int .u8 (c:Nat)).toArray 5 fr)).ho w) (hp:(zx P').ho w) :
  Calls z6 18 #[.agg #[.int .i64 0,vc,vn,va],.slice (some ⟨g,0,none⟩) t.length t.length] w fun e w'=>e=.returned (.tuple #[.bool (M4.lang t),.nilIface])∧St w [] [] w':=by
 have h1:(zx [(g,0,(t.map fun c=>Value.int .u8 (c:Nat)))]).ho w:=by
  have:=(St.blk_poolF (St.one h)).ho _ zS;simpa using this
 have hf:zX kH t=t.map fun c=>Value.int .u8 (c:Nat):=by
  clear h h1 ht h0 hl;induction t with
  |nil=>rfl
  |cons x t ih=>show kH x++zX kH t=_;rw [ih];rfl
 have hr:RowIn (P'++[(g,0,(t.map fun c=>Value.int .u8 (c:Nat)))]) kH 1 (.slice (some ⟨g,0,none⟩) t.length t.length) t:=⟨_,_,rfl,by unfold maxLen;omega,fun _=>⟨g,0,rfl,by rw [hf];simp⟩⟩
 exact acc_c (hm.mono fun x hx=>q6 _ hx) Km (by omega) (by omega) hr ht w (xX hp h1)
theorem alive_c (w:World) (hde:deA.ho w):Calls z6 6 #[] w fun e w'=>e=.returned (.bool true)∧St w [] [] w':=by
 have H:=St.nil w [];have HK:Ks w [] [deA]:=Ks.one hde;clear hde;go_enter Tryd.func6,Tryd.ntmps6;go_wp2_with (first|refine sL ?_|(refine sS ?_;clear H;intros;rename_i H));refine zm (JZ _ (H.known (A:=deA) HK pk)) ?_;rintro e wc ⟨vc,vn,va,P',rfl,hm,hb⟩;replace H:=H.call0 hb;simp only [z7,z8] at H;have hacc:=fun {t:List Nat} (ht:Lts t) h0 hl (g:Nat) (fr:Nat×Nat) w h hp=>acc_ab hm ht h0 hl (g:=g) (fr:=fr) w h hp
 obtain ⟨gc,oc,cc,gn,on_,cn,ga,oa,ca,rfl,rfl,rfl,_⟩:=hm.cells Km;have HA2:Hid (∀ g w,(blk g (.cells #[.int .u8 97,.int .u8 98] 5 (2,2+1))).ho w->(zx P').ho w->Calls z6 18 #[.agg #[.int .i64 0,.slice (some ⟨gc,oc,none⟩) 256 cc,.slice (some ⟨gn,on_,none⟩) 4 cn,.slice (some ⟨ga,oa,none⟩) 4 ca],.slice (some ⟨g,0,none⟩) 2 2] w fun e w'=>e=.returned (.tuple #[.bool true,.nilIface])∧St w [] [] w'):=zh fun g w h1 h2=>by
  have h97:Lts [97,98]:=(by intro b hb;simp at hb;omega);have:=hacc h97 (by simp) (by simp) g _ w h1 h2;rw [(XL h97).2 rfl] at this;exact this
 have HA1:Hid (∀ g w,(blk g (.cells #[.int .u8 97] 5 (1,1+1))).ho w->(zx P').ho w->Calls z6 18 #[.agg #[.int .i64 0,.slice (some ⟨gc,oc,none⟩) 256 cc,.slice (some ⟨gn,on_,none⟩) 4 cn,.slice (some ⟨ga,oa,none⟩) 4 ca],.slice (some ⟨g,0,none⟩) 1 1] w fun e w'=>e=.returned (.tuple #[.bool false,.nilIface])∧St w [] [] w'):=zh fun g w h1 h2=>by
  have h97:Lts [97]:=(by intro b hb;simp at hb;omega);have:=hacc h97 (by simp) (by simp) g _ w h1 h2;have e:M4.lang [97]=false:=by
   cases hq:M4.lang [97]
   ·rfl
   ·have:=(XL h97).1 hq;cases this
  rw [e] at this;exact this
 clear hb hm hacc;go_wp2_with (first|refine sL ?_|(refine sS ?_;clear H;intros;rename_i H)|((with_reducible refine ym ?_);refine AtSlice.litK (cs:=#[.int .u8 97,.int .u8 98]) H rfl rfl rfl rfl (by decide) (by decide) (by kernel_rfl) ?_;clear H;intro bt _ H;simp only [Act.put,puA,puB,puC])|((with_reducible refine Q7 ?_);(first|refine AtConv.bytes (e:=5) H rfl rfl rfl rfl (m:=2) (cs:=#[.int .u8 97,.int .u8 98]) rfl pk ?_|refine AtConv.bytes (e:=5) H rfl rfl rfl rfl (m:=1) (cs:=#[.int .u8 97]) rfl pk ?_);clear H;intro _ H;simp only [Act.put,puA,puB,puC]));have q1:=H.get (A:=blk bt (.cells #[.int .u8 97,.int .u8 98] 5 (2,2+1))) pk;have q2:=H.get (A:=zx P') pk;go_at_call 18
 refine zm (HA2.out _ _ q1 q2) ?_;rintro e wc ⟨rfl,hb⟩;replace H:=H.grew hb.below;clear hb q1 q2;go_wp2_with (first|refine sL ?_|(refine sS ?_;clear H;intros;rename_i H)|((with_reducible refine ym ?_);refine AtSlice.litK (cs:=#[.int .u8 97]) H rfl rfl rfl rfl (by decide) (by decide) (by kernel_rfl) ?_;clear H;intro bt _ H;simp only [Act.put,puA,puB,puC])|((with_reducible refine Q7 ?_);(first|refine AtConv.bytes (e:=5) H rfl rfl rfl rfl (m:=2) (cs:=#[.int .u8 97,.int .u8 98]) rfl pk ?_|refine AtConv.bytes (e:=5) H rfl rfl rfl rfl (m:=1) (cs:=#[.int .u8 97]) rfl pk ?_);clear H;intro _ H;simp only [Act.put,puA,puB,puC]));have q1:=H.get (A:=blk bt (.cells #[.int .u8 97] 5 (1,1+1))) pk;have q2:=H.get (A:=zx P') pk;go_at_call 18
 refine zm (HA1.out _ _ q1 q2) ?_;rintro e wc ⟨rfl,hb⟩;replace H:=H.grew hb.below;clear hb q1 q2;go_wp2_with (first|refine sL ?_|(refine sS ?_;clear H;intros;rename_i H));go_ret;exact ⟨rfl,H.nix⟩
end
section
open Go.RowKit Go.Maps
attribute [local go_sem] qM
theorem YB {L:List Nat} {r:Rx} (h:vu L=.inr r):r.err=0:=by
 unfold vu at h;split at h
 ·cases h
 ·rename_i r' b hx;split at h
  ·cases h
  ·split at h
   ·cases h
   ·rename_i p hm;injection h with h
    subst h;unfold Rx.err;rw [if_pos (jS _ _ _ _ hx),hm]
def PatP (w:World) (o:Nat ⊕ Rx) (e:Ending) (w':World):Prop :=
 match o with
 |.inl k=>e=.returned (.tuple #[.agg #[.int .i64 0,.slice none 0 0,.slice none 0 0,.slice none 0 0],.iface 56 (.int .i64 (k:Nat))])∧St w [] [] w'
 |.inr r=>ZV w r false e w'
theorem VJ {s:ByteArray} {L:List Nat} (hs:StrL s L) (hl:L.length<=1000) (w:World) (hde:deA.ho w):Calls z6 7 #[.string s] w (PatP w (vu L)):=by
 have H:=St.nil w [];have HK:Ks w [] [deA]:=Ks.one hde;have HPS:=zh (fun w=>KY hs hl w);clear hde hs;cases hp:vu L with
 |inl k =>
  rw [hp] at HPS;clear hp;go_enter Tryd.func7,Tryd.ntmps7;go_wp2_with (first|refine sL ?_|(refine sS ?_;clear H;intros;rename_i H));refine zm (HPS.out _) ?_;rintro e wc ⟨rfl,hb⟩;replace H:=H.call0 hb;simp only [z7,z8] at H;clear hb;go_wp2_with (first|refine sL ?_|(refine sS ?_;clear H;intros;rename_i H));refine bodyPost_ret (yv rfl H rfl pk rfl rfl) rfl ?_;exact ⟨rfl,H.nix⟩
 |inr r =>
  rw [hp] at HPS;have HE:=zh (YB hp);have HLN:=zh hl;clear hp hl;go_enter Tryd.func7,Tryd.ntmps7;go_wp2_with (first|refine sL ?_|(refine sS ?_;clear H;intros;rename_i H));refine zm (HPS.out _) ?_;rintro e wc ⟨k,s0,s1,s2,s3,lo,hi,ad,n,c,P,rfl,hrx,hadr,hb⟩;replace H:=H.call0 hb;simp only [z7,z8] at H;have HC:=zh (fun w h1 h2=>vi (search:=false) hrx hrx.fits (by have:=HLN.out;omega) w h1 h2);clear hb hrx hadr;go_wp2_with (first|refine sL ?_|(refine sS ?_;clear H;intros;rename_i H));refine zm (HC.out _ (H.get pk) (H.known (A:=deA) HK pk)) ?_;rintro e wc (⟨h1,rfl,hb⟩|⟨h1,h2,rfl,hb⟩|⟨h1,h2,m,vc,vn,va,P',h3,rfl,h4,hb⟩)
  ·exact absurd HE.out h1
  ·have H1:=zh (za h1 h2);replace H:=H.grew hb.below;clear hb h1 h2;go_wp2_with (first|refine sL ?_|(refine sS ?_;clear H;intros;rename_i H));refine bodyPost_ret (yv rfl H rfl pk rfl rfl) rfl ?_;exact .inr (.inl ⟨H1.out.1,H1.out.2,rfl,H.nix⟩)
  ·obtain ⟨xc,yc,rfl,_⟩:=h4.cls.shape;obtain ⟨xa,ya,rfl,_⟩:=h4.acc.shape;obtain ⟨rw9,hn9,hl9,hm9⟩:=id h4.nxt;obtain ⟨xn,yn,rfl,_⟩:=hn9.shape;have H1:=zh (za h1 (za h2 (za h3 h4)));replace H:=H.call0 hb;simp only [z7,z8] at H;clear hb h1 h2 h3 h4 hn9 hl9 hm9;go_wp2_with (first|refine sL ?_|(refine sS ?_;clear H;intros;rename_i H));refine bodyPost_ret (yv rfl H rfl pk rfl rfl) rfl ?_;exact .inr (.inr ⟨H1.out.1,H1.out.2.1,m,_,_,_,P',H1.out.2.2.1,rfl,H1.out.2.2.2,H.picks (.cons pk .nil)⟩)
theorem JY {s:ByteArray} {L:List Nat} (hs:StrL s L) (w:World) (hde:deA.ho w):Calls z6 3 #[.string s] w fun e w'=>e=.returned (.bool true)∧St w [] [] w':=by
 have H:=St.nil w [];have HK:Ks w [] [deA]:=Ks.one hde;have HAL:=zh (fun w h=>alive_c w h);have hsz:=hs.size;obtain ⟨nl,hnl⟩:∃ z,L.length=z:=⟨_,rfl⟩
 rw [hnl] at hsz;by_cases hlt:200<nl
 ·have e1:decide ((200:Int)<(nl:Int))=true:=(by simp;omega);have e1n:decide (200<nl)=true:=(by simp;omega);clear hs hnl hlt hde;go_enter QJ,Tryd.ntmps3;go_wp2_with (first|refine sL ?_|(refine sS ?_;clear H;intros;rename_i H)|(go_at_call 6;with_reducible refine zm (HAL.out _ (H.known (A:=deA) HK pk)) ?_;rintro e wc ⟨rfl,hb⟩;replace H:=H.grew hb.below;clear hb));go_ret;exact ⟨rfl,H.nix⟩
 have e1:decide ((200:Int)<(nl:Int))=false:=(by simp;omega);have e1n:decide (200<nl)=false:=(by simp;omega);have HPT:=zh (fun w h=>VJ hs (by omega) w h);have HPS:=zh (fun w=>KY hs (by omega) w);have HLN:Hid (L.length<=200):=zh (by omega);clear hs hnl hlt hde;cases hp:vu L with
 |inl k =>
  rw [hp] at HPT HPS;have HNM:=zh (fun w=>num_ev k w);have HZ:=zh zero_c;have e2:((k:Int)==(k:Int))=true:=(by simp);clear hp;go_enter QJ,Tryd.ntmps3;go_wp2_with (first|refine sL ?_|(refine sS ?_;clear H;intros;rename_i H)|(go_at_call 6;with_reducible refine zm (HAL.out _ (H.known (A:=deA) HK pk)) ?_;rintro e wc ⟨rfl,hb⟩;replace H:=H.grew hb.below;clear hb));refine zm (HPT.out _ (H.known (A:=deA) HK pk)) ?_;rintro e wc ⟨rfl,hb⟩;replace H:=H.grew hb.below;clear hb;go_wp2_with (first|refine sL ?_|(refine sS ?_;clear H;intros;rename_i H));refine zm (HPS.out _) ?_;rintro e wc ⟨rfl,hb⟩;replace H:=H.grew hb.below;clear hb;go_wp2_with (first|refine sL ?_|(refine sS ?_;clear H;intros;rename_i H)|(go_at_call 9;with_reducible refine zm (HNM.out _) ?_;rintro e wc ⟨rfl,rfl⟩)|(go_at_call 10;with_reducible refine zm (HZ.out _) ?_;rintro e wc ⟨rfl,hb⟩;replace H:=H.grew hb.below;clear hb));go_ret;exact ⟨rfl,H.nix⟩
 |inr r =>
  rw [hp] at HPT HPS;have HE:=zh (YB hp);have HNN:=zh num_nil;have HN9:=zh (num_ev 9);have HS0:=zh same_0;clear hp;go_enter QJ,Tryd.ntmps3;go_wp2_with (first|refine sL ?_|(refine sS ?_;clear H;intros;rename_i H)|(go_at_call 6;with_reducible refine zm (HAL.out _ (H.known (A:=deA) HK pk)) ?_;rintro e wc ⟨rfl,hb⟩;replace H:=H.grew hb.below;clear hb));refine zm (HPT.out _ (H.known (A:=deA) HK pk)) ?_;rintro e wc (⟨h1,rfl,hb⟩|⟨h1,h2,rfl,hb⟩|⟨h1,h2,m,vc,vn,va,P',h3,rfl,h4,hb⟩)
  ·exact absurd HE.out h1
  ·have HB:=zh h2;replace H:=H.grew hb.below;clear hb h1 h2;go_wp2_with (first|refine sL ?_|(refine sS ?_;clear H;intros;rename_i H));refine zm (HPS.out _) ?_;rintro e wc ⟨k,s0,s1,s2,s3,lo,hi,ad,n,c,P,rfl,hrx,hadr,hb⟩;replace H:=H.call0 hb;simp only [z7,z8] at H;have HOF:=zh (fun w h1 h2=>of1_c hrx (by have:=HLN.out;omega) w h1 h2);clear hb hrx hadr;go_wp2_with (first|refine sL ?_|(refine sS ?_;clear H;intros;rename_i H));refine zm (HOF.out _ (H.get pk) (H.known (A:=deA) HK pk)) ?_;rintro e wc (⟨h1,rfl,hb⟩|⟨h1,h2,rfl,hb⟩|⟨h1,h2,m,vc,vn,va,P',h3,rfl,h4,hb⟩)
   ·exact absurd HE.out h1
   ·replace H:=H.grew hb.below;clear hb h1 h2;go_wp2_with (first|refine sL ?_|(refine sS ?_;clear H;intros;rename_i H)|(go_at_call 9;with_reducible refine zm (HN9.out _) ?_;rintro e wc ⟨rfl,rfl⟩)|(go_at_call 12;with_reducible refine zm (HS0.out _) ?_;rintro e wc ⟨rfl,hb⟩;replace H:=H.grew hb.below;clear hb));go_ret;exact ⟨rfl,H.nix⟩
   ·exact absurd HB.out h2
  ·have HB:=zh (za h2 (za h3 h4));obtain ⟨xc,yc,rfl,_⟩:=h4.cls.shape;obtain ⟨xa,ya,rfl,_⟩:=h4.acc.shape;obtain ⟨rw9,hn9,hl9,hm9⟩:=id h4.nxt;obtain ⟨xn,yn,rfl,_⟩:=hn9.shape;replace H:=H.call0 hb;simp only [z7,z8] at H;clear hb h1 h2 h3 h4 hn9 hl9 hm9;go_wp2_with (first|refine sL ?_|(refine sS ?_;clear H;intros;rename_i H));refine zm (HPS.out _) ?_;rintro e wc ⟨k,s0,s1,s2,s3,lo,hi,ad,n,c,P,rfl,hrx,hadr,hb⟩;replace H:=H.call0 hb;simp only [z7,z8] at H;have HOF:=zh (fun w h1 h2=>of1_c hrx (by have:=HLN.out;omega) w h1 h2);clear hb hrx hadr;go_wp2_with (first|refine sL ?_|(refine sS ?_;clear H;intros;rename_i H));refine zm (HOF.out _ (H.get pk) (H.known (A:=deA) HK pk)) ?_;rintro e wc (⟨h1,rfl,hb⟩|⟨h1,h2,rfl,hb⟩|⟨h1,h2,m',vc,vn,va,P2,h3,rfl,h4,hb⟩)
   ·exact absurd HE.out h1
   ·exact absurd h2 HB.out.1
   ·have hmm:m'=m:=h3.uniq HB.out.2.1;subst hmm;obtain ⟨⟨n9,k9,hcan,hn256,hk256⟩,_⟩:=id h3;have HSM:=zh (fun w h=>same_x (P:=P'++P2) (HB.out.2.2.mono fun x hx=>q6 _ hx) (h4.mono fun x hx=>qx _ hx) hcan.ok hn256 hk256 w h);obtain ⟨xc,yc,rfl,_⟩:=h4.cls.shape;obtain ⟨xa,ya,rfl,_⟩:=h4.acc.shape;obtain ⟨rw9,hn9,hl9,hm9⟩:=id h4.nxt;obtain ⟨xn,yn,rfl,_⟩:=hn9.shape;replace H:=H.call0 hb;simp only [z7,z8] at H;clear hb h1 h2 h3 h4 hn9 hl9 hm9 hcan;go_wp2_with (first|refine sL ?_|(refine sS ?_;clear H;intros;rename_i H)|(go_at_call 9;with_reducible refine zm (HNN.out _) ?_;rintro e wc ⟨rfl,rfl⟩)|(go_at_call 12;with_reducible refine zm (HSM.out _ (xX (H.get (A:=zx P') pk) (H.get (A:=zx P2) pk))) ?_;rintro e wc ⟨rfl,hb⟩;replace H:=H.grew hb.below;clear hb));go_ret;exact ⟨rfl,H.nix⟩
end
end Go.Proofs.YtminpdngkjlehaaDoor
