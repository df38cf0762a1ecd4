/-
  Part 9 of the texts behind the statements of this seat: walks and laws Gk, Gl, Fa, Da, Db, Dc, Dd, Fb, De, Df, Dg, Fc, Fd, Fe, Ff, Gm, Gp, Gq, He, Ha, Hb, Dm, Dh, Ds, Dt, Hc, Hd, Hj, Hk. Conditions: as each states.
-/
import Derived.Test.YtgnppnokkdghcaaGreatDoorBd8
import Derived.Laws.Concat
import Derived.Laws.IdiomStrings
import Derived.Lib.BufferRead
set_option linter.unusedSimpArgs false
set_option linter.unusedVariables false
set_option maxRecDepth 100000
set_option maxHeartbeats 80000000
namespace Go.Proofs.YtgnppnokkdghcaaGreatDoor
section
open Go.RowKit Go.Maps
attribute [local go_sem] InGr
def Tr.txt:Tr->List Nat
 |.leaf b=>[b]
 |.pair l r=>l.txt++r.txt
 |.pow s k=>(List.replicate k s.txt).flatten
def Tr.cst:Tr->Nat
 |.leaf _=>1
 |.pair l r=>1+l.cst+r.cst
 |.pow s k=>1+k*s.cst
theorem Tr.txt_len:∀ t:Tr,t.txt.length=t.len
 |.leaf _=>rfl
 |.pair l r=>by simp [Tr.txt,Tr.len,Tr.txt_len l,Tr.txt_len r]
 |.pow s k=>by simp [Tr.txt,Tr.len,Tr.txt_len s,Nat.mul_comm]
def encCp (x:Nat×Nat):List Value:=[.int .i64 x.1,.int .i64 x.2]
theorem encCp_len (x:Nat×Nat):(encCp x).length=2:=rfl
theorem encCp_one (x:Nat×Nat):∀ u∈encCp x,u.oneCell'=true:=by
 intro u hu;simp [encCp] at hu;rcases hu with rfl|rfl <;> rfl
theorem encT_one (x:Nat):∀ u∈encT x,u.oneCell'=true:=by
 intro u hu;simp [encT] at hu;subst hu;rfl
def stkT (S:Sto):List (Nat×Nat)->List Nat
 |[]=>[]
 |q::r=>stkT S r++(List.replicate q.2 (S.tr q.1).txt).flatten
def stkC (S:Sto):List (Nat×Nat)->Nat
 |[]=>0
 |q::r=>stkC S r+q.2*(S.tr q.1).cst
theorem stkT_snoc (S:Sto):∀ (l:List (Nat×Nat)) (q:Nat×Nat),stkT S (l++[q])=(List.replicate q.2 (S.tr q.1).txt).flatten++stkT S l
 |[],q=>by simp [stkT]
 |a::l,q=>by simp [stkT,stkT_snoc S l q]
theorem stkC_snoc (S:Sto):∀ (l:List (Nat×Nat)) (q:Nat×Nat),stkC S (l++[q])=q.2*(S.tr q.1).cst+stkC S l
 |[],q=>by simp [stkC]
 |a::l,q=>by simp [stkC,stkC_snoc S l q];omega
def StkOk (S:Sto) (l:List (Nat×Nat)):Prop:=∀ q∈l,1<=q.1∧q.1<=S.list.length∧1<=q.2∧q.2<=maxT
theorem tr_pos {S:Sto} (hS:S.Ok) {i:Nat} (h1:1<=i) (h2:i<=S.list.length):1<=(S.tr i).len:=by
 obtain ⟨j,rfl⟩:∃ j,i=j+1:=⟨i-1,by omega⟩
 exact pow2_len (tr_len hS j _ (zg (by omega))).2
theorem stk_len {S:Sto} (hS:S.Ok):∀ {l:List (Nat×Nat)},StkOk S l->l.length<=(stkT S l).length
 |[],_=>Nat.zero_le _
 |q::r,h=>by
  have h1:=stk_len hS (l:=r) fun x hx=>h x (by simp [hx])
  have h2:=h q (by simp);have h3:=tr_pos hS h2.1 h2.2.1;have h4:((List.replicate q.2 (S.tr q.1).txt).flatten).length=q.2*(S.tr q.1).len:=(by simp [Tr.txt_len]);have h5:1*1<=q.2*(S.tr q.1).len:=Nat.mul_le_mul h2.2.2.1 h3;simp only [stkT,List.length_append,List.length_cons];omega
theorem snoc_cp (l:List (Nat×Nat)):l=[]∨∃ L k,l=L++[k]:=by
 rcases List.eq_nil_or_concat l with h|⟨L,k,h⟩
 ·exact .inl h
 ·exact .inr ⟨L,k,by simpa using h⟩
def popC (l:List (Nat×Nat)) (x k:Nat):List (Nat×Nat):=if k=0 then l else l++[(x,k)]
theorem popC_txt (S:Sto) (l:List (Nat×Nat)) (x k:Nat):stkT S (l++[(x,k+1)])=(S.tr x).txt++stkT S (popC l x k):=by
 unfold popC;rw [stkT_snoc];split
 ·rename_i h;subst h;simp
 ·rw [stkT_snoc,List.replicate_succ];simp
theorem popC_cst (S:Sto) (l:List (Nat×Nat)) (x k:Nat):stkC S (l++[(x,k+1)])=(S.tr x).cst+stkC S (popC l x k):=by
 unfold popC;rw [stkC_snoc];split
 ·rename_i h;subst h;simp
 ·rw [stkC_snoc];simp only [Nat.add_mul,Nat.one_mul];omega
theorem popC_ok {S:Sto} {l:List (Nat×Nat)} {x k:Nat} (h:StkOk S (l++[(x,k+1)])):StkOk S (popC l x k):=by
 unfold popC;split
 ·exact fun q hq=>h q (by simp [hq])
 ·rename_i hk;intro q hq;rcases List.mem_append.1 hq with hq|hq
  ·exact h q (by simp [hq])
  ·have:=h (x,k+1) (by simp);simp at hq;subst hq;simp only at this ⊢;omega
theorem AtSlice.litJ {t e:TypeId} {n:Nat} {ps:Array (Nat×Operand)} {ops:Array Oper} {Q:Exit->Act->World->Prop} {rest:List Oper} {a:Act} {w w0:World} {M:List Nat} {L:List As} {o1:Oper} (H:St w0 M L w) (hw:Region.wanted o1 (yielded ops a.tmps)=true) (ho:o1.op=.buildSlice t n ps) (hte:sliceO t=some e) {z:Value} {k bytes:Nat} {cs:Array Value} (hi:infoO e=some (z,k,bytes)) (hn:¬ n*k > 2 ^ 24) (hn0:¬ n*k=0)
  (hf:Instr.fill (fun i=>some (i*k,k)) ((Array.range (n*k)).map (z.cells[·%z.cells.size]!)) (ps.map fun (i,x)=>(i,a.eval x)).toList=some cs)
  (h:∀ b w',St w0 M (blk b (.cells cs e)::L) w'->wpList Tryz.prog ops Q rest (a.put o1.dst (.slice (some ⟨b,0,none⟩) n n)) w'):AtSlice Tryz.prog ops Q o1 t n ps rest a w :=
 wpList_step fun _ hK=>by
  rw [if_pos hw];obtain ⟨i,h2,h3,h4,h5⟩:=infoO_ok hi;have hr:=run_buildSlice (P:=Tryz.prog) w t e n (ps.map fun (i,x)=>(i,a.eval x)) cs i z (sliceO_ok hte) h2 h3 (by rw [h4];exact hn) (by rw [h4];exact hn0) (by rw [h4];exact hf);unfold Oper.wp execOp;simp only [ho,Sem.run_bind,hr,Result.andThen_ok,Sem.run_pure];exact hK _ _ (h _ _ (H.alloc _))
def SpelRel (S:Sto) (N:List Nat) (w:World) (bt:Nat) (full:List Nat) (n:Nat) (v:Value) (wr:World):Prop :=
 ∃ (st:List (Nat×Nat)) (txt:List Nat) (v1:Value),n=stkC S st∧(StkOk S st∧txt++stkT S st=full)∧St w N [rowsA encCp 234 2 v st,blk bt (.cells #[v1] 42),rowsA encT 5 1 v1 txt] wr
attribute [local go_sem] StStep stAt stUpon in
theorem spell_c {p m bt id:Nat} {lv v:Value} {S:Sto} {txt:List Nat} (hS:S.Ok) (h1:1<=id) (h2:id<=S.list.length) (hl:txt.length+(S.tr id).txt.length<=1048576) (w:World) (h:((blk bt (.cells #[v] 42)).sep (rowsA encT 5 1 v txt)).ho w) (hs:((((blk bt (.cells #[v] 42)).sep (rowsA encT 5 1 v txt))).sep (stoA p lv m S)).ho w) :
  Calls Tryz.prog 112 #[.pointer (some ⟨p,0,none⟩),.int .i64 (id:Nat),.pointer (some ⟨bt,0,none⟩)] w fun e w'=>∃ v':Value,e=.returned .nilIface∧St w ((blk bt (.cells #[v] 42)).sep (rowsA encT 5 1 v txt)).fp [blk bt (.cells #[v'] 42),rowsA encT 5 1 v' (txt++(S.tr id).txt)] w':=by
 have H:=(St.one h).sep;rw [sep_ho] at hs;have HK:Ks w ((blk bt (.cells #[v] 42)).sep (rowsA encT 5 1 v txt)).fp [stoA p lv m S]:=⟨by simpa using hs.2.1,by simpa using fun b hb hm=>hs.2.2 b hm hb⟩
 generalize ((blk bt (.cells #[v] 42)).sep (rowsA encT 5 1 v txt)).fp=N at H HK ⊢;obtain ⟨full,hfull⟩:∃ l,txt++(S.tr id).txt=l:=⟨_,rfl⟩
 have hfl:full.length<=1048576:=(by rw [← hfull,List.length_append];exact hl);rw [hfull];have HIN:Hid (S.Ok∧1<=id∧id<=S.list.length∧txt++(S.tr id).txt=full):=zh ⟨hS,h1,h2,hfull⟩;clear hS h1 h2 hl h hs hfull;go_enter Tryz.func112,Tryz.ntmps112;go_wp2_with (first|refine sL ?_|(refine sS ?_;clear H;intros;rename_i H)|((with_reducible refine isSlice ?_);refine AtSlice.one H rfl rfl rfl rfl rfl rfl rfl rfl rfl ?_;clear H;intro b9 _ H;simp only [Act.put,puA,puB,puC]));replace H:=H.conv (A':=rowsA encCp 234 2 (.slice (some ⟨b9,0,none⟩) 1 1) [(id,1)]) (by rw [rowsA_fp',blk_fp];rfl) fun hb=>rowsA_of_blk (xs:=[(id,1)]) (by rw [blk_ho] at hb;exact hb) (by simp [maxLen]) (by simp [flatG,encCp]) encCp_len
 go_loopg [7] (stkC S [(id,1)]) (fun n v7 wr=>SpelRel S N w bt full n v7 wr);case atStart=>exact ⟨[(id,1)],txt,v,rfl,⟨by intro q hq;simp at hq;subst hq;have:=HIN.out;simp only;unfold maxT;omega,by rw [← HIN.out.2.2.2];simp [stkT]⟩,H⟩
 case round =>
  clear H;obtain ⟨st,txt1,v1,rfl,hrel,H⟩:=hrel;obtain ⟨ad2,c2,rfl,_⟩:=rowsA_shape (H.get (A:=rowsA encCp 234 2 _ st) pk);have hsb:st.length<=1048576:=by
   have e1:=stk_len HIN.out.1 hrel.1;have e2:=congrArg List.length hrel.2;rw [List.length_append] at e2;omega
  rcases snoc_cp st with h0|⟨st0,⟨x,kk⟩,h0⟩
  ·subst h0;have hfe:txt1=full:=(by simpa [stkT] using hrel.2);subst hfe;clear hrel;simp only [List.length_nil] at H ⊢;go_wp2_with (first|refine sL ?_|(refine sS ?_;clear H;intros;rename_i H));go_ret;exact ⟨v1,rfl,H.picks (.cons pk (.cons pk .nil))⟩
  ·subst h0;have hq:=hrel.1 (x,kk) (by simp);simp only at hq;obtain ⟨k,rfl⟩:∃ k,kk=k+1:=⟨kk-1,by omega⟩
   have HR:Hid (StkOk S (popC st0 x k)∧txt1++((S.tr x).txt++stkT S (popC st0 x k))=full∧stkC S (st0++[(x,k+1)])=(S.tr x).cst+stkC S (popC st0 x k)):=zh ⟨popC_ok hrel.1,by rw [← popC_txt];exact hrel.2,popC_cst S st0 x k⟩;obtain ⟨k1,hk1⟩:∃ n,st0.length=n:=⟨_,rfl⟩
   obtain ⟨n2,hn2⟩:∃ n,k1+1=n:=⟨_,rfl⟩
   have hl2:(st0++[(x,k+1)]).length=n2:=(by simp [hk1];omega);rw [hl2] at H hsb ⊢;obtain ⟨g,c9,e9,hc9,hm9⟩:=rowsA_cases (H.get (A:=rowsA encCp 234 2 (.slice ad2 n2 c2) (st0++[(x,k+1)])) pk) (by simp);injection e9 with e9 e10 e11
   subst e11;clear e10;subst e9;rw [hl2] at hc9;unfold maxLen at hm9;have d0:decide ((0:Int)<(n2:Int))=true:=(by simp;omega);have d0n:decide (0<n2)=true:=(by simp;omega);have i5:k1<=c2:=(by omega);have hki:(st0++[(x,k+1)])[k1]?=some (x,k+1):=(by rw [← hk1];simp);have HO0:Hid (∀ w,(rowsA encCp 234 2 (.slice (some ⟨g,0,none⟩) n2 c2) (st0++[(x,k+1)])).ho w->w.cell? ⟨g,k1*2,none⟩=some (.int .i64 (x:Nat))):=zh fun w h=>rowsA_cell h encCp_len hki (j:=0) rfl
   have HO1:Hid (∀ w,(rowsA encCp 234 2 (.slice (some ⟨g,0,none⟩) n2 c2) (st0++[(x,k+1)])).ho w->w.cell? ⟨g,k1*2+1,none⟩=some (.int .i64 ((k:Int)+1))):=zh fun w h=>rowsA_cell h encCp_len hki (j:=1) rfl
   have hset:(st0++[(x,k+1)]).set k1 (x,k)=st0++[(x,k)]:=(by rw [← hk1];simp);have hkj:(st0++[(x,k)])[k1]?=some (x,k):=(by rw [← hk1];simp);have HP2:Hid (Hid (∀ w,(rowsA encCp 234 2 (.slice (some ⟨g,0,none⟩) n2 c2) (st0++[(x,k)])).ho w->w.cell? ⟨g,k1*2+1,none⟩=some (.int .i64 (k:Nat)))):=zh (zh fun w h=>rowsA_cell h encCp_len hkj (j:=1) rfl);have HKI:=zh hki;have HSET:=zh hset;have HLN:=zh (za hk1 hn2);have i8:(n2:Int)-1=(k1:Int):=(by omega);have i7:k1<n2:=(by omega);have hkb:k<=1152921504606846976:=(by unfold maxT at hq;omega);have HX:=zh hq;obtain ⟨j,hxj⟩:∃ j,j+1=x:=⟨x-1,by omega⟩
   obtain ⟨en,hen⟩:∃ a,S.list[j]?=some a:=⟨_,zg (by omega)⟩
   have HEN:=zh (rule_of HIN.out.1 hen);have HRU:Hid (∀ w,(stoA p lv m S).ho w->Calls Tryz.prog 68 #[.pointer (some ⟨p,0,none⟩),.int .i64 (x:Nat)] w fun e w'=>e=.returned (.tuple #[.agg (ruleL en.r).toArray,.nilIface])∧St w [] [] w'):=zh fun w h=>rule_c hen (x:Int) (by omega) w h
   have HXJ:=zh hxj;clear hrel hki hset hkj hl2 hk1 hn2 hq hen hxj;go_wp2_with (first|refine sL ?_|(refine sS ?_;clear H;intros;rename_i H)|((with_reducible refine isStore ?_);refine AtStore.rowAk (enc:=encCp) H rfl rfl rfl rfl rfl rfl (xs:=st0++[(x,k+1)]) pk encCp_len HKI.out (j:=1) (by decide) rfl (x,k) rfl ?_;clear H HO0 HO1;intro _ H;rw [HSET.out] at H;have HO2:=HP2.out;simp only [Act.put,puA,puB,puC]))
   focus
    have hk0:((k:Int)==0)=true:=(by assumption);have hk1:k=0:=(by simpa using hk0);have hp:popC st0 x k=st0:=(by simp [popC,hk1]);rw [← HLN.out.2] at H;replace H:=(H.pick (A:=rowsA encCp 234 2 (.slice (some ⟨g,0,none⟩) (k1+1) c2) (st0++[(x,k)])) pk).cut encCp_len HLN.out.1;rw [← hp] at H;have HLE:Hid ((popC st0 x k).length=k1):=zh (by rw [hp];exact HLN.out.1);clear hk0 hk1 hp;generalize k1=nn at *
   rotate_left
   focus
    have hk0:((k:Int)==0)=false:=(by assumption);have hk1:¬ k=0:=(by simpa using hk0);have hp:popC st0 x k=st0++[(x,k)]:=(by simp [popC,hk1]);rw [← hp] at H;have HLE:Hid ((popC st0 x k).length=n2):=zh (by rw [hp];have:=HLN.out;simp;omega);clear hk0 hk1 hp;generalize n2=nn at *
   all_goals
    have hb5:txt1.length<=1048575∧(popC st0 x k).length<=1048576:=by
     have h1:=HR.out;have h2:=congrArg List.length h1.2.1;have h3:=stk_len HIN.out.1 h1.1;have h4:=tr_pos HIN.out.1 HX.out.1 HX.out.2.1;rw [List.length_append,List.length_append,Tr.txt_len] at h2;omega
    obtain ⟨hb6,hb7⟩:=hb5;have HEN2:=HEN.out;rcases HEN2 with ⟨b,hb9,hr,hw,ht⟩|⟨l,r,y,z,hl9,hr9,hy,hz,hr,hw,hs9,ht⟩|⟨l,t,y,hl9,hy,ht2,hr,hw,hs9,ht⟩
    ·have hlit:(ruleL en.r).toArray=#[.int .i64 1,.int .u8 (b:Nat),.int .i64 0,.int .i64 0,.int .i64 0]:=(by rw [hr];rfl);rw [hlit] at HRU;rw [HXJ.out] at ht;have HT:=zh ht;clear hlit hr hw ht hb9;go_wp2_with (first|refine sL ?_|(refine sS ?_;clear H;intros;rename_i H)|(go_at_call 68;with_reducible refine zm (HRU.out _ (H.known HK pk)) ?_;rintro e9 wc ⟨rfl,hb⟩;replace H:=H.grew hb.below;clear hb));rename_i br _ _;replace H:St w N [rowsA encT 5 1 v1 txt1,blk bt (.cells #[v1] 42),blk br (.cells #[.int .i64 1,.int .u8 (b:Nat),.int .i64 0,.int .i64 0,.int .i64 0] 131),rowsA encCp 234 2 (.slice (some ⟨g,0,none⟩) nn c2) (popC st0 x k)] _:=H.picks (.cons pk (.cons pk (.cons pk (.cons pk .nil))));refine wp_region_sgx 9 [⟨[],fun v _=>v=.pointer (some ⟨bt,0,none⟩)⟩,⟨[],fun v _=>v=.pointer (some ⟨bt,0,none⟩)⟩,⟨[1],fun v _=>v=.pointer (some ⟨bt,0,none⟩)⟩,⟨[2],fun v _=>v=v1⟩,⟨[],fun v _=>v=.pointer (some ⟨br,1,none⟩)⟩,⟨[4],fun v _=>v=.int .u8 (b:Nat)⟩,⟨[5],fun v _=>∃ bn:Nat,v=.slice (some ⟨bn,0,none⟩) 1 1⟩,⟨[3,6],fun _ _=>True⟩,⟨[0],fun v _=>v=.pointer (some ⟨bt,0,none⟩)⟩] [6,7] [[0,1,2],[0,1],[0,1],[0,1],[0],[0],[0],[1],[2]] [fun _ wx=>St w N [rowsA encT 5 1 v1 txt1,blk bt (.cells #[v1] 42),blk br (.cells #[.int .i64 1,.int .u8 (b:Nat),.int .i64 0,.int .i64 0,.int .i64 0] 131),rowsA encCp 234 2 (.slice (some ⟨g,0,none⟩) nn c2) (popC st0 x k)] wx,fun vals wx=>∃ bn:Nat,vals 6=.slice (some ⟨bn,0,none⟩) 1 1∧St w N [rowsA encT 5 1 v1 txt1,rowsA encT 5 1 (.slice (some ⟨bn,0,none⟩) 1 1) [b],blk bt (.cells #[v1] 42),blk br (.cells #[.int .i64 1,.int .u8 (b:Nat),.int .i64 0,.int .i64 0,.int .i64 0] 131),rowsA encCp 234 2 (.slice (some ⟨g,0,none⟩) nn c2) (popC st0 x k)] wx,fun vals wx=>∃ (ad9:Option Addr) (cp9:Nat),vals 7=.slice ad9 (txt1.length+1) cp9∧St w N [rowsA encT 5 1 (.slice ad9 (txt1.length+1) cp9) (txt1++[b]),blk bt (.cells #[v1] 42),blk br (.cells #[.int .i64 1,.int .u8 (b:Nat),.int .i64 0,.int .i64 0,.int .i64 0] 131),rowsA encCp 234 2 (.slice (some ⟨g,0,none⟩) nn c2) (popC st0 x k)] wx]
      [[],[],[(1,66)],[(2,67)],[],[(4,69)],[(5,70)],[(3,68),(6,71)],[(0,65)]] [(0,65),(1,66),(2,67),(3,68),(4,69),(5,70),(6,71),(7,72),(8,73)] (by kernel_rfl) (by kernel_rfl) H.drew ⟨⟨qo,qo,qo,trivial⟩,⟨qo,qo,trivial⟩,⟨qo,qo,trivial⟩,⟨ql,ql,trivial⟩,⟨qo,trivial⟩,⟨ql,trivial⟩,⟨?_,trivial⟩,⟨?_,trivial⟩,⟨qo,trivial⟩,trivial⟩ ?_
     ·intro vals wx hd HC;simp only [GF] at hd;have H:=HC;simp only [CA] at H;simp only [PS,hd];clear HC;refine StStep.slice1 (enc:=encT) H rfl rfl rfl rfl rfl rfl rfl rfl rfl b rfl encT_len ?_;intro bn wz H;exact ⟨⟨bn,rfl⟩,bn,rfl,H.picks (.cons pk (.cons pk (.cons pk (.cons pk (.cons pk .nil)))))⟩
     ·intro vals wx hd HC;simp only [GF] at hd;have H:=HC;simp only [CA] at H;obtain ⟨bn,hv,H⟩:=H;simp only [PS,hd,hv];refine StStep.append (enc:=encT) rfl rfl rfl rfl rfl (by decide) (by decide) rfl rfl H (H.get (A:=rowsA encT 5 1 (.slice (some ⟨bn,0,none⟩) 1 1) [b]) pk) encT_len encT_one (by simp;omega) ?_;intro v' wz H;obtain ⟨ad9,cp9,e9,_⟩:=rowsA_shape (H.get (A:=rowsA encT 5 1 v' (txt1++[b])) pk);simp only [List.length_append,List.length_cons,List.length_nil,Nat.zero_add] at e9;subst e9;exact ⟨trivial,ad9,cp9,rfl,H.picks (.cons pk (.cons pk (.cons pk (.cons pk .nil))))⟩
     intro vals wx hd HC;have h6:=hd.2.2.2.2.2.2.1;simp only [CA] at HC;obtain ⟨ad9,cp9,hv,H⟩:=HC;simp only [GF] at hd;simp only [PS,hd,hv];clear hd;go_wp2_with (first|refine sL ?_|(refine sS ?_;clear H;intros;rename_i H)|((with_reducible refine isAppend ?_);refine AtAppend.go (enc:=encT) H rfl rfl rfl rfl rfl (by decide) (by decide) rfl (xs:=txt1) pk rfl (H.at pk) [b] rfl (by simp [flatG,encT]) encT_len encT_one (by simp;omega) ?_;clear H;intro ad9 cp9 _ H;simp only [Act.put,puA,puB,puC]));go_roundg (stkC S (popC st0 x k));case measure=>have h1:=HR.out.2.2;rw [HT.out] at h1;simp only [Tr.cst] at h1;omega
     case rel =>
      have h1:=HR.out;rw [HT.out] at h1;exact ⟨popC st0 x k,txt1++[b],_,rfl,⟨h1.1,by rw [List.append_assoc];exact h1.2.1⟩,H.picks (.cons pk (.cons pk (.cons pk .nil)))⟩
    ·obtain ⟨l1,hl1⟩:∃ a,l+1=a:=⟨_,rfl⟩
     obtain ⟨r1,hr1⟩:∃ a,r+1=a:=⟨_,rfl⟩
     rw [hl1,hr1] at hr ht;have hlit:(ruleL en.r).toArray=#[.int .i64 2,.int .u8 0,.int .i64 (l1:Nat),.int .i64 (r1:Nat),.int .i64 0]:=(by rw [hr];rfl);rw [hlit] at HRU;rw [HXJ.out] at ht;have HT:=zh ht;have HLR:Hid (1<=l1∧l1<=S.list.length∧1<=r1∧r1<=S.list.length):=zh (by have h1:=HX.out;have h2:=HXJ.out;omega);clear hlit hr hw ht hl9 hr9 hy hz hs9 hl1 hr1;go_wp2_with (first|refine sL ?_|(refine sS ?_;clear H;intros;rename_i H)|(go_at_call 68;with_reducible refine zm (HRU.out _ (H.known HK pk)) ?_;rintro e9 wc ⟨rfl,hb⟩;replace H:=H.grew hb.below;clear hb)|((with_reducible refine isSlice ?_);refine AtSlice.litJ H rfl rfl rfl (cs:=#[.int .i64 (r1:Nat),.int .i64 1,.int .i64 (l1:Nat),.int .i64 1]) rfl (by decide) (by decide) (by kernel_rfl) ?_;clear H;intro b8 _ H;simp only [Act.put,puA,puB,puC])|((with_reducible refine isAppend ?_);refine AtAppend.go (enc:=encCp) H rfl rfl rfl rfl rfl (by decide) (by decide) rfl (xs:=popC st0 x k) pk rfl (H.at pk) [(r1,1),(l1,1)] rfl (by simp [flatG,encCp]) encCp_len encCp_one (by simp;omega) ?_;clear H;intro ad9 cp9 _ H;simp only [Act.put,puA,puB,puC]));go_roundg (stkC S (popC st0 x k++[(r1,1),(l1,1)]));case measure =>
      have h1:=HR.out.2.2;rw [HT.out] at h1;rw [show popC st0 x k++[(r1,1),(l1,1)]=(popC st0 x k++[(r1,1)])++[(l1,1)] by simp,stkC_snoc,stkC_snoc];simp only [Tr.cst,Nat.one_mul] at h1 ⊢;omega
     case rel =>
      have h1:=HR.out;have h2:=HLR.out;rw [HT.out] at h1;refine ⟨popC st0 x k++[(r1,1),(l1,1)],txt1,v1,rfl,⟨fun q hq=>?_,?_⟩,H.picks (.cons pk (.cons pk (.cons pk .nil)))⟩
      ·rcases List.mem_append.1 hq with hq|hq
       ·exact h1.1 q hq
       ·simp at hq;unfold maxT;rcases hq with rfl|rfl <;> simp only <;> omega
      ·rw [show popC st0 x k++[(r1,1),(l1,1)]=(popC st0 x k++[(r1,1)])++[(l1,1)] by simp,stkT_snoc,stkT_snoc];have h3:=h1.2.1;simpa [Tr.txt] using h3
    ·obtain ⟨l1,hl1⟩:∃ a,l+1=a:=⟨_,rfl⟩
     have htb:t<=maxT:=by
      have h1:=tr_len HIN.out.1 l y hy;have h2:=pow2_len h1.2;have h3:1*t<=y.w.len*t:=Nat.mul_le_mul_right t (by omega);omega
     rw [hl1] at hr ht;have hlit:(ruleL en.r).toArray=#[.int .i64 3,.int .u8 0,.int .i64 (l1:Nat),.int .i64 0,.int .i64 (t:Nat)]:=(by rw [hr];rfl);rw [hlit] at HRU;rw [HXJ.out] at ht;have HT:=zh ht;have HLR:Hid (1<=l1∧l1<=S.list.length∧1<=t∧t<=maxT):=zh (by have h1:=HX.out;have h2:=HXJ.out;omega);clear hlit hr hw ht hl9 hy hs9 hl1 htb ht2;go_wp2_with (first|refine sL ?_|(refine sS ?_;clear H;intros;rename_i H)|(go_at_call 68;with_reducible refine zm (HRU.out _ (H.known HK pk)) ?_;rintro e9 wc ⟨rfl,hb⟩;replace H:=H.grew hb.below;clear hb)|((with_reducible refine isSlice ?_);refine AtSlice.one H rfl rfl rfl rfl rfl rfl rfl rfl rfl ?_;clear H;intro b8 _ H;simp only [Act.put,puA,puB,puC])|((with_reducible refine isAppend ?_);refine AtAppend.go (enc:=encCp) H rfl rfl rfl rfl rfl (by decide) (by decide) rfl (xs:=popC st0 x k) pk rfl (H.at pk) [(l1,t)] rfl (by simp [flatG,encCp]) encCp_len encCp_one (by simp;omega) ?_;clear H;intro ad9 cp9 _ H;simp only [Act.put,puA,puB,puC]));go_roundg (stkC S (popC st0 x k++[(l1,t)]));case measure =>
      have h1:=HR.out.2.2;rw [HT.out] at h1;rw [stkC_snoc];simp only [Tr.cst] at h1 ⊢;omega
     case rel =>
      have h1:=HR.out;have h2:=HLR.out;rw [HT.out] at h1;refine ⟨popC st0 x k++[(l1,t)],txt1,v1,rfl,⟨fun q hq=>?_,?_⟩,H.picks (.cons pk (.cons pk (.cons pk .nil)))⟩
      ·rcases List.mem_append.1 hq with hq|hq
       ·exact h1.1 q hq
       ·simp at hq;subst hq;exact h2
      ·rw [stkT_snoc];have h3:=h1.2.1;simpa [Tr.txt] using h3
end
section
open Go.RowKit Go.Maps
attribute [local go_sem] InGr
theorem ex1_c {p m bt bs id:Nat} {lv v:Value} {S:Sto} {txt:List Nat} (hS:S.Ok) (h1:1<=id) (h2:id<=S.list.length) (hl:txt.length+(S.tr id).txt.length<=1048576) (w:World) (h:((blk bt (.cells #[v] 42)).sep (rowsA encT 5 1 v txt)).ho w) (hs:(((blk bt (.cells #[v] 42)).sep (rowsA encT 5 1 v txt)).sep (stoA p lv m S)).ho w) (hb:(((blk bt (.cells #[v] 42)).sep (rowsA encT 5 1 v txt)).sep (blk bs (.cells #[.pointer (some ⟨p,0,none⟩)] 59))).ho w) :
  Calls Tryz.prog 111 #[.int .i64 (id:Nat),.int .i64 1,.pointer (some ⟨bt,0,none⟩),.pointer (some ⟨bs,0,none⟩)] w fun e w'=>∃ v':Value,e=.returned .nilIface∧St w ((blk bt (.cells #[v] 42)).sep (rowsA encT 5 1 v txt)).fp [blk bt (.cells #[v'] 42),rowsA encT 5 1 v' (txt++(S.tr id).txt)] w':=by
 have H:=(St.one h).sep;rw [sep_ho] at hs hb;have HK:Ks w ((blk bt (.cells #[v] 42)).sep (rowsA encT 5 1 v txt)).fp [stoA p lv m S,blk bs (.cells #[.pointer (some ⟨p,0,none⟩)] 59)]:=⟨fun A hA=>by
   simp at hA;rcases hA with rfl|rfl
   ·exact hs.2.1
   ·exact hb.2.1,fun A hA b hbA hm=>by
   simp at hA;rcases hA with rfl|rfl
   ·exact hs.2.2 b hm hbA
   ·exact hb.2.2 b hm hbA⟩
 have HSP:Hid (∀ w,((blk bt (.cells #[v] 42)).sep (rowsA encT 5 1 v txt)).ho w->(((blk bt (.cells #[v] 42)).sep (rowsA encT 5 1 v txt)).sep (stoA p lv m S)).ho w->Calls Tryz.prog 112 #[.pointer (some ⟨p,0,none⟩),.int .i64 (id:Nat),.pointer (some ⟨bt,0,none⟩)] w fun e w'=>∃ v':Value,e=.returned .nilIface∧St w ((blk bt (.cells #[v] 42)).sep (rowsA encT 5 1 v txt)).fp [blk bt (.cells #[v'] 42),rowsA encT 5 1 v' (txt++(S.tr id).txt)] w'):=zh fun w h hs=>spell_c hS h1 h2 hl w h hs
 generalize ((blk bt (.cells #[v] 42)).sep (rowsA encT 5 1 v txt)).fp=N at H HK ⊢;obtain ⟨tl,htl⟩:∃ k,txt.length=k:=⟨_,rfl⟩
 obtain ⟨ad,c,rfl,hmx⟩:=rowsA_shape (H.get (A:=rowsA encT 5 1 v txt) pk);rw [htl] at H hl hmx HSP;have HL:Hid (txt.length=tl∧tl+(S.tr id).txt.length<=1048576):=zh ⟨htl,hl⟩;clear hS h1 h2 hl h hs hb htl;go_enter Tryz.func111,Tryz.ntmps111;go_wp2_with (first|refine sL ?_|(refine sS ?_;clear H;intros;rename_i H));with_reducible refine zm (HSP.out _ (St.ho (H.pick2 (A:=blk bt (.cells #[.slice ad tl c] 42)) (B:=rowsA encT 5 1 (.slice ad tl c) txt) pk pk).join _ List.mem_cons_self) ((H.pick2 (A:=blk bt (.cells #[.slice ad tl c] 42)) (B:=rowsA encT 5 1 (.slice ad tl c) txt) pk pk).join.sepK HK .here pk)) ?_
 rintro e9 wc ⟨v2,rfl,hb⟩;replace H:=(H.pick2 (A:=blk bt (.cells #[.slice ad tl c] 42)) (B:=rowsA encT 5 1 (.slice ad tl c) txt) pk pk).join.call hb;clear hb HSP;simp only [List.cons_append,List.nil_append] at H;obtain ⟨ad2,c2,rfl,hmx2⟩:=rowsA_shape (H.get (A:=rowsA encT 5 1 v2 (txt++(S.tr id).txt)) pk);obtain ⟨n2,hn2⟩:∃ k,(txt++(S.tr id).txt).length=k:=⟨_,rfl⟩
 rw [hn2] at H hmx2;have hn3:tl<=n2:=(by rw [← hn2,List.length_append,HL.out.1];omega);clear hn2 hmx;go_wp2_with (first|refine sL ?_|(refine sS ?_;clear H;intros;rename_i H));all_goals
  go_loopg [23] 0 (fun _ v wr=>v=.int .i64 0∧St w N [blk bt (.cells #[.slice ad2 n2 c2] 42),rowsA encT 5 1 (.slice ad2 n2 c2) (txt++(S.tr id).txt)] wr);case atStart=>exact ⟨rfl,H⟩
  case round =>
   clear H;obtain ⟨rfl,H⟩:=hrel;go_wp2_with (first|refine sL ?_|(refine sS ?_;clear H;intros;rename_i H));go_ret;exact ⟨_,rfl,H⟩
def PtRel (w:World) (N:List Nat) (b9 bt id n:Nat) (v:Value) (txt res:List Nat) (k:Nat) (v11:Value) (wr:World):Prop :=
 (k=1∧v11=.slice (some ⟨b9,0,none⟩) 1 1∧St w N [blk b9 (.cells #[.int .i64 (id:Nat),.int .i64 0,.int .i64 (n:Nat),.int .i64 1] 230),blk bt (.cells #[v] 42),rowsA encT 5 1 v txt] wr)∨(k=0∧v11=.slice (some ⟨b9,0,none⟩) 0 1∧∃ v':Value,St w N [blk bt (.cells #[v'] 42),rowsA encT 5 1 v' res] wr)
theorem parts_c {p m bt bs id n:Nat} {lv v:Value} {S:Sto} {txt res:List Nat} (hS:S.Ok) (hc:(n=0∧res=txt)∨(1<=id∧id<=S.list.length∧n=(S.tr id).len∧res=txt++(S.tr id).txt)) (hnb:n<=65536) (htb:txt.length<=65536) (w:World) (h:((blk bt (.cells #[v] 42)).sep (rowsA encT 5 1 v txt)).ho w) (hs:(((blk bt (.cells #[v] 42)).sep (rowsA encT 5 1 v txt)).sep (stoA p lv m S)).ho w) (hb:(((blk bt (.cells #[v] 42)).sep (rowsA encT 5 1 v txt)).sep (blk bs (.cells #[.pointer (some ⟨p,0,none⟩)] 59))).ho w) :
  Calls Tryz.prog 110 #[.pointer (some ⟨p,0,none⟩),.int .i64 (id:Nat),.int .i64 0,.int .i64 (n:Nat),.func (.func 111) #[] #[.pointer (some ⟨bt,0,none⟩),.pointer (some ⟨bs,0,none⟩)]] w fun e w'=>∃ v':Value,e=.returned .nilIface∧St w ((blk bt (.cells #[v] 42)).sep (rowsA encT 5 1 v txt)).fp [blk bt (.cells #[v'] 42),rowsA encT 5 1 v' res] w':=by
 have H:=(St.one h).sep;have hs9:=hs;have hb9:=hb;rw [sep_ho] at hs hb;have HK:Ks w ((blk bt (.cells #[v] 42)).sep (rowsA encT 5 1 v txt)).fp [stoA p lv m S,blk bs (.cells #[.pointer (some ⟨p,0,none⟩)] 59)]:=⟨fun A hA=>by
   simp at hA;rcases hA with rfl|rfl
   ·exact hs.2.1
   ·exact hb.2.1,fun A hA b hbA hm=>by
   simp at hA;rcases hA with rfl|rfl
   ·exact hs.2.2 b hm hbA
   ·exact hb.2.2 b hm hbA⟩
 have HV:Hid (1<=id->id<=S.list.length->n=(S.tr id).len->res=txt++(S.tr id).txt->∀ w,((blk bt (.cells #[v] 42)).sep (rowsA encT 5 1 v txt)).ho w->(((blk bt (.cells #[v] 42)).sep (rowsA encT 5 1 v txt)).sep (stoA p lv m S)).ho w->(((blk bt (.cells #[v] 42)).sep (rowsA encT 5 1 v txt)).sep (blk bs (.cells #[.pointer (some ⟨p,0,none⟩)] 59))).ho w->Calls Tryz.prog 111 #[.int .i64 (id:Nat),.int .i64 1,.pointer (some ⟨bt,0,none⟩),.pointer (some ⟨bs,0,none⟩)] w fun e w'=>∃ v':Value,e=.returned .nilIface∧St w ((blk bt (.cells #[v] 42)).sep (rowsA encT 5 1 v txt)).fp [blk bt (.cells #[v'] 42),rowsA encT 5 1 v' res] w'):=zh fun h1 h2 h3 h4 w h hs hb=>by
  have:=ex1_c (v:=v) (txt:=txt) hS h1 h2 (by rw [Tr.txt_len];omega) w h hs hb;rwa [← h4] at this
 generalize hN:((blk bt (.cells #[v] 42)).sep (rowsA encT 5 1 v txt)).fp=N at H HK ⊢;have HC:=zh hc;have HS:=zh hS;clear hS h hs hb hs9 hb9 hc htb;go_enter Tryz.func110,Tryz.ntmps110;go_wp2_with (first|refine sL ?_|(refine sS ?_;clear H;intros;rename_i H)|((with_reducible refine isSlice ?_);refine AtSlice.one H rfl rfl rfl rfl rfl rfl rfl rfl rfl ?_;clear H;intro b9 _ H;simp only [Act.put,puA,puB,puC]));go_loopg [11] 1 (fun k v11 wr=>PtRel w N b9 bt id n v txt res k v11 wr);case atStart=>exact .inl ⟨rfl,rfl,H⟩
 case round =>
  clear H;rcases hrel with ⟨rfl,rfl,H⟩|⟨rfl,rfl,v2,H⟩
  ·rcases HC.out with ⟨h0,hr⟩|⟨h1,h2,h3,hr⟩
   ·subst h0;have e0:(((0:Nat):Int)==0)=true:=(by simp);go_wp2_with (first|refine sL ?_|(refine sS ?_;clear H;intros;rename_i H));go_roundg 0;case measure=>omega
    case rel=>exact .inr ⟨rfl,rfl,v,by rw [hr];exact H.picks (.cons pk (.cons pk .nil))⟩
   ·obtain ⟨j,hj⟩:∃ j,id=j+1:=⟨id-1,by omega⟩
    obtain ⟨en,hen⟩:∃ a,S.list[j]?=some a:=⟨_,zg (by omega)⟩
    have hln:=tr_len HS.out j en hen;rw [← hj,← h3] at hln;have hn1:=pow2_len (t:=S.tr id) (by rw [hj];exact (tr_len HS.out j en hen).2);have hW:Hid (∀ w,(stoA p lv m S).ho w->Calls Tryz.prog 40 #[.pointer (some ⟨p,0,none⟩),.int .i64 (id:Nat)] w fun e w'=>e=.returned (.tuple #[.agg #[.int .i64 (n:Nat),.int .i64 en.w.lines,.int .i64 en.w.head,.int .i64 en.w.tail,.int .u64 en.w.val,.int .u64 en.w.scale],.nilIface])∧St w [] [] w'):=zh fun w h=>by
     have:=weight_c (i:=id) (x:=en) (by rw [hj];exact hen) w h;rw [hln.1];exact this
    have HVV:=zh (HV.out h1 h2 h3 hr);have e0:((n:Int)==0)=false:=(by simp;omega);have HNN:=zh hN;clear h1 h2 h3 hr hj hen hln hn1 HV;go_wp2_with (first|refine sL ?_|(refine sS ?_;clear H;intros;rename_i H)|(go_at_call 40;with_reducible refine zm (hW.out _ (H.known HK pk)) ?_;rintro e9 wc ⟨rfl,hb⟩;replace H:=H.grew hb.below;clear hb));with_reducible refine zm (HVV.out _ (St.ho (H.pick2 (A:=blk bt (.cells #[v] 42)) (B:=rowsA encT 5 1 v txt) pk pk).join _ List.mem_cons_self) ((H.pick2 (A:=blk bt (.cells #[v] 42)) (B:=rowsA encT 5 1 v txt) pk pk).join.sepK HK .here (B:=stoA p lv m S) pk) ((H.pick2 (A:=blk bt (.cells #[v] 42)) (B:=rowsA encT 5 1 v txt) pk pk).join.sepK HK .here (B:=blk bs (.cells #[.pointer (some ⟨p,0,none⟩)] 59)) pk)) ?_
    rintro e9 wc ⟨v2,rfl,hb⟩;replace H:=(H.pick2 (A:=blk bt (.cells #[v] 42)) (B:=rowsA encT 5 1 v txt) pk pk).join.call hb;clear hb HVV;simp only [List.cons_append,List.nil_append] at H;go_wp2_with (first|refine sL ?_|(refine sS ?_;clear H;intros;rename_i H));go_roundg 0;case measure=>omega
    case rel=>exact .inr ⟨rfl,rfl,v2,H.picks (.cons pk (.cons pk .nil))⟩
  ·go_wp2_with (first|refine sL ?_|(refine sS ?_;clear H;intros;rename_i H));go_ret;exact ⟨v2,rfl,H⟩
section
variable {ops:Array Oper} {Q:Exit->Act->World->Prop} {rest:List Oper} {a:Act} {w w0:World} {M:List Nat} {L R:List As} {o1:Oper} {dst:Option Tmp} {ty0:TypeId} {pos:String} {aft:Array Edge} {gd:Option (Nat×Bool)}
def AtMkRoom (P:Program) (ops:Array Oper) (Q:Exit->Act->World->Prop) (o:Oper) (_:TypeId) (_ _:Operand) (rest:List Oper) (a:Act) (w:World):Prop:=wpList P ops Q (o::rest) a w
theorem isMkRoom {P:Program} {t:TypeId} {x y:Operand} (h:AtMkRoom P ops Q ⟨dst,.makeSlice t x y,ty0,pos,aft,gd⟩ t x y rest a w):wpList P ops Q (⟨dst,.makeSlice t x y,ty0,pos,aft,gd⟩::rest) a w:=h
theorem AtMkRoom.room {α:Type} (enc:α->List Value) {t e:TypeId} {x y:Operand} (H:St w0 M L w) (hw:Region.wanted o1 (yielded ops a.tmps)=true) (ho:o1.op=.makeSlice t x y) (hx:a.eval x=.int .i64 0) (n:Nat) (hy:a.eval y=.int .i64 (n:Int)) (hte:sliceO t=some e) {z:Value} {bytes:Nat} (hi:infoO e=some (z,1,bytes)) (hz:z.cells=#[z]) (hk:∀ x,(enc x).length=1) (hn:n*bytes<=281474976710656) (h63:n<=16777216)
  (h:∀ b w',St w0 M (rowsA enc e 1 (.slice (some ⟨b,0,none⟩) 0 n) []::L) w'->wpList Tryz.prog ops Q rest (a.put o1.dst (.slice (some ⟨b,0,none⟩) 0 n)) w'):AtMkRoom Tryz.prog ops Q o1 t x y rest a w :=
 wpList_step fun _ hK=>by
  rw [if_pos hw];obtain ⟨i,h2,h3,h4,h5⟩:=infoO_ok hi;have hb3:(bytes:Int)*(n:Int)<=281474976710656:=by
   have h9:((n*bytes:Nat):Int)<=281474976710656:=(by omega);rw [Nat.mul_comm] at h9;rwa [Int.natCast_mul] at h9
  have hr:=run_makeSlice (P:=Tryz.prog) (w:=w) t e i z (sliceO_ok hte) h2 h3 .i64 .i64 0 n (by omega) (by omega) (by rw [h4];simp;omega) (by rw [h5];exact hb3) (by omega);rw [hz,h4] at hr;simp only [Int.toNat_natCast,Nat.mul_one,Int.toNat_zero] at hr;unfold Oper.wp execOp;simp only [ho,hx,hy,Sem.run_bind,hr,Result.andThen_ok,Sem.run_pure];refine hK _ _ (h _ _ ((H.alloc (.cells (madeCells #[z] n) e)).conv (by rw [rowsA_fp',blk_fp];rfl) fun hb=>?_));rw [blk_ho] at hb;rw [rowsA_ho];refine ⟨by simp [flatG],.inr ⟨_,n,madeCells #[z] n,rfl,Nat.zero_le _,hb,by first|(simp [size_madeCells];done)|(simp only [List.length_nil];omega)|exact Nat.zero_le _,by unfold maxLen;omega,by first|(rw [size_madeCells,Nat.mul_one];done)|(rw [size_madeCells];done)|(simp [size_madeCells];done),by simp [flatG]⟩⟩
end
theorem extract_c {p m id n:Nat} {lv:Value} {S:Sto} {res:List Nat} (hS:S.Ok) (hc:(id=0∧n=0∧res=[])∨(1<=id∧id<=S.list.length∧n=(S.tr id).len∧res=(S.tr id).txt)) (hnb:n<=65536) (w:World) (hs:(stoA p lv m S).ho w) :
  Calls Tryz.prog 78 #[.pointer (some ⟨p,0,none⟩),.int .i64 (id:Nat),.int .i64 0,.int .i64 (n:Nat)] w fun e w'=>∃ v':Value,e=.returned (.tuple #[v',.nilIface])∧St w [] [rowsA encT 5 1 v' res] w':=by
 have H:=St.nil w [];have HK:=Ks.one hs;obtain ⟨en,hen,hln⟩:∃ en,enAt S id=some en∧en.w.len=n:=by
  rcases hc with ⟨rfl,rfl,_⟩|⟨h1,h2,h3,_⟩
  ·exact ⟨_,rfl,rfl⟩
  ·obtain ⟨j,rfl⟩:∃ j,id=j+1:=⟨id-1,by omega⟩
   obtain ⟨en,hen⟩:∃ a,S.list[j]?=some a:=⟨_,zg (by omega)⟩
   exact ⟨en,hen,by rw [h3,(tr_len hS j en hen).1]⟩
 have hW:Hid (∀ w,(stoA p lv m S).ho w->Calls Tryz.prog 40 #[.pointer (some ⟨p,0,none⟩),.int .i64 (id:Nat)] w fun e w'=>e=.returned (.tuple #[.agg #[.int .i64 (n:Nat),.int .i64 en.w.lines,.int .i64 en.w.head,.int .i64 en.w.tail,.int .u64 en.w.val,.int .u64 en.w.scale],.nilIface])∧St w [] [] w'):=zh fun w h=>by
  have:=weight_c hen w h;rw [← hln];exact this
 have HR:Hid (∀ w,Calls Tryz.prog 89 #[.int .i64 0,.int .i64 (n:Nat),.int .i64 (n:Nat)] w fun e w'=>e=.returned .nilIface∧w'=w):=zh fun w=>range_c 0 n n w (by omega) true (by simp)
 have HP:Hid (∀ (bt bs:Nat) (v:Value) w,((blk bt (.cells #[v] 42)).sep (rowsA encT 5 1 v ([]:List Nat))).ho w->(((blk bt (.cells #[v] 42)).sep (rowsA encT 5 1 v ([]:List Nat))).sep (stoA p lv m S)).ho w->(((blk bt (.cells #[v] 42)).sep (rowsA encT 5 1 v ([]:List Nat))).sep (blk bs (.cells #[.pointer (some ⟨p,0,none⟩)] 59))).ho w->Calls Tryz.prog 110 #[.pointer (some ⟨p,0,none⟩),.int .i64 (id:Nat),.int .i64 0,.int .i64 (n:Nat),.func (.func 111) #[] #[.pointer (some ⟨bt,0,none⟩),.pointer (some ⟨bs,0,none⟩)]] w fun e w'=>∃ v':Value,e=.returned .nilIface∧St w ((blk bt (.cells #[v] 42)).sep (rowsA encT 5 1 v ([]:List Nat))).fp [blk bt (.cells #[v'] 42),rowsA encT 5 1 v' res] w'):=zh fun bt bs v w h hs hb=>parts_c hS (by
  rcases hc with ⟨_,h2,h3⟩|⟨h1,h2,h3,h4⟩
  ·exact .inl ⟨h2,h3⟩
  ·exact .inr ⟨h1,h2,h3,by simpa using h4⟩) hnb (by simp) w h hs hb
 have hmf:∀ (fn:Fn) (first cap:Array Value) (w:World),(Instr.makeFunc fn first cap).run Tryz.prog w=.ok (.func fn first cap) w:=fun _ _ _ _=>rfl
 have d1:decide ((65536:Int)<(n:Int))=false:=(by simp;omega);have d1n:decide (65536<n)=false:=(by simp;omega);clear hS hc hen hln hs;go_enter Tryz.func78,Tryz.ntmps78;go_wp2_with (first|refine sL ?_|(refine sS ?_;clear H;intros;rename_i H)|(go_at_call 40;with_reducible refine zm (hW.out _ (H.known HK pk)) ?_;rintro e9 wc ⟨rfl,hb⟩;replace H:=H.grew hb.below;clear hb)|(go_at_call 89;with_reducible refine same (HR.out _) ?_)|((with_reducible refine isMkRoom ?_);refine AtMkRoom.room encT H rfl rfl rfl n rfl rfl rfl rfl encT_len (by omega) (by omega) ?_;clear H;intro b5 _ H;simp only [Act.put,puA,puB,puC]));rename_i bs _ _ _ _ _ bt _ _ _ _ _ _;have HQ:=zh (HP.out bt bs (.slice (some ⟨b5,0,none⟩) 0 n));with_reducible refine zm (HQ.out _ (St.ho (H.pick2 (A:=blk _ (.cells #[.slice (some ⟨b5,0,none⟩) 0 n] 42)) (B:=rowsA encT 5 1 (.slice (some ⟨b5,0,none⟩) 0 n) []) pk pk).join _ List.mem_cons_self) ((H.pick2 (A:=blk _ (.cells #[.slice (some ⟨b5,0,none⟩) 0 n] 42)) (B:=rowsA encT 5 1 (.slice (some ⟨b5,0,none⟩) 0 n) []) pk pk).join.sepK HK .here (B:=stoA p lv m S) pk) (St.sepO (H.pick2 (A:=blk _ (.cells #[.slice (some ⟨b5,0,none⟩) 0 n] 42)) (B:=rowsA encT 5 1 (.slice (some ⟨b5,0,none⟩) 0 n) []) pk pk).join .here (B:=blk bs (.cells #[.pointer (some ⟨p,0,none⟩)] 59)) pk)) ?_
 rintro e9 wc ⟨v2,rfl,hb⟩;replace H:=(H.pick2 (A:=blk _ (.cells #[.slice (some ⟨b5,0,none⟩) 0 n] 42)) (B:=rowsA encT 5 1 (.slice (some ⟨b5,0,none⟩) 0 n) []) pk pk).join.call hb;clear hb HQ;simp only [List.cons_append,List.nil_append] at H;go_wp2_with (first|refine sL ?_|(refine sS ?_;clear H;intros;rename_i H));go_ret2;exact ⟨v2,rfl,H.picks (.cons pk .nil)⟩
end
section
open Go.RowKit Go.Maps
def IdL (S:Sto):List Nat->List (List Tr)->Prop
 |[],[]=>True
 |a::l,t::u=>IdIs S a t∧IdL S l u
 |_,_=>False
theorem IdL.len {S:Sto}:∀ {l:List Nat} {u:List (List Tr)},IdL S l u->l.length=u.length
 |[],[],_=>rfl
 |a::l,t::u,h=>by simp [IdL.len h.2]
 |[],_::_,h=>h.elim
 |_::_,[],h=>h.elim
theorem IdL.get {S:Sto}:∀ {l:List Nat} {u:List (List Tr)} {i:Nat} {a:Nat},IdL S l u->l[i]?=some a->∃ t,u[i]?=some t∧IdIs S a t
 |[],[],i,a,_,h=>by simp at h
 |b::l,t::u,0,a,h,e=>by
  simp only [List.getElem?_cons_zero,Option.some.injEq] at e;subst e;exact ⟨t,rfl,h.1⟩
 |b::l,t::u,i+1,a,h,e=>by
  simp only [List.getElem?_cons_succ] at e ⊢;exact IdL.get h.2 e
 |[],_::_,_,_,h,_=>h.elim
 |_::_,[],_,_,h,_=>h.elim
theorem IdL.of {S:Sto}:∀ {l:List Nat} {u:List (List Tr)} {i:Nat} {t:List Tr},IdL S l u->u[i]?=some t->∃ a,l[i]?=some a∧IdIs S a t
 |[],[],i,a,_,h=>by simp at h
 |b::l,t::u,0,a,h,e=>by
  simp only [List.getElem?_cons_zero,Option.some.injEq] at e;subst e;exact ⟨b,rfl,h.1⟩
 |b::l,t::u,i+1,a,h,e=>by
  simp only [List.getElem?_cons_succ] at e ⊢;exact IdL.of h.2 e
 |[],_::_,_,_,h,_=>h.elim
 |_::_,[],_,_,h,_=>h.elim
theorem IdL.le {S S':Sto} (hS:S.Ok) (hl:S.Le S'):∀ {l:List Nat} {u:List (List Tr)},IdL S l u->IdL S' l u
 |[],[],_=>trivial
 |a::l,t::u,h=>⟨h.1.le hS hl,IdL.le hS hl h.2⟩
 |[],_::_,h=>h.elim
 |_::_,[],h=>h.elim
theorem IdL.append {S:Sto}:∀ {l l':List Nat} {u u':List (List Tr)},IdL S l u->IdL S l' u'->IdL S (l++l') (u++u')
 |[],_,[],_,_,h=>h
 |a::l,_,t::u,_,h,k=>⟨h.1,IdL.append h.2 k⟩
 |[],_,_::_,_,h,_=>h.elim
 |_::_,_,[],_,h,_=>h.elim
theorem IdL.snoc {S:Sto} {l:List Nat} {u:List (List Tr)} {a:Nat} {t:List Tr} (h:IdL S l u) (ha:IdIs S a t):IdL S (l++[a]) (u++[t]):=h.append ⟨ha,trivial⟩
end
section
theorem step_cut {m:Nat} {a:Tr} (h:Canon a) {A C B:List Tr} (e:a.lay (m+1)=A++C++B) (hC:C.flatMap (Tr.lay m)≠[]):stepP (m+1) (C.flatMap (Tr.lay m))=C:=by
 have e1:a.lay (m+1)=A++(C++B):=(by rw [e];simp);have hd:∀ y,(C.flatMap (Tr.lay m)).head?=some y->((C++B).flatMap (Tr.lay m)).head?=some y:=fun y hy=>by
  rw [List.flatMap_append];cases hq:C.flatMap (Tr.lay m) with
  |nil=>exact absurd hq hC
  |cons z l=>rw [hq] at hy;simpa using hy
 by_cases he:m%2=0
 ·obtain ⟨_,c2,c3⟩:=cut_runs he h e1;obtain ⟨_,_,d3⟩:=cut_runs he h e;have h1:=d3 [] (fun x y _ hy=>by simp at hy);have h2:=c3 (C.flatMap (Tr.lay m)) (fun x y hx hy=>c2 x y hx (hd y hy));rw [List.flatMap_append,List.append_nil,h2] at h1;have h3:runs ([]:List Tr)=[]:=rfl;rw [h3,List.append_nil] at h1;rw [step_odd he];exact List.append_cancel_left h1
 ·have ho:m%2=1:=(by omega);obtain ⟨_,c2,c3⟩:=cut_pairs ho h e1;obtain ⟨_,_,d3⟩:=cut_pairs ho h e;have h1:=d3 [] (fun x y _ _ hy=>by simp at hy);have h2:=c3 (C.flatMap (Tr.lay m)) (fun x y hx hl hy=>c2 x y hx hl (hd y hy));rw [List.flatMap_append,List.append_nil,h2] at h1;have h3:pairsF (fits (m+1)) ([]:List Tr)=[]:=(by simp [pairsF]);rw [h3,List.append_nil] at h1;rw [step_even ho];exact List.append_cancel_left h1
theorem Canon.kid {a c:Tr} (h:Canon a) {j:Nat} (hj:(kids a)[j]?=some c):Canon c:=by
 have hc:=h.gd.kid (List.mem_of_getElem? hj);have hk:kids a=(kids a).take j++c::(kids a).drop (j+1):=by
  have hlt:=gelt hj;rw [zg hlt] at hj;injection hj with hj
  conv=>lhs;rw [← List.take_append_drop j (kids a),List.drop_eq_getElem_cons hlt,hj]
 have hlay:∀ m,m<a.lv->a.lay m=((kids a).take j).flatMap (Tr.lay m)++c.lay m++((kids a).drop (j+1)).flatMap (Tr.lay m):=fun m hm=>by
  rw [lay_high hm];conv=>lhs;rw [hk]
  rw [List.flatMap_append,List.flatMap_cons];simp
 refine ⟨fun t ht=>h.leaves t (by rw [hlay 0 (by omega)];simp [ht]),fun m=>?_⟩;induction m with
 |zero=>rfl
 |succ m ih =>
  show stepP (m+1) (seqP (c.lay 0) m)=c.lay (m+1)
  rw [ih];by_cases hm:c.lv<=m
  ·rw [lay_low hm,lay_low (Nat.le_succ_of_le hm),step_one]
  ·have h1:=step_cut h (m:=m) (hlay (m+1) (by omega));rw [lay_lay (Nat.le_succ m) c] at h1;refine h1 fun e=>?_
   have:=lay_pos (m:=m) hc.1.2;rw [e] at this;simp at this
theorem pow_lay0 {s:Tr} {k:Nat} (h:(Tr.pow s k).Gd):(Tr.pow s k).lay 0=(List.replicate k (s.lay 0)).flatten:=by
 have hk:2<=k:=h.2.2;rw [lay_high (by have:=(h.kid (c:=s) (List.mem_replicate.2 ⟨by omega,rfl⟩)).2;omega)];simp [kids,List.flatMap_replicate]
end
section
open Go.RowKit Go.Maps
attribute [local go_sem] InGr
end
section
open Go.RowKit Go.Maps
attribute [local go_sem] InGr
end
section
open Go.RowKit Go.Maps
attribute [local go_sem] InGr
section
variable {ops:Array Oper} {Q:Exit->Act->World->Prop} {rest:List Oper} {a:Act} {w w0:World} {M:List Nat} {L R:List As} {o1:Oper}
theorem AtSlice.zero {α:Type} (enc:α->List Value) {t e:TypeId} (H:St w0 M L w) (hw:Region.wanted o1 (yielded ops a.tmps)=true) (ho:o1.op=.buildSlice t 0 #[]) (hte:sliceO t=some e) {z:Value} {k bytes:Nat} (hi:infoO e=some (z,k,bytes)) (hk:∀ x,(enc x).length=k)
  (h:∀ b w',St w0 M (rowsA enc e k (.slice (some ⟨b,0,none⟩) 0 0) []::L) w'->wpList Tryz.prog ops Q rest (a.put o1.dst (.slice (some ⟨b,0,none⟩) 0 0)) w'):AtSlice Tryz.prog ops Q o1 t 0 #[] rest a w :=
 wpList_step fun _ hK=>by
  rw [if_pos hw];unfold Oper.wp execOp;simp only [ho,List.map_toArray,List.map_nil,Sem.run_bind,run_slice0 hte hi,Result.andThen_ok,Sem.run_pure];exact hK _ _ (h _ _ ((H.alloc (.cells #[] e)).conv (by rw [rowsA_fp',blk_fp];rfl) fun hb=>rowsA_of_blk (xs:=[]) (by rw [blk_ho] at hb;exact hb) (by simp [maxLen]) (by simp [flatG]) hk))
end
section
variable {ops:Array Oper} {Q:Exit->Act->World->Prop} {rest:List Oper} {a:Act} {w:World} {o1:Oper}
theorem run_append_empty {t e ty:TypeId} (hte:sliceO t=some e) {z:Value} {k bytes:Nat} (hi:infoO e=some (z,k,bytes)) {b c:Nat} {ad:Option Addr} {w:World}:(Builtin.append_ #[t,t] ty #[.slice (some ⟨b,0,none⟩) 0 0,.slice ad 0 c]).run Tryz.prog w=.ok (.slice (some ⟨b,0,none⟩) 0 0) w:=by
 obtain ⟨i,h2,h3,h4,h5⟩:=infoO_ok hi;have hu:=sliceO_ok hte;cases ad with
 |none=>simp [Builtin.append_,run_underlying hu,sizeOf,typeInfo,h2,Builtin.lenOf,Builtin.firstCells,loadCells,loadCellsFrom,storeCells]
 |some x=>simp [Builtin.append_,run_underlying hu,sizeOf,typeInfo,h2,Builtin.lenOf,Builtin.firstCells,loadCells,loadCellsFrom,storeCells]
theorem AtAppend.none {t e:TypeId} {x y:Operand} (hw:Region.wanted o1 (yielded ops a.tmps)=true) (ho:o1.op=.call ⟨.builtin .append,#[x,y],#[t,t]⟩) (hte:sliceO t=some e) {z:Value} {k bytes:Nat} (hi:infoO e=some (z,k,bytes)) {b c:Nat} {ad:Option Addr} (hx:evalO a x=some (.slice (some ⟨b,0,Option.none⟩) 0 0)) (hy:evalO a y=some (.slice ad 0 c))
  (h:wpList Tryz.prog ops Q rest (a.put o1.dst (.slice (some ⟨b,0,Option.none⟩) 0 0)) w):AtAppend Tryz.prog ops Q o1 t x y rest a w :=
 wpList_step fun _ hK=>by
  rw [if_pos hw];unfold Oper.wp execOp;simp only [ho,resolve,invoke,builtin,Sem.run_bind,Sem.run_pure,Result.andThen_ok,List.map_toArray,List.map_cons,List.map_nil,evalO_eq hx,evalO_eq hy,run_append_empty hte hi];exact hK _ _ h
end
theorem nil_leaves (text:List Nat):Leaves (text.map Tr.leaf):=fun t ht=>by
 obtain ⟨b,_,rfl⟩:=List.mem_map.1 ht;exact ⟨b,rfl⟩
theorem of_zero {X:Px} {ad:Option Addr} {c:Nat} (w:World) (h:(pA X).ho w):Calls Tryz.prog 22 #[.pointer (some ⟨X.p,0,none⟩),.slice ad 0 c] w fun e w'=>e=.returned (.tuple #[.int .i64 0,.nilIface])∧w'=w:=by
 have HC0:=zh (pA_c0 h);clear h;go_enter Tryz.func22,Tryz.ntmps22;go_wp2_with (first|refine sL ?_|(refine sS ?_;clear H;intros;rename_i H)|((with_reducible refine isLoad ?_);refine AtLoad.cel rfl rfl rfl rfl HC0.out ?_;simp only [Act.put,puA,puB,puC]));go_ret2;exact ⟨rfl,rfl⟩
theorem of_any {X:Px} {P:PoolT} {text:List Nat} {v:Value} (hX:PxOk X) (hr:RowIn P encT 1 v text) (hb:∀ x∈text,x<256) (hlen:text.length<=65536) (hroom:X.S.list.length+2*text.length<X.S.most) (w:World) (hd:((pA X).sep deA).ho w) (hp:((pA X).sep (poolA P)).ho w) :
  Calls Tryz.prog 22 #[.pointer (some ⟨X.p,0,none⟩),v] w fun e w'=>∃ (X':Px) (id:Nat),e=.returned (.tuple #[.int .i64 id,.nilIface])∧X.Ext X'∧PxOk X'∧IdIs X'.S id (text.map Tr.leaf)∧X'.S.list.length<=X.S.list.length+2*text.length∧St w (pA X).fp [pA X'] w':=by
 rcases Nat.eq_zero_or_pos text.length with h0|h0
 ·obtain rfl:=List.eq_nil_of_length_eq_zero h0;obtain ⟨ad,c,rfl,_⟩:=hr;rw [sep_ho] at hd;refine (of_zero w hd.1).mono ?_;rintro e w' ⟨rfl,rfl⟩;exact ⟨X,0,rfl,.refl _,hX,.inl ⟨rfl,rfl⟩,by omega,St.one hd.1⟩
 ·obtain ⟨T,t1,t2,t3⟩:=canon_exists (nil_leaves text) (fun e=>by simp at e;rw [e] at h0;simp at h0) (by simp;omega);refine (of_p hX hr hb h0 hlen t1 t2 t3 w hd hp).mono ?_;rintro e w' ⟨X',q1,q2,q3,q4,q5⟩;rcases q4 with ⟨id,rfl,q6⟩|⟨_,q6⟩
  ·exact ⟨X',id,rfl,q1,q2,.inr ⟨T,q6,t1,t2⟩,q3,q5⟩
  ·have h9:X'.S.most=X.S.most:=q1.le.1;omega
end
section
open Go.RowKit Go.Maps
attribute [local go_sem] InGr
abbrev IdPost (X:Px) (s:List Tr) (k:Nat) (M:List Nat) (w:World) (e:Ending) (w':World):Prop :=
 ∃ (X':Px) (id:Nat),e=.returned (.tuple #[.int .i64 id,.nilIface])∧X.Ext X'∧PxOk X'∧IdIs X'.S id s∧X'.S.list.length<=X.S.list.length+k∧St w M [pA X'] w'
theorem join_c {X:Px} {a b:Nat} {sa sb:List Tr} (hX:PxOk X) (ha:IdIs X.S a sa) (hb:IdIs X.S b sb) (hl:sa.length+sb.length<=1048576) (hroom:X.S.list.length+(sa.length+sb.length)<=X.S.most) (w:World) (h:PH X w) :
  Calls Tryz.prog 94 #[.pointer (some ⟨X.p,0,none⟩),.int .i64 a,.int .i64 b] w (IdPost X (sa++sb) (sa.length+sb.length) (pA X).fp w):=by
 have h:((pA X).sep deA).ho w:=h;rw [sep_ho] at h;obtain ⟨k1,k2,hdd⟩:=h;have H:=St.one k1;have HK:Ks w (pA X).fp [deA]:=⟨by simpa using k2,by simpa using fun b hb hm=>hdd b hm hb⟩
 generalize (pA X).fp=N at *;clear k1 k2 hdd;have HSZ:Hid (∀ w,(pA X).ho w->Calls Tryz.prog 92 #[.pointer (some ⟨X.p,0,none⟩),.int .i64 a] w fun e w'=>e=.returned (.int .i64 (sa.length:Nat))∧St w [] [] w'):=zh fun w h=>size_any hX ha w h
 have HSP:Hid (∀ w,((pA X).sep deA).ho w->Calls Tryz.prog 123 #[.pointer (some ⟨X.p,0,none⟩),.int .i64 a,.int .i64 (sa.length:Nat),.int .i64 b,.int .i64 0] w (IdPost X (sa++sb) (sa.length+sb.length) (pA X).fp w)):=zh fun w h=>by
  have:=splice_c (X:=X) (a:=a) (i:=sa.length) (sa:=sa) (b:=b) (j:=0) (sb:=sb) hX ha hb (Nat.le_refl _) (Nat.zero_le _) (by simp;omega) (by simp;omega) w h;simp only [List.take_length,List.drop_zero,List.length_append] at this;exact this
 clear hX ha hb hl hroom;go_enter Tryz.func94,Tryz.ntmps94;go_wp2_with (first|refine sL ?_|(refine sS ?_;clear H;intros;rename_i H)|(go_at_call 92;with_reducible refine zm (HSZ.out _ (H.get pk)) ?_;rintro e9 wc ⟨rfl,hb⟩;replace H:=H.grew hb.below;clear hb)|(go_at_call 123;with_reducible refine zm (HSP.out _ (H.sepK HK pk pk)) ?_;rintro e9 wc ⟨X2,id2,rfl,y1,y2,y3,y4,hb⟩;have HY:=zh (za y1 (za y2 (za y3 y4)));clear y1 y2 y3 y4;replace H:=zn ((H.pick pk).call hb);clear hb));go_ret2;exact ⟨X2,id2,rfl,HY.out.1,HY.out.2.1,HY.out.2.2.1,HY.out.2.2.2,H.picks (.cons pk .nil)⟩
end
section
open Go.RowKit Go.Maps
attribute [local go_sem] InGr
section
variable {ops:Array Oper} {Q:Exit->Act->World->Prop} {rest:List Oper} {a:Act} {w w0:World} {M:List Nat} {L:List As} {o1:Oper}
theorem AtSlice.lit {t e:TypeId} {n:Nat} {ps:Array (Nat×Operand)} (H:St w0 M L w) (hw:Region.wanted o1 (yielded ops a.tmps)=true) (ho:o1.op=.buildSlice t n ps) (hte:sliceO t=some e) {z:Value} {k bytes:Nat} {cs:Array Value} (hi:infoO e=some (z,k,bytes)) (hk:k=1) (hz:z.cells.size=1) (hn:¬ n*1 > 2 ^ 24) (hn0:¬ n*1=0)
  (hf:Instr.fill (fun i=>some (i*1,1)) ((Array.range (n*1)).map (z.cells[·%z.cells.size]!)) (ps.map fun (i,x)=>(i,a.eval x)).toList=some cs)
  (h:∀ b w',St w0 M (blk b (.cells cs e)::L) w'->wpList Tryz.prog ops Q rest (a.put o1.dst (.slice (some ⟨b,0,none⟩) n n)) w'):AtSlice Tryz.prog ops Q o1 t n ps rest a w :=
 wpList_step fun _ hK=>by
  rw [if_pos hw];obtain ⟨i,h2,h3,h4,h5⟩:=infoO_ok hi;subst hk;have hr:=run_buildSlice (P:=Tryz.prog) w t e n (ps.map fun (i,x)=>(i,a.eval x)) cs i z (sliceO_ok hte) h2 h3 (by rw [h4];exact hn) (by rw [h4];exact hn0) (by rw [h4];exact hf);unfold Oper.wp execOp;simp only [ho,Sem.run_bind,hr,Result.andThen_ok,Sem.run_pure];exact hK _ _ (h _ _ (H.alloc _))
end
theorem St.freeze {g:Nat} {cs:Array Value} {e:TypeId} {w0 w:World} {M:List Nat} {L:List As} (h:St w0 M (blk g (.cells cs e)::L) w):St w0 M (blk g (.cells cs e (cs.size,cs.size+1))::L) (w.freeze ⟨g,cs.size,none⟩ 1):=by
 have hg:w.heap[g]?=some (.cells cs e):=h.at Pick.here;have hs:(w.freeze ⟨g,cs.size,none⟩ 1).heap.size=w.heap.size:=(by unfold World.freeze;simp);have hlt:g<w.heap.size:=(Array.getElem?_eq_some_iff.1 hg).1;refine St.turn h (A':=blk g (.cells cs e (cs.size,cs.size+1))) (fun b hb=>?_) rfl rfl rfl hs ?_ (by rw [blk_fp,blk_fp])
 ·have hne:g≠b:=fun e'=>hb (by simp [blk,e'])
  unfold World.freeze;simp only [Nat.succ_ne_zero,if_false];rw [Array.getElem?_modify,if_neg hne]
 ·rw [blk_ho];unfold World.freeze;simp only [Nat.succ_ne_zero,if_false];rw [Array.getElem?_modify,if_pos rfl,hg];rfl
theorem run_conv {t:TypeId} (hte:sliceO t=some 5) {g n c:Nat} {cs:Array Value} {e:TypeId} {w:World} (hg:w.heap[g]?=some (.cells cs e)):(convert t t (.slice (some ⟨g,0,none⟩) n c)).run Tryz.prog w=.ok (.slice (some ⟨g,0,none⟩) n c) (w.freeze ⟨g,cs.size,none⟩ 1):=by
 have hu:=run_underlying (P:=Tryz.prog) (sliceO_ok hte);have hu5:Tryz.prog.underlying 5=some (.int .u8):=(by kernel_rfl);have hu6:=run_underlying (P:=Tryz.prog) hu5;simp [convert,hu,hu6,markStringish,shape,freeze,Sem.run,World.shape?,hg]
def AtConv (P:Program) (ops:Array Oper) (Q:Exit->Act->World->Prop) (o:Oper) (_:TypeId) (_:Operand) (rest:List Oper) (a:Act) (w:World):Prop:=wpList P ops Q (o::rest) a w
section
variable {ops:Array Oper} {Q:Exit->Act->World->Prop} {rest:List Oper} {a:Act} {w w0:World} {M:List Nat} {L R:List As} {o1:Oper} {dst:Option Tmp} {ty0:TypeId} {pos:String} {aft:Array Edge} {gd:Option (Nat×Bool)}
theorem AtConv.bytes {t e:TypeId} {x:Operand} (H:St w0 M L w) (hw:Region.wanted o1 (yielded ops a.tmps)=true) (ho:o1.op=.convert t t x) (hte:sliceO t=some 5) {g n c:Nat} (hx:a.eval x=.slice (some ⟨g,0,none⟩) n c) {cs:Array Value} (hp:Pick L (blk g (.cells cs e)) R)
  (h:∀ w',St w0 M (blk g (.cells cs e (cs.size,cs.size+1))::R) w'->wpList Tryz.prog ops Q rest (a.put o1.dst (.slice (some ⟨g,0,none⟩) n c)) w'):AtConv Tryz.prog ops Q o1 t x rest a w :=
 wpList_step fun _ hK=>by
  rw [if_pos hw];have H':=H.pick hp;have hg:w.heap[g]?=some (.cells cs e):=H'.at Pick.here;unfold Oper.wp execOp;simp only [ho,hx,Sem.run_bind,run_conv hte hg,Result.andThen_ok,Sem.run_pure];exact hK _ _ (h _ H'.freeze)
end
end
section
open Go.RowKit Go.Maps
attribute [local go_sem] InGr
end
section
open Go.RowKit Go.Maps
attribute [local go_sem] InGr
section
variable {ops:Array Oper} {Q:Exit->Act->World->Prop} {rest:List Oper} {a:Act} {w w0:World} {M:List Nat} {L R:List As} {o1:Oper} {dst:Option Tmp} {ty0:TypeId} {pos:String} {aft:Array Edge} {gd:Option (Nat×Bool)} {Rr:Value->World->Prop}
def cutA (ad:Option Addr) (c l:Nat):Option Addr:=if c=l then ad else ad.map (·.add l)
theorem run_sl {t e:TypeId} (hte:sliceO t=some e) {z:Value} {bytes:Nat} (hi:infoO e=some (z,1,bytes)) {ad:Option Addr} {n c:Nat} (lo hi':Option Nat) {l h:Nat} (hl:lo.getD 0=l) (hh:hi'.getD n=h) (h1:l<=h) (h2:h<=c) (w:World) :
  (Instr.sliceAt t (.slice ad n c) (lo.map fun x=>.int .i64 (x:Nat)) (hi'.map fun x=>.int .i64 (x:Nat)) none).run Tryz.prog w=.ok (.slice (cutA ad c l) (h-l) (c-l)) w:=by
 obtain ⟨i,e2,e3,e4,e5⟩:=infoO_ok hi;have hu:=sliceO_ok hte;have hb:(Instr.sliceBound (Value.int .i64 (h:Nat)) c .sliceAcap).run Tryz.prog w=.ok h w:=by
  unfold Instr.sliceBound;simp [asIntOf,h2]
 have hb2:(Instr.sliceBound (Value.int .i64 (l:Nat)) h .sliceB).run Tryz.prog w=.ok l w:=by
  unfold Instr.sliceBound;simp [asIntOf,h1]
 unfold cutA;cases lo with
 |none =>
  simp at hl;subst hl;cases hi' with
  |none =>
   simp at hh;subst hh;simp [Instr.sliceAt,Instr.slice,Instr.sliceBounds,run_underlying hu,sizeOf,typeInfo,e2,e4,Sem.run_bind,Result.andThen]
  |some x =>
   simp at hh;subst hh;simp [Instr.sliceAt,Instr.slice,Instr.sliceBounds,run_underlying hu,sizeOf,typeInfo,e2,e4,Sem.run_bind,Result.andThen,hb]
 |some y =>
  simp at hl;subst hl;cases hi' with
  |none =>
   simp at hh;subst hh;simp [Instr.sliceAt,Instr.slice,Instr.sliceBounds,run_underlying hu,sizeOf,typeInfo,e2,e4,Sem.run_bind,Result.andThen,hb2]
  |some x =>
   simp at hh;subst hh;simp [Instr.sliceAt,Instr.slice,Instr.sliceBounds,run_underlying hu,sizeOf,typeInfo,e2,e4,Sem.run_bind,Result.andThen,hb,hb2]
def AtSeg (P:Program) (ops:Array Oper) (Q:Exit->Act->World->Prop) (o:Oper) (_:TypeId) (_:Operand) (_ _:Option Operand) (rest:List Oper) (a:Act) (w:World):Prop:=wpList P ops Q (o::rest) a w
theorem AtSeg.row {t e:TypeId} {x:Operand} {y1 y2:Option Operand} (lo hi':Option Nat) (hw:Region.wanted o1 (yielded ops a.tmps)=true) (ho:o1.op=.slice t x y1 y2 none) (hte:sliceO t=some e) {z:Value} {bytes:Nat} (hi:infoO e=some (z,1,bytes)) {ad:Option Addr} {n c:Nat} (hx:a.eval x=.slice ad n c) (hy1:y1.map a.eval=lo.map fun x=>.int .i64 (x:Nat)) (hy2:y2.map a.eval=hi'.map fun x=>.int .i64 (x:Nat))
  {l h m cr:Nat} (hl:lo.getD 0=l) (hh:hi'.getD n=h) (h1:l<=h) (h2:h<=c) (hm:h-l=m) (hcr:c-l=cr) {ad':Option Addr} (had:cutA ad c l=ad')
  (h9:wpList Tryz.prog ops Q rest (a.put o1.dst (.slice ad' m cr)) w):AtSeg Tryz.prog ops Q o1 t x y1 y2 rest a w :=
 wpList_step fun _ hK=>by
  rw [if_pos hw];unfold Oper.wp execOp;simp only [ho,hx,hy1,hy2,Option.map_none,Sem.run_bind,run_sl hte hi lo hi' hl hh h1 h2,Result.andThen_ok,Sem.run_pure,had,hm,hcr];exact hK _ _ h9
end
theorem flatT_get (xs:List Nat) (i:Nat):(flatG encT xs)[i]?=xs[i]?.map fun x=>(.int .u8 (x:Nat):Value):=by
 have:flatG encT xs=xs.map fun x=>(.int .u8 (x:Nat):Value):=by
  unfold flatG;induction xs with
  |nil=>rfl
  |cons x xs ih=>rw [List.flatMap_cons,ih];rfl
 rw [this,List.getElem?_map]
def TxtIn (P:PoolT) (v:Value) (xs:List Nat):Prop:=∃ ad c,v=.slice ad xs.length c∧xs.length<=c∧RowIn P encT 1 v xs
theorem TxtIn.row {P:PoolT} {v:Value} {xs:List Nat} (h:TxtIn P v xs):RowIn P encT 1 v xs:=by obtain ⟨_,_,_,_,h⟩:=h;exact h
theorem TxtIn.cut {P:PoolT} {ad:Option Addr} {n c:Nat} {xs:List Nat} (h:TxtIn P (.slice ad n c) xs) (l m:Nat) (h2:l+m<=xs.length) :
  n=xs.length∧n<=c∧∃ (ad':Option Addr) (P':PoolT),cutA ad c l=ad'∧(∀ x∈P,x∈P')∧(∀ w,(poolA P).ho w->(poolA P').ho w)∧TxtIn P' (.slice ad' m (c-l)) ((xs.drop l).take m):=by
 obtain ⟨ad0,c0,e1,hc,ad1,c1,e2,hmx,hr⟩:=h;injection e1 with q1 q2 q3
 subst q1 q2 q3;injection e2 with q1 q2 q3
 subst q1 q3;have hlen:((xs.drop l).take m).length=m:=(by simp;omega);refine ⟨rfl,hc,?_⟩;rcases Nat.eq_zero_or_pos m with rfl|hm
 ·exact ⟨_,P,rfl,fun x h=>h,fun w h=>h,⟨_,_,by rw [hlen],by omega,_,_,by rw [hlen],by omega,fun h=>by omega⟩⟩
 ·obtain ⟨g,o,rfl,hp⟩:=hr (by omega);have hcl:¬ c=l:=(by omega);have had:cutA (some ⟨g,o,none⟩) c l=some ⟨g,o+l,none⟩:=by
   unfold cutA Addr.add;rw [if_neg hcl];by_cases h0:l=0
   ·subst h0;simp
   ·simp [h0]
  refine ⟨_,(g,o+l,flatG encT ((xs.drop l).take m))::P,had,fun x h=>List.mem_cons_of_mem _ h,fun w h=>?_,⟨_,_,by rw [hlen],by omega,_,_,by rw [hlen],by omega,fun _=>⟨g,o+l,rfl,List.mem_cons_self⟩⟩⟩;rw [poolA_ho] at h ⊢;intro x hx;rcases List.mem_cons.1 hx with rfl|hx
  ·refine ⟨(h _ hp).1,fun j u hj=>?_⟩;have:=(h _ hp).2 (l+j) u (by
    rw [flatT_get] at hj ⊢;rw [List.getElem?_take] at hj;split at hj
    ·rwa [List.getElem?_drop] at hj
    ·simp at hj)
   simpa [Nat.add_assoc] using this
  ·exact h x hx
theorem TxtIn.mono {P Q:PoolT} {v:Value} {xs:List Nat} (h:TxtIn P v xs) (hs:∀ x∈P,x∈Q):TxtIn Q v xs:=by
 obtain ⟨ad,c,h1,h2,h3⟩:=h;exact ⟨ad,c,h1,h2,h3.mono hs⟩
end
section
open Go.RowKit Go.Maps
attribute [local go_sem] InGr
structure Pz where
 c:Bool
 f:Int
 n:Int
 t:List Nat
structure Pi where
 c:Bool
 f:Int
 n:Int
 id:Nat
structure PiOk (S:Sto) (p:Pi) (q:Pz):Prop where
 c:p.c=q.c
 f:p.f=q.f
 n:p.n=q.n
 id:IdIs S p.id (q.t.map Tr.leaf)
theorem PiOk.le {S S':Sto} {p:Pi} {q:Pz} (h:PiOk S p q) (hS:S.Ok) (hl:S.Le S'):PiOk S' p q:=⟨h.c,h.f,h.n,h.id.le hS hl⟩
def PiL (S:Sto):List Pi->List Pz->Prop
 |[],[]=>True
 |a::l,t::u=>PiOk S a t∧PiL S l u
 |_,_=>False
theorem PiL.len {S:Sto}:∀ {l:List Pi} {u:List Pz},PiL S l u->l.length=u.length
 |[],[],_=>rfl
 |a::l,t::u,h=>by simp [PiL.len h.2]
 |[],_::_,h=>h.elim
 |_::_,[],h=>h.elim
theorem PiL.get {S:Sto}:∀ {l:List Pi} {u:List Pz} {i:Nat} {a:Pi},PiL S l u->l[i]?=some a->∃ t,u[i]?=some t∧PiOk S a t
 |[],[],i,a,_,h=>by simp at h
 |b::l,t::u,0,a,h,e=>by
  simp only [List.getElem?_cons_zero,Option.some.injEq] at e;subst e;exact ⟨t,rfl,h.1⟩
 |b::l,t::u,i+1,a,h,e=>by
  simp only [List.getElem?_cons_succ] at e ⊢;exact PiL.get h.2 e
 |[],_::_,_,_,h,_=>h.elim
 |_::_,[],_,_,h,_=>h.elim
theorem PiL.le {S S':Sto} (hS:S.Ok) (hl:S.Le S'):∀ {l:List Pi} {u:List Pz},PiL S l u->PiL S' l u
 |[],[],_=>trivial
 |a::l,t::u,h=>⟨h.1.le hS hl,PiL.le hS hl h.2⟩
 |[],_::_,h=>h.elim
 |_::_,[],h=>h.elim
theorem PiL.append {S:Sto}:∀ {l l':List Pi} {u u':List Pz},PiL S l u->PiL S l' u'->PiL S (l++l') (u++u')
 |[],_,[],_,_,h=>h
 |a::l,_,t::u,_,h,k=>⟨h.1,PiL.append h.2 k⟩
 |[],_,_::_,_,h,_=>h.elim
 |_::_,_,[],_,h,_=>h.elim
theorem idIs_le {S:Sto} {id:Nat} {s:List Tr} (h:IdIs S id s):id<=S.list.length:=by
 rcases h with ⟨_,rfl⟩|⟨T,h1,_⟩
 ·omega
 ·exact h1.2.1
end
section
open Go.RowKit Go.Maps
attribute [local go_sem] InGr
end
section
open Go.RowKit Go.Maps
attribute [local go_sem] InGr
end
section
open Go.RowKit Go.Maps
attribute [local go_sem] InGr
def strB (l:List Nat):ByteArray:=⟨(l.map UInt8.ofNat).toArray⟩
theorem strB_size (l:List Nat):(strB l).size=l.length:=by simp [strB,ByteArray.size]
theorem strB_nil:strB []=⟨#[]⟩:=rfl
theorem strB_cells {l:List Nat} (hl:∀ x∈l,x<256) (cap:Nat):∀ (j:Nat) (u:Value),(flatG encT l)[j]?=some u->(bytesRow (strB l) cap)[j]?=some u:=by
 intro j u hj;have hf:flatG encT l=l.map fun x=>(.int .u8 (x:Nat):Value):=by
  unfold flatG encT;clear hj hl;induction l with
  |nil=>rfl
  |cons x l ih=>rw [List.flatMap_cons,List.map_cons,ih];rfl
 rw [hf,List.getElem?_map] at hj;cases hx:l[j]? with
 |none=>rw [hx] at hj;simp at hj
 |some x =>
  rw [hx] at hj;simp at hj;subst hj;have hjl:=gelt hx;have hx2:x<256:=hl x (List.mem_of_getElem? hx);unfold bytesRow;rw [Array.getElem?_append_left (by simp [strB];exact hjl)];simp only [strB,Array.getElem?_map,List.getElem?_toArray,List.getElem?_map,hx,Option.map_some];simp [UInt8.toNat_ofNat',Nat.mod_eq_of_lt hx2]
section
variable {ops:Array Oper} {Q:Exit->Act->World->Prop} {rest:List Oper} {a:Act} {w w0:World} {M:List Nat} {L R:List As} {o1:Oper} {dst:Option Tmp} {ty0:TypeId} {pos:String} {aft:Array Edge} {gd:Option (Nat×Bool)}
def AtBytes (P:Program) (ops:Array Oper) (Q:Exit->Act->World->Prop) (o:Oper) (_ _:TypeId) (_:Operand) (rest:List Oper) (a:Act) (w:World):Prop:=wpList P ops Q (o::rest) a w
theorem St.ofBytes {w0 w:World} {M:List Nat} {L:List As} {l:List Nat} {cap:Nat} {fr:Nat×Nat} (H:St w0 M L w) (hl:∀ x∈l,x<256):St w0 M (poolA [(w.heap.size,0,flatG encT l)]::L) (w.drew.alloc (.cells (bytesRow (strB l) cap) 5 fr)):=by
 have h1:St w0 M L w.drew:=⟨H.os,H.tape,H.output,H.size,H.keep,fun A hA=>A.loc w _ (fun _ _=>rfl) (H.ho A hA),H.own,H.dis⟩
 have h2:=h1.alloc (.cells (bytesRow (strB l) cap) 5 fr);refine h2.conv (by rw [poolA_fp,blk_fp];rfl) fun hb=>?_
 rw [blk_ho] at hb;rw [poolA_ho];intro x hx;simp only [List.mem_cons,List.not_mem_nil,or_false] at hx;subst hx;refine ⟨lt_of_block hb,fun j u hj=>?_⟩;show (w.drew.alloc (.cells (bytesRow (strB l) cap) 5 fr)).cell? ⟨w.drew.heap.size,0+j,none⟩=some u
 rw [cell_of_row _ _ (0+j) _ _ fr hb,Nat.zero_add];exact strB_cells hl cap j u hj
theorem AtBytes.go {x:Operand} (H:St w0 M L w) (hw:Region.wanted o1 (yielded ops a.tmps)=true) (ho:o1.op=.convert 9 42 x) (l:List Nat) (hx:evalO a x=some (.string (strB l))) (hl:∀ x∈l,x<256) {n:Nat} (hn:l.length=n) (hm:n<=maxLen)
  (h:∀ g c w',RowIn [(g,0,flatG encT l)] encT 1 (.slice (some ⟨g,0,none⟩) n c) l->St w0 M (poolA [(g,0,flatG encT l)]::L) w'->wpList Tryz.prog ops Q rest (a.put o1.dst (.slice (some ⟨g,0,none⟩) n c)) w'):AtBytes Tryz.prog ops Q o1 9 42 x rest a w :=
 wpList_step fun _ hK=>by
  rw [if_pos hw];subst hn;have hr:=run_bytes_of_string (P:=Tryz.prog) w 9 42 5 (strB l) (by kernel_rfl) (by kernel_rfl) (by kernel_rfl);rw [strB_size] at hr;unfold Oper.wp execOp;simp only [ho,evalO_eq hx,Sem.run_bind,hr,Result.andThen_ok,Sem.run_pure];exact hK _ _ (h _ _ _ ⟨_,_,rfl,hm,fun _=>⟨w.heap.size,0,rfl,by simp⟩⟩ (H.ofBytes hl))
end
attribute [irreducible] strB
attribute [local go_sem] strB_size
end
section
open Go.RowKit Go.Maps
attribute [local go_sem] InGr strB_size
theorem bytes_conv {v:Value} {l:List Nat} (hl:∀ x∈l,x<256) {w:World} (h:(rowsA encT 5 1 v l).ho w):(convert 42 9 v).run Tryz.prog w=.ok (.string (strB l)) w:=by
 have k1:Tryz.prog.underlying 42=some (.slice 5):=(by kernel_rfl);have k2:Tryz.prog.underlying 5=some (.int .u8):=(by kernel_rfl);have k3:Tryz.prog.underlying 9=some .string:=(by kernel_rfl);rcases Nat.eq_zero_or_pos l.length with h0|h0
 ·have:l=[]:=List.eq_nil_of_length_eq_zero h0;subst this;obtain ⟨ad,c,rfl,_⟩:=rowsA_shape h;rw [strB_nil];cases ad with
  |none=>exact Lib.run_convert_nil_bytes w _ _ _ c k1 k2 k3
  |some a =>
   have:=run_convert_bytes_back (P:=Tryz.prog) w 42 9 5 a c [] k1 k2 k3 (fun j hj=>absurd hj (by simp));simpa using this
 ·obtain ⟨g,c,rfl,_,_⟩:=rowsA_cases h h0;have:=run_convert_bytes_back (P:=Tryz.prog) w 42 9 5 ⟨g,0,none⟩ c (l.map UInt8.ofNat) k1 k2 k3 (fun j hj=>by
   have hj':j<l.length:=(by simpa using hj);have hx:=zg hj';have hc:=rowsA_cell h encT_len hx (j:=0) rfl;have hb:l[j]<256:=hl _ (List.getElem_mem hj');rw [Addr.add_mid,Nat.zero_add];simp only [Nat.mul_one,Nat.add_zero] at hc;rw [hc];simp [UInt8.toNat_ofNat',Nat.mod_eq_of_lt hb])
  rw [List.length_map] at this;rw [this];unfold strB;rfl
section
variable {a:Act} {ops:Array Oper} {K:Act->Prop} {rest:List Oper} {dst:Option Tmp} {ty0:TypeId} {pos:String} {aft:Array Edge} {gd:Option (Nat×Bool)} {w1:World}
def QtConv (P:Program) (ops:Array Oper) (C:World->Prop) (K:Act->Prop) (o:Oper) (_ _:TypeId) (_:Operand) (rest:List Oper) (a:Act):Prop:=wpQuiet P ops C K (o::rest) a
theorem QtConv.go {o1:Oper} {t u:TypeId} {x:Operand} (hw:Region.wanted o1 (yielded ops a.tmps)=true) (ho:o1.op=.convert t u x) {v z:Value} (hx:a.eval x=v) (hc:∀ y:Gr w1,(convert t u v).run Tryz.prog y.1=.ok z y.1)
  (h:wpQuiet Tryz.prog ops (InGr w1) K rest (a.put o1.dst z)):QtConv Tryz.prog ops (InGr w1) K o1 t u x rest a :=
 wpQuiet_step fun _ hK=>by
  rw [if_pos hw];refine ⟨z,fun w2 ⟨y,hy⟩=>?_,hK _ h⟩;subst hy;unfold Oper.quietAt execOp;simp only [ho,hx,Sem.run_bind,hc y,Result.andThen_ok];exact ⟨rfl,rfl⟩
end
end
section
open Go.RowKit Go.Maps
attribute [local go_sem] InGr strB_size
def encK (q:Nat×Nat):Value×Value:=(.int .i64 q.1,.int .i64 q.2)
def KnOk (S:Sto) (K:List (Nat×Nat)):Prop:=∀ q∈K,1<=q.1∧q.1<=S.list.length∧IdIs S q.2 ((S.tr q.1).txt.map Tr.leaf)
theorem KnOk.le {S S':Sto} {K:List (Nat×Nat)} (h:KnOk S K) (hS:S.Ok) (hl:S.Le S'):KnOk S' K:=fun q hq=>by
 obtain ⟨h1,h2,h3⟩:=h q hq;refine ⟨h1,Nat.le_trans h2 hl.len,?_⟩;rw [hl.tr hS h1 h2];exact h3.le hS hl
theorem id_key (x:Nat) (hx:x<=1152921504606846976):∃ l,keyOf Tryz.prog 26 (.int .i64 (x:Nat))=some l:=by
 have h2:Tryz.prog.underlying 26=some (.int .i64):=un_26;have hw:=wf_i64 x (by omega);unfold keyOf mapKey;simp [h2,hw]
theorem kn_look {mp x:Nat} {K:List (Nat×Nat)} {w:World} (ok:Bool) (hx:x<=1152921504606846976) (h:(mapA Tryz.prog 26 mp (K.map encK)).ho w) :
  (∃ y,(x,y)∈K∧(Instr.lookup 136 (.map (some mp)) (.int .i64 (x:Nat)) ok).run Tryz.prog w=.ok (if ok then .tuple #[.int .i64 (y:Nat),.bool true] else .int .i64 (y:Nat)) w)∨((∀ q∈K,q.1≠x)∧(Instr.lookup 136 (.map (some mp)) (.int .i64 (x:Nat)) ok).run Tryz.prog w=.ok (if ok then .tuple #[.int .i64 0,.bool false] else .int .i64 0) w):=by
 obtain ⟨l,hl⟩:=id_key x hx;obtain ⟨v,b,hv,hr⟩:=run_lookup_st keyed_26 h mt_136 hl (zO_ok (t:=26) rfl) ok;have hmem:∀ {u:Value},(.int .i64 (x:Nat),u)∈K.map encK->∃ y,(x,y)∈K∧u=.int .i64 (y:Nat):=fun {u} hu=>by
  obtain ⟨⟨a,c⟩,hq,he⟩:=List.mem_map.1 hu;simp only [encK,Prod.mk.injEq,Value.int.injEq,true_and] at he;obtain ⟨e1,e2⟩:=he;have e3:a=x:=(by omega);subst e3;exact ⟨c,hq,e2.symm⟩
 have hk:∀ {y},(x,y)∈K->encK (x,y)∈K.map encK:=fun h=>List.mem_map.2 ⟨_,h,rfl⟩
 rcases hv with ⟨rfl,h1⟩|⟨rfl,rfl,h1⟩
 ·obtain ⟨y,hy,rfl⟩:=hmem h1;exact .inl ⟨y,hy,hr⟩
 ·refine .inr ⟨fun q hq e=>?_,hr⟩;obtain ⟨a,c⟩:=q;simp only at e;subst e;exact h1 _ (hk hq) rfl
theorem cnew_c {X:Px} (w:World):Calls Tryz.prog 36 #[.pointer (some ⟨X.p,0,none⟩)] w fun e w'=>∃ bm mp:Nat,e=.returned (.pointer (some ⟨bm,0,none⟩))∧St w [] [blk bm (.cells #[.pointer (some ⟨X.p,0,none⟩),.map (some mp)] 138),mapA Tryz.prog 26 mp (([]:List (Nat×Nat)).map encK)] w':=by
 have H:=St.nil w [];go_enter Tryz.func36,Tryz.ntmps36;go_wp2_with (first|refine sL ?_|(refine sS ?_;clear H;intros;rename_i H)|((with_reducible refine isMakeMap ?_);refine AtMakeMap.go 26 H rfl rfl ?_;clear H;intro mp _ H;simp only [Act.put,puA,puB,puC]));go_ret;exact ⟨_,mp,rfl,by simpa using H.picks (.cons pk (.cons pk .nil))⟩
theorem remember_c {X:Px} {bm mp x y:Nat} {K:List (Nat×Nat)} (hx:x<=1152921504606846976) (hn:∀ q∈K,q.1≠x) (w:World) (h:((blk bm (.cells #[.pointer (some ⟨X.p,0,none⟩),.map (some mp)] 138)).sep (mapA Tryz.prog 26 mp (K.map encK))).ho w):Calls Tryz.prog 103 #[.pointer (some ⟨bm,0,none⟩),.int .i64 (x:Nat),.int .i64 (y:Nat),.nilIface] w fun e w'=>e=.returned .nilIface∧St w ((blk bm (.cells #[.pointer (some ⟨X.p,0,none⟩),.map (some mp)] 138)).sep (mapA Tryz.prog 26 mp (K.map encK))).fp [blk bm (.cells #[.pointer (some ⟨X.p,0,none⟩),.map (some mp)] 138),mapA Tryz.prog 26 mp ((K++[(x,y)]).map encK)] w':=by
 have H:=(St.one h).sep;generalize ((blk bm (.cells #[.pointer (some ⟨X.p,0,none⟩),.map (some mp)] 138)).sep (mapA Tryz.prog 26 mp (K.map encK))).fp=N at H ⊢;obtain ⟨l,hl⟩:=id_key x hx;have HN:Hid (∀ e∈K.map encK,e.1≠.int .i64 (x:Nat)):=zh fun e he e1=>by
  obtain ⟨q,hq,rfl⟩:=List.mem_map.1 he;simp only [encK,Value.int.injEq,true_and] at e1;exact hn q hq (by omega)
 have HL:=zh hl;clear h hn hx hl;go_enter Tryz.func103,Tryz.ntmps103;go_wp2_with (first|refine sL ?_|(refine sS ?_;clear H;intros;rename_i H)|((with_reducible refine isUpdate ?_);refine AtUpdate.new keyed_26 mt_136 H rfl rfl rfl pk (k:=.int .i64 (x:Nat)) (v:=.int .i64 (y:Nat)) rfl rfl HL.out HN.out ?_;clear H;intro _ H;simp only [Act.put,puA,puB,puC]));go_ret;refine ⟨rfl,?_⟩;have:=H.picks (.cons (A:=blk bm (.cells #[.pointer (some ⟨X.p,0,none⟩),.map (some mp)] 138)) pk (.cons pk .nil));simpa [encK] using this
theorem tr_lt {S:Sto} (hS:S.Ok):∀ (i:Nat),i<S.list.length->∀ b∈(S.tr (i+1)).txt,b<256:=by
 intro i;induction i using Nat.strongRecOn with
 |_ i ih =>
  intro hi b hb;cases rule_of hS (zg hi) with
  |letter c hc hr hw ht =>
   rw [ht] at hb;simp [Tr.txt] at hb;omega
  |pair l r y z hl hr hy hz he hw hs ht =>
   rw [ht] at hb;simp only [Tr.txt,List.mem_append] at hb;rcases hb with hb|hb
   ·exact ih l hl (by omega) b hb
   ·exact ih r hr (by omega) b hb
  |pow l k y hl hy hk he hw hs ht =>
   rw [ht] at hb;simp only [Tr.txt] at hb;obtain ⟨t,ht2,hb⟩:=List.mem_flatten.1 hb;rw [(List.mem_replicate.1 ht2).2] at hb;exact ih l hl (by omega) b hb
theorem learn_c {X:Px} {bm mp x:Nat} {K:List (Nat×Nat)} (hX:PxOk X) (h1:1<=x) (h2:x<=X.S.list.length) (hn:∀ q∈K,q.1≠x) {L9:Nat} (hL9:L9<=256) (ht:(X.S.tr x).len<=L9) (hroom:X.S.list.length+2*L9<X.S.most) (hmost:X.S.most<=1048576) (w:World) (h:((pA X).sep ((blk bm (.cells #[.pointer (some ⟨X.p,0,none⟩),.map (some mp)] 138)).sep (mapA Tryz.prog 26 mp (K.map encK)))).ho w) (hd:(((pA X).sep ((blk bm (.cells #[.pointer (some ⟨X.p,0,none⟩),.map (some mp)] 138)).sep (mapA Tryz.prog 26 mp (K.map encK)))).sep deA).ho w) :
  Calls Tryz.prog 71 #[.pointer (some ⟨bm,0,none⟩),.int .i64 (x:Nat)] w fun e w'=>∃ (X':Px) (y:Nat),e=.returned (.tuple #[.int .i64 0,.nilIface])∧X.Ext X'∧PxOk X'∧IdIs X'.S y ((X.S.tr x).txt.map Tr.leaf)∧X'.S.list.length<=X.S.list.length+2*L9∧St w ((pA X).sep ((blk bm (.cells #[.pointer (some ⟨X.p,0,none⟩),.map (some mp)] 138)).sep (mapA Tryz.prog 26 mp (K.map encK)))).fp [pA X',blk bm (.cells #[.pointer (some ⟨X.p,0,none⟩),.map (some mp)] 138),mapA Tryz.prog 26 mp ((K++[(x,y)]).map encK)] w':=by
 have H:=((St.one h).sep.pick (A:=((blk bm (.cells #[.pointer (some ⟨X.p,0,none⟩),.map (some mp)] 138)).sep (mapA Tryz.prog 26 mp (K.map encK)))) pk).sep;rw [sep_ho] at hd;have HK:Ks w ((pA X).sep ((blk bm (.cells #[.pointer (some ⟨X.p,0,none⟩),.map (some mp)] 138)).sep (mapA Tryz.prog 26 mp (K.map encK)))).fp [deA]:=⟨by simpa using hd.2.1,by simpa using fun b hb hm=>hd.2.2 b hm hb⟩
 generalize ((pA X).sep ((blk bm (.cells #[.pointer (some ⟨X.p,0,none⟩),.map (some mp)] 138)).sep (mapA Tryz.prog 26 mp (K.map encK)))).fp=N at H HK ⊢;obtain ⟨t,htt⟩:∃ t,(X.S.tr x).txt=t:=⟨_,rfl⟩
 obtain ⟨n,hnn⟩:∃ n,t.length=n:=⟨_,rfl⟩
 have hln:(X.S.tr x).len=n:=(by rw [← Tr.txt_len,htt,hnn]);obtain ⟨j,hj⟩:∃ j,x=j+1:=⟨x-1,by omega⟩
 obtain ⟨en,hen⟩:∃ a,X.S.list[j]?=some a:=⟨_,zg (by omega)⟩
 have hlw:en.w.len=n:=(by rw [← hln,hj];exact (tr_len hX.ok j en hen).1.symm);have hlt:∀ b∈t,b<256:=(by rw [← htt,hj];exact tr_lt hX.ok j (by omega));have HS:Hid (∀ w,(pA X).ho w->Calls Tryz.prog 53 #[.pointer (some ⟨X.p,0,none⟩)] w fun e w'=>e=.returned (.pointer (some ⟨X.s,0,none⟩))∧w'=w):=zh fun w h=>store_p w h
 have hW:Hid (∀ w,(pA X).ho w->Calls Tryz.prog 40 #[.pointer (some ⟨X.s,0,none⟩),.int .i64 (x:Nat)] w fun e w'=>e=.returned (.tuple #[.agg #[.int .i64 (n:Nat),.int .i64 en.w.lines,.int .i64 en.w.head,.int .i64 en.w.tail,.int .u64 en.w.val,.int .u64 en.w.scale],.nilIface])∧St w [] [] w'):=zh fun w h=>by
  have:=weight_c (i:=x) (x:=en) (by rw [hj];exact hen) w (pA_sto h);rw [← hlw];exact this
 have HE:Hid (∀ w,(pA X).ho w->Calls Tryz.prog 78 #[.pointer (some ⟨X.s,0,none⟩),.int .i64 (x:Nat),.int .i64 0,.int .i64 (n:Nat)] w fun e w'=>∃ v':Value,e=.returned (.tuple #[v',.nilIface])∧St w [] [rowsA encT 5 1 v' t] w'):=zh fun w h=>extract_c hX.ok (.inr ⟨h1,h2,hln.symm,htt.symm⟩) (by omega) w (pA_sto h)
 have HO:Hid (∀ (v:Value) w,((pA X).sep deA).ho w->((pA X).sep (rowsA encT 5 1 v t)).ho w->Calls Tryz.prog 22 #[.pointer (some ⟨X.p,0,none⟩),v] w fun e w'=>∃ (X':Px) (id:Nat),e=.returned (.tuple #[.int .i64 id,.nilIface])∧X.Ext X'∧PxOk X'∧IdIs X'.S id (t.map Tr.leaf)∧X'.S.list.length<=X.S.list.length+2*t.length∧St w (pA X).fp [pA X'] w'):=zh fun v w h hr=>by
  rw [sep_ho] at hr;obtain ⟨P,r1,r2,r3⟩:=rowsA_pool hr.2.1 encT_len;exact of_any hX r1 hlt (by omega) (by omega) w h (by rw [sep_ho];exact ⟨hr.1,r2,fun b hb hc=>hr.2.2 b hb (r3 b hc)⟩)
 have HR:Hid (∀ (y:Nat) w,(((blk bm (.cells #[.pointer (some ⟨X.p,0,none⟩),.map (some mp)] 138)).sep (mapA Tryz.prog 26 mp (K.map encK)))).ho w->Calls Tryz.prog 103 #[.pointer (some ⟨bm,0,none⟩),.int .i64 (x:Nat),.int .i64 (y:Nat),.nilIface] w fun e w'=>e=.returned .nilIface∧St w (((blk bm (.cells #[.pointer (some ⟨X.p,0,none⟩),.map (some mp)] 138)).sep (mapA Tryz.prog 26 mp (K.map encK)))).fp [blk bm (.cells #[.pointer (some ⟨X.p,0,none⟩),.map (some mp)] 138),mapA Tryz.prog 26 mp ((K++[(x,y)]).map encK)] w'):=zh fun y w h=>remember_c (by omega) hn w h
 have hnb:n<=256:=(by omega);have hnb9:n<=L9:=(by omega);have HL:Hid (t.length=n∧n<=256∧n<=L9):=zh ⟨hnn,hnb,hnb9⟩;have d1:decide ((n:Int)<=256)=true:=(by simp;omega);have d1n:decide (n<=256)=true:=(by simp;omega);rw [htt];clear hnb9 hL9 h hd hX h1 h2 hn ht hroom hmost htt hnn hln hj hen hlw hlt;go_enter Tryz.func71,Tryz.ntmps71;go_wp2_with (first|refine sL ?_|(refine sS ?_;clear H;intros;rename_i H)|(go_at_call 53;with_reducible refine same (HS.out _ (H.get pk)) ?_)|(go_at_call 40;with_reducible refine zm (hW.out _ (H.get (A:=pA X) pk)) ?_;rintro e9 wc ⟨rfl,hb⟩;replace H:=H.grew hb.below;clear hb)|(go_at_call 78;with_reducible refine zm (HE.out _ (H.get pk)) ?_;rintro e9 wc ⟨v2,rfl,hb⟩;replace H:=zn (H.call0 hb);clear hb)|(go_at_call 22;with_reducible refine zm (HO.out v2 _ (H.sepK HK pk pk) (H.sepO pk pk)) ?_;rintro e9 wc ⟨X2,y2,rfl,y1,y3,y4,y5,hb⟩;have HZ:=zh (za y1 (za y3 (za y4 y5)));clear y1 y3 y4 y5;replace H:=zn ((H.pick pk).call hb);clear hb)|(go_at_call 103;with_reducible refine zm (HR.out y2 _ (St.ho (H.pick2 (A:=blk bm (.cells #[.pointer (some ⟨X.p,0,none⟩),.map (some mp)] 138)) (B:=mapA Tryz.prog 26 mp (K.map encK)) pk pk).join _ List.mem_cons_self)) ?_;rintro e9 wc ⟨rfl,hb⟩;replace H:=zn ((H.pick2 (A:=blk bm (.cells #[.pointer (some ⟨X.p,0,none⟩),.map (some mp)] 138)) (B:=mapA Tryz.prog 26 mp (K.map encK)) pk pk).join.call hb);clear hb));go_ret2;have h1:=HZ.out;have h2:=HL.out;exact ⟨X2,y2,rfl,h1.1,h1.2.1,h1.2.2.1,by omega,H.picks (.cons pk (.cons pk (.cons pk .nil)))⟩
end
section
open Go.RowKit Go.Maps
attribute [local go_sem] InGr strB_size
def OfR (X:Px) (N:List Nat) (w:World) (bm mp x b9:Nat) (K:List (Nat×Nat)) (L9:Nat) (m:Nat) (v:Value) (wr:World):Prop :=
 ∃ (X2:Px) (K2:List (Nat×Nat)),m<=2∧v=.slice (some ⟨b9,0,none⟩) (if m=0 then 0 else 1) 1∧(KnOk X2.S K2∧X.Ext X2∧PxOk X2∧X2.S.list.length<=X.S.list.length+2*L9∧((m=2∧X2=X∧K2=K)∨∃ y,(x,y)∈K2))∧St w N [pA X2,blk bm (.cells #[.pointer (some ⟨X.p,0,none⟩),.map (some mp)] 138),mapA Tryz.prog 26 mp (K2.map encK),blk b9 (.cells #[.int .i64 (x:Nat)] 26)] wr
theorem of_c {X:Px} {bm mp x:Nat} {K:List (Nat×Nat)} (hX:PxOk X) (h1:1<=x) (h2:x<=X.S.list.length) (hK:KnOk X.S K) {L9:Nat} (hL9:L9<=256) (ht:(X.S.tr x).len<=L9) (hroom:X.S.list.length+2*L9<X.S.most) (hmost:X.S.most<=1048576) (w:World) (h:((pA X).sep ((blk bm (.cells #[.pointer (some ⟨X.p,0,none⟩),.map (some mp)] 138)).sep (mapA Tryz.prog 26 mp (K.map encK)))).ho w) (hd:(((pA X).sep ((blk bm (.cells #[.pointer (some ⟨X.p,0,none⟩),.map (some mp)] 138)).sep (mapA Tryz.prog 26 mp (K.map encK)))).sep deA).ho w) :
  Calls Tryz.prog 35 #[.pointer (some ⟨bm,0,none⟩),.int .i64 (x:Nat)] w fun e w'=>∃ (X':Px) (K':List (Nat×Nat)) (y:Nat),e=.returned (.tuple #[.int .i64 y,.nilIface])∧X.Ext X'∧PxOk X'∧KnOk X'.S K'∧IdIs X'.S y (((X.S.tr x).txt.map Tr.leaf))∧X'.S.list.length<=X.S.list.length+2*L9∧St w ((pA X).sep ((blk bm (.cells #[.pointer (some ⟨X.p,0,none⟩),.map (some mp)] 138)).sep (mapA Tryz.prog 26 mp (K.map encK)))).fp [pA X',blk bm (.cells #[.pointer (some ⟨X.p,0,none⟩),.map (some mp)] 138),mapA Tryz.prog 26 mp (K'.map encK)] w':=by
 have H:=((St.one h).sep.pick (A:=((blk bm (.cells #[.pointer (some ⟨X.p,0,none⟩),.map (some mp)] 138)).sep (mapA Tryz.prog 26 mp (K.map encK)))) pk).sep;rw [sep_ho] at hd;have HK:Ks w ((pA X).sep ((blk bm (.cells #[.pointer (some ⟨X.p,0,none⟩),.map (some mp)] 138)).sep (mapA Tryz.prog 26 mp (K.map encK)))).fp [deA]:=⟨by simpa using hd.2.1,by simpa using fun b hb hm=>hd.2.2 b hm hb⟩
 have HLN:Hid (∀ w,((pA X).sep ((blk bm (.cells #[.pointer (some ⟨X.p,0,none⟩),.map (some mp)] 138)).sep (mapA Tryz.prog 26 mp (K.map encK)))).ho w->(((pA X).sep ((blk bm (.cells #[.pointer (some ⟨X.p,0,none⟩),.map (some mp)] 138)).sep (mapA Tryz.prog 26 mp (K.map encK)))).sep deA).ho w->(∀ q∈K,q.1≠x)->Calls Tryz.prog 71 #[.pointer (some ⟨bm,0,none⟩),.int .i64 (x:Nat)] w fun e w'=>∃ (X':Px) (y:Nat),e=.returned (.tuple #[.int .i64 0,.nilIface])∧X.Ext X'∧PxOk X'∧IdIs X'.S y (((X.S.tr x).txt.map Tr.leaf))∧X'.S.list.length<=X.S.list.length+2*L9∧St w ((pA X).sep ((blk bm (.cells #[.pointer (some ⟨X.p,0,none⟩),.map (some mp)] 138)).sep (mapA Tryz.prog 26 mp (K.map encK)))).fp [pA X',blk bm (.cells #[.pointer (some ⟨X.p,0,none⟩),.map (some mp)] 138),mapA Tryz.prog 26 mp ((K++[(x,y)]).map encK)] w'):=zh fun w h hd hn=>learn_c hX h1 h2 hn hL9 ht hroom hmost w h hd
 generalize ((pA X).sep ((blk bm (.cells #[.pointer (some ⟨X.p,0,none⟩),.map (some mp)] 138)).sep (mapA Tryz.prog 26 mp (K.map encK)))).fp=N at H HK ⊢;have HS:Hid (∀ w,(pA X).ho w->Calls Tryz.prog 53 #[.pointer (some ⟨X.p,0,none⟩)] w fun e w'=>e=.returned (.pointer (some ⟨X.s,0,none⟩))∧w'=w):=zh fun w h=>store_p w h
 have HLE:Hid (∀ w,(pA X).ho w->Calls Tryz.prog 38 #[.pointer (some ⟨X.s,0,none⟩)] w fun e w'=>e=.returned (.int .i64 (X.S.list.length:Nat))∧w'=w):=zh fun w h=>len_c w (pA_sto h)
 obtain ⟨ln,hln⟩:∃ k,X.S.list.length=k:=⟨_,rfl⟩
 rw [hln] at HLE;have HIN:Hid (PxOk X∧1<=x∧x<=ln∧KnOk X.S K∧X.S.list.length=ln∧ln<=1048576):=zh ⟨hX,h1,by omega,hK,hln,by omega⟩;have d1:decide ((x:Int)<0)=false:=(by simp);have d2:decide ((ln:Int)<(x:Int))=false:=(by simp;omega);have d2n:decide (ln<x)=false:=(by simp;omega);have d3:((x:Int)==0)=false:=(by simp;omega);have hxb:x<=1152921504606846976:=(by omega);clear hL9 hX h1 h2 hK ht hroom hmost h hd hln;go_enter Tryz.func35,Tryz.ntmps35;go_wp2_with (first|refine sL ?_|(refine sS ?_;clear H;intros;rename_i H)|(go_at_call 53;with_reducible refine same (HS.out _ (H.get pk)) ?_)|(go_at_call 38;with_reducible refine same (HLE.out _ (H.get pk)) ?_)|((with_reducible refine isSlice ?_);refine AtSlice.one H rfl rfl rfl rfl rfl rfl rfl rfl rfl ?_;clear H;intro b9 _ H;simp only [Act.put,puA,puB,puC]));go_loopg [6] 2 (fun m v6 wr=>OfR X N w bm mp x b9 K L9 m v6 wr);case atStart=>exact ⟨X,K,Nat.le_refl _,rfl,⟨HIN.out.2.2.2.1,.refl _,HIN.out.1,by omega,.inl ⟨rfl,rfl,rfl⟩⟩,H.picks (.cons pk (.cons pk (.cons pk (.cons pk .nil))))⟩
 case round =>
  clear H;obtain ⟨X2,K2,hm2,rfl,hrel,H⟩:=hrel;have HRL:=zh hrel;rcases Nat.eq_zero_or_pos gk with hm0|hm0
  ·subst hm0;simp only [if_true];have hy0:∃ y,(x,y)∈K2:=by
    rcases hrel.2.2.2.2 with ⟨h,_⟩|h
    ·omega
    ·exact h
   rcases kn_look (x:=x) false hxb (H.get (A:=mapA Tryz.prog 26 mp (K2.map encK)) pk) with ⟨y,hy,hlk⟩|⟨hno,_⟩
   ·simp only [Bool.false_eq_true,if_false] at hlk;have HY:=zh hy;clear hrel hy hy0;go_wp2_with (first|refine sL ?_|(refine sS ?_;clear H;intros;rename_i H));go_ret2;have h1:=HRL.out;have h3:=HIN.out;obtain ⟨k1,k2,k3⟩:=h1.1 _ HY.out;simp only at k3;rw [h1.2.1.le.tr h3.1.ok h3.2.1 (by omega)] at k3;exact ⟨X2,K2,y,rfl,h1.2.1,h1.2.2.1,h1.1,k3,h1.2.2.2.1,H.picks (.cons pk (.cons pk (.cons pk .nil)))⟩
   ·obtain ⟨y,hy⟩:=hy0;exact absurd rfl (hno _ hy)
  ·have hm1:¬ gk=0:=(by omega);simp only [hm1,if_false];rcases kn_look (x:=x) true hxb (H.get (A:=mapA Tryz.prog 26 mp (K2.map encK)) pk) with ⟨y,hy,hlk⟩|⟨hno,hlk⟩
   ·simp only [if_true] at hlk;have HY:=zh hy;clear hrel hy;go_wp2_with (first|refine sL ?_|(refine sS ?_;clear H;intros;rename_i H));go_roundg 0;case measure=>omega
    case rel=>exact ⟨X2,K2,by omega,rfl,⟨HRL.out.1,HRL.out.2.1,HRL.out.2.2.1,HRL.out.2.2.2.1,.inr ⟨y,HY.out⟩⟩,H.picks (.cons pk (.cons pk (.cons pk (.cons pk .nil))))⟩
   ·simp only [if_true] at hlk;rcases hrel.2.2.2.2 with ⟨e1,e2,e3⟩|⟨y,hy⟩
    ·subst e1;obtain rfl:=e2.symm;obtain rfl:=e3.symm;have HNO:=zh hno;clear hrel hno e2 e3;go_wp2_with (first|refine sL ?_|(refine sS ?_;clear H;intros;rename_i H)|(go_at_call 71;with_reducible refine zm (HLN.out _ ((St.join3 (H.pick3 (A:=pA X) (B:=blk bm (.cells #[.pointer (some ⟨X.p,0,none⟩),.map (some mp)] 138)) (C:=mapA Tryz.prog 26 mp (K.map encK)) pk pk pk)).ho _ List.mem_cons_self) ((St.join3 (H.pick3 (A:=pA X) (B:=blk bm (.cells #[.pointer (some ⟨X.p,0,none⟩),.map (some mp)] 138)) (C:=mapA Tryz.prog 26 mp (K.map encK)) pk pk pk)).sepK HK .here pk) HNO.out) ?_;rintro e9 wc ⟨X3,y3,rfl,y1,y2,y4,y5,hb⟩;have HZ:=zh (za y1 (za y2 (za y4 y5)));clear y1 y2 y4 y5;replace H:=(St.join3 (H.pick3 (A:=pA X) (B:=blk bm (.cells #[.pointer (some ⟨X.p,0,none⟩),.map (some mp)] 138)) (C:=mapA Tryz.prog 26 mp (K.map encK)) pk pk pk)).call hb;clear hb hlk;simp only [List.cons_append,List.nil_append] at H));go_roundg 1;case measure=>omega
     case rel =>
      have h1:=HZ.out;have h3:=HIN.out;have hkn:KnOk X3.S (K++[(x,y3)]):=fun q hq=>by
       rcases List.mem_append.1 hq with hq|hq
       ·exact (h3.2.2.2.1.le h3.1.ok h1.1.le) q hq
       ·simp at hq;subst hq;refine ⟨h3.2.1,?_,?_⟩
        ·have:=h1.1.le.len;simp only;omega
        ·rw [h1.1.le.tr h3.1.ok h3.2.1 (by omega)];exact h1.2.2.1
      exact ⟨X3,K++[(x,y3)],by omega,rfl,⟨hkn,h1.1,h1.2.1,h1.2.2.2,.inr ⟨y3,by simp⟩⟩,H.picks (.cons pk (.cons pk (.cons pk (.cons pk .nil))))⟩
    ·exact absurd rfl (hno _ hy)
end
section
def ownT (t:Tr):Nat:=if t.len<=256 then 2*t.len else match t with|.leaf _=>2|.pair _ _=>t.len|.pow _ _=>4*t.len
def costT:Tr->Nat
 |.leaf b=>2
 |.pair l r=>if (Tr.pair l r).len<=256 then 2*(Tr.pair l r).len else (Tr.pair l r).len+costT l+costT r
 |.pow s k=>if (Tr.pow s k).len<=256 then 2*(Tr.pow s k).len else 4*(Tr.pow s k).len+costT s
theorem costT_low {t:Tr} (h:t.len<=256):costT t=2*t.len:=by
 cases t with
 |leaf b=>simp [costT,Tr.len]
 |pair l r=>rw [costT,if_pos h]
 |pow s k=>rw [costT,if_pos h]
theorem ownT_cost (t:Tr):ownT t<=costT t:=by
 unfold ownT;split
 ·rename_i h;rw [costT_low h];exact Nat.le_refl _
 ·rename_i h;cases t with
  |leaf b=>simp [costT]
  |pair l r=>rw [costT,if_neg h];simp only;omega
  |pow s k=>rw [costT,if_neg h];simp only;omega
theorem ownT_le {t:Tr} (h:t.len<=300):ownT t<=1200:=by
 unfold ownT;split
 ·omega
 ·cases t <;> simp only <;> omega
theorem costT_le:∀ {t:Tr},t.Pow2->t.len<=300->costT t<=1500+302*(t.len-256)
 |.leaf b,_,_=>by simp only [costT];omega
 |.pair l r,h,hl=>by
  by_cases h1:(Tr.pair l r).len<=256
  ·rw [costT_low h1];omega
  ·rw [costT,if_neg h1];have e:(Tr.pair l r).len=l.len+r.len:=rfl;have hl1:=pow2_len h.1;have hr1:=pow2_len h.2;by_cases h2:l.len<=256
   ·rw [costT_low h2];by_cases h3:r.len<=256
    ·rw [costT_low h3];omega
    ·have:=costT_le h.2 (by omega);omega
   ·have:=costT_le h.1 (by omega);rw [costT_low (t:=r) (by omega)];omega
 |.pow s k,h,hl=>by
  by_cases h1:(Tr.pow s k).len<=256
  ·rw [costT_low h1];omega
  ·rw [costT,if_neg h1];have e:(Tr.pow s k).len=s.len*k:=rfl;have h2:s.len*2<=s.len*k:=Nat.mul_le_mul_left _ h.2;rw [costT_low (t:=s) (by omega)];omega
def kidN (S:Sto) (Q:List Nat) (c:Nat):Nat:=if c=0∨c∈Q then 0 else costT (S.tr c)
def need (S:Sto) (Q:List Nat) (x:Nat):Nat :=
 if (S.tr x).len<=256 then ownT (S.tr x) else match S.list[x-1]? with|some e=>ownT (S.tr x)+kidN S Q e.r.left+kidN S Q e.r.right|none=>ownT (S.tr x)
theorem kidN_mono {S:Sto} {Q Q':List Nat} (h:∀ c∈Q,c∈Q') (c:Nat):kidN S Q' c<=kidN S Q c:=by
 unfold kidN;by_cases h1:c=0∨c∈Q
 ·rw [if_pos (h1.elim .inl fun h1=>.inr (h _ h1))];exact Nat.zero_le _
 ·rw [if_neg h1];split
  ·exact Nat.zero_le _
  ·exact Nat.le_refl _
theorem need_mono {S:Sto} {Q Q':List Nat} (h:∀ c∈Q,c∈Q') (x:Nat):need S Q' x<=need S Q x:=by
 unfold need;split
 ·exact Nat.le_refl _
 ·split
  ·rename_i e _;have:=kidN_mono (S:=S) h e.r.left;have:=kidN_mono (S:=S) h e.r.right;omega
  ·exact Nat.le_refl _
theorem own_need (S:Sto) (Q:List Nat) (x:Nat):ownT (S.tr x)<=need S Q x:=by
 unfold need;split
 ·exact Nat.le_refl _
 ·split
  ·omega
  ·exact Nat.le_refl _
theorem kidN_le (S:Sto) (Q:List Nat) (c:Nat):kidN S Q c<=costT (S.tr c):=by unfold kidN;split <;> omega
theorem need_cost {S:Sto} (hS:S.Ok) (Q:List Nat) {x:Nat} (h1:1<=x) (h2:x<=S.list.length):need S Q x<=costT (S.tr x):=by
 obtain ⟨i,rfl⟩:=Nat.exists_eq_succ_of_ne_zero (show x≠0 by omega);unfold need;by_cases hl:(S.tr (i+1)).len<=256
 ·rw [if_pos hl];exact ownT_cost _
 ·rw [if_neg hl];have hx:S.list[i+1-1]?=some (S.list[i]'(by omega)):=(by simp);rw [hx];simp only;have h0:kidN S Q 0=0:=(by simp [kidN]);have hx2:S.list[i]?=some (S.list[i]'(by omega)):=(by simp);cases rule_of hS hx2 with
  |letter b hb hr hw ht=>rw [ht] at hl;simp [Tr.len] at hl
  |pair l r y z hl' hr hy hz he hw hs ht =>
   rw [he];have k1:=kidN_le S Q (l+1);have k2:=kidN_le S Q (r+1);rw [ht] at hl ⊢;rw [costT,if_neg hl];unfold ownT;rw [if_neg hl];simp only;omega
  |pow l k y hl' hy hk he hw hs ht =>
   rw [he];have k1:=kidN_le S Q (l+1);rw [ht] at hl ⊢;rw [costT,if_neg hl];unfold ownT;rw [if_neg hl];simp only;rw [h0];omega
def RefOf (S:Sto) (x c:Nat):Prop:=1<=c∧∃ e,S.list[x-1]?=some e∧(c=e.r.left∨c=e.r.right)
theorem need_push {S:Sto} {Q:List Nat} {x c:Nat} (hl:¬ (S.tr x).len<=256) (h:RefOf S x c) (hc:c ∉ Q):need S (c::Q) x+costT (S.tr c)<=need S Q x:=by
 obtain ⟨h1,e,he,h2⟩:=h;unfold need;rw [if_neg hl,if_neg hl,he];simp only;have k1:=kidN_mono (S:=S) (Q:=Q) (Q':=c::Q) (fun d hd=>List.mem_cons_of_mem _ hd) e.r.left;have k2:=kidN_mono (S:=S) (Q:=Q) (Q':=c::Q) (fun d hd=>List.mem_cons_of_mem _ hd) e.r.right;have k3:kidN S (c::Q) c=0:=(by simp [kidN]);have k4:kidN S Q c=costT (S.tr c):=(by unfold kidN;rw [if_neg (fun h=>h.elim (fun h=>by omega) fun h=>hc h)]);rcases h2 with h2|h2
 ·rw [← h2] at k1 ⊢;omega
 ·rw [← h2] at k2 ⊢;omega
def lowS (S:Sto) (Q:List Nat):Nat->List Nat->Nat
 |_,[]=>0
 |c,p::r=>need S (c::Q) p+lowS S Q p r
def Pot (S:Sto) (Q:List Nat):List Nat->Nat
 |[]=>0
 |x::r=>(if x∈Q then 0 else need S Q x)+lowS S Q x r
theorem lowS_mono {S:Sto} {Q Q':List Nat} (h:∀ c∈Q,c∈Q'):∀ (c:Nat) (r:List Nat),lowS S Q' c r<=lowS S Q c r
 |_,[]=>Nat.le_refl _
 |c,p::r=>by
  have h1:=need_mono (S:=S) (Q:=c::Q) (Q':=c::Q') (fun d hd=>by
   rcases List.mem_cons.1 hd with rfl|hd
   ·exact List.mem_cons_self
   ·exact List.mem_cons_of_mem _ (h d hd)) p
  have h2:=lowS_mono (S:=S) h p r;simp only [lowS];omega
theorem pot_push {S:Sto} (hS:S.Ok) {Q:List Nat} {x c:Nat} {r:List Nat} (hx:x ∉ Q) (hl:¬ (S.tr x).len<=256) (h:RefOf S x c) (hc:c ∉ Q) (hc2:c<=S.list.length):Pot S Q (c::x::r)<=Pot S Q (x::r):=by
 have h1:=need_push hl h hc;have h2:=need_cost hS Q h.1 hc2;simp only [Pot,lowS];rw [if_neg hx,if_neg hc];omega
theorem pot_learn {S:Sto} {Q Q':List Nat} {x:Nat} {r:List Nat} (hx:x ∉ Q) (h:∀ c∈Q,c∈Q') (hx':x∈Q'):Pot S Q' (x::r)+ownT (S.tr x)<=Pot S Q (x::r):=by
 have h1:=own_need S Q x;have h2:=lowS_mono (S:=S) h x r;simp only [Pot];rw [if_neg hx,if_pos hx'];omega
theorem pot_pop {S:Sto} {Q:List Nat} {x:Nat} {r:List Nat} (hx:x∈Q):Pot S Q r<=Pot S Q (x::r):=by
 cases r with
 |nil=>simp [Pot]
 |cons p r =>
  have h1:=need_mono (S:=S) (Q:=x::Q) (Q':=Q) (fun d hd=>by
   rcases List.mem_cons.1 hd with rfl|hd
   ·exact hx
   ·exact hd) p
  simp only [Pot,lowS];rw [if_pos hx];split <;> omega
theorem pot_start {S:Sto} (hS:S.Ok) {Q:List Nat} {x:Nat} (h1:1<=x) (h2:x<=S.list.length):Pot S Q [x]<=costT (S.tr x):=by
 have:=need_cost hS Q h1 h2;simp only [Pot,lowS];split <;> omega
def unkN (n:Nat) (Q:List Nat):Nat:=((List.range (n+1)).filter fun i=>decide (i ∉ Q)).length
theorem unkN_learn {n x:Nat} {Q Q':List Nat} (h:∀ c∈Q,c∈Q') (hx:x<=n) (h1:x ∉ Q) (h2:x∈Q'):unkN n Q'+1<=unkN n Q:=by
 unfold unkN;have hm:x∈List.range (n+1):=List.mem_range.2 (by omega);generalize List.range (n+1)=l at hm ⊢;induction l with
 |nil=>simp at hm
 |cons y l ih =>
  have hmono:(l.filter fun i=>decide (i ∉ Q')).length<=(l.filter fun i=>decide (i ∉ Q)).length:=by
   clear ih hm;induction l with
   |nil=>simp
   |cons z l ih =>
    simp only [List.filter_cons];by_cases h3:z∈Q
    ·have:=h z h3;simp [h3,this];simpa using ih
    ·by_cases h4:z∈Q'
     ·simp [h3,h4];have:_<=_:=ih;simp at this;omega
     ·simp [h3,h4];simpa using ih
  simp only [List.filter_cons];rcases List.mem_cons.1 hm with e|hm
  ·subst e;simp [h1,h2];simpa using hmono
  ·have ih:=ih hm;by_cases h3:y∈Q
   ·have:=h y h3;simp [h3,this];simpa using ih
   ·by_cases h4:y∈Q'
    ·simp [h3,h4];simp at ih;omega
    ·simp [h3,h4];simp at ih;omega
end
section
def pend (f:Tr->Tr->Bool):List Tr->Option Tr
 |[]=>none
 |[x]=>some x
 |x::y::r=>if f x y=true then pend f r else pend f (y::r)
theorem pairs_cut (f:Tr->Tr->Bool):∀ (a b:List Tr),(∀ x y,pend f a=some x->b.head?=some y->f x y=false)->pairsF f (a++b)=pairsF f a++pairsF f b∧(b≠[]->pend f (a++b)=pend f b)
 |[],b,_=>⟨rfl,fun _=>rfl⟩
 |[x],[],h=>⟨rfl,fun h=>absurd rfl h⟩
 |[x],y::b,h=>by
  have:=h x y rfl rfl;exact ⟨by simp [pairsF,this],fun _=>by simp [pend,this]⟩
 |x::y::r,b,h=>by
  by_cases hf:f x y=true
  ·have ih:=pairs_cut f r b (by simpa [pend,hf] using h);exact ⟨by simp [pairsF,hf,ih.1],fun hb=>by simp [pend,hf,ih.2 hb]⟩
  ·have ih:=pairs_cut f (y::r) b (by simpa [pend,hf] using h);simp only [List.cons_append] at ih;exact ⟨by simp [pairsF,hf,ih.1],fun hb=>by simp [pend,hf,ih.2 hb]⟩
theorem pairs_glue (f:Tr->Tr->Bool):∀ (a b c:List Tr) (x y:Tr),pend f a=some x->b.head?=some y->f x y=true->pairsF f (a++b)≠pairsF f a++c
 |[],b,c,x,y,h,_,_=>by simp [pend] at h
 |[z],[],c,x,y,h,h2,_=>by simp at h2
 |[z],u::b,c,x,y,h,h2,h3=>by
  simp [pend] at h h2;subst h h2;intro e;simp [pairsF,h3] at e;exact pair_ne_left _ _ e.1
 |z::w::r,b,c,x,y,h,h2,h3=>by
  by_cases hf:f z w=true
  ·have ih:=pairs_glue f r b c x y (by simpa [pend,hf] using h) h2 h3;intro e;simp [pairsF,hf] at e;exact ih e
  ·have ih:=pairs_glue f (w::r) b c x y (by simpa [pend,hf] using h) h2 h3;intro e;simp only [List.cons_append] at ih;simp [pairsF,hf] at e;exact ih e
theorem powT_inj {w:Tr} {k j:Nat} (hk:1<=k) (hj:1<=j) (h:powT (w,k+1)=powT (w,j+1)):k=j:=by
 simp only [powT] at h;rw [if_neg (by omega),if_neg (by omega)] at h;injection h with _ h
 omega
theorem pow_ne_self (x:Tr) (k:Nat):Tr.pow x k≠x:=by
 intro h;have:SizeOf.sizeOf (Tr.pow x k)=SizeOf.sizeOf x:=by rw [h]
 simp at this;omega
theorem runs_glue:∀ (a b c:List Tr) (x:Tr),a.getLast?=some x->b.head?=some x->runs (a++b)≠runs a++c
 |[],b,c,x,h,_=>by simp at h
 |[z],[],c,x,h,h2=>by simp at h2
 |[z],u::b,c,x,h,h2=>by
  simp at h h2;subst h h2;intro e;obtain ⟨k,g,hg⟩:=groups_head u b;have hk:=(groups_ne (u::b) (u,k) (by rw [hg];simp)).1;simp only [List.cons_append,List.nil_append,runs] at e;rw [groups,hg] at e;simp only [if_true,List.map_cons,groups,List.map_nil,List.cons_append,List.nil_append] at e;injection e with e _
  simp only [powT] at e;rw [if_neg (by simp at hk;omega)] at e;exact pow_ne_self _ _ e
 |z::w::r,b,c,x,h,h2=>by
  have ih:=runs_glue (w::r) b c x (by simpa using h) h2;intro e;refine ih ?_;obtain ⟨k,g,hg⟩:=groups_head w (r++b);obtain ⟨k',g',hg'⟩:=groups_head w r;have hk:=(groups_ne (w::(r++b)) (w,k) (by rw [hg];simp)).1;have hk':=(groups_ne (w::r) (w,k') (by rw [hg'];simp)).1;simp only [runs,List.cons_append] at e ⊢;rw [groups,hg,groups,hg'] at e;rw [hg,hg'];simp only at e hk hk';by_cases hz:z=w
  ·rw [if_pos hz,if_pos hz] at e;simp only [List.map_cons,List.cons_append,List.cons.injEq] at e ⊢;exact ⟨by rw [powT_inj hk hk' e.1],e.2⟩
  ·rw [if_neg hz,if_neg hz] at e;simp only [List.map_cons,List.cons_append,List.cons.injEq] at e ⊢;exact e.2
def CutP (m:Nat) (a b:List Tr):Prop:=if m%2=1 then ∀ x y,a.getLast?=some x->b.head?=some y->x≠y else ∀ x y,pend (fits m) a=some x->b.head?=some y->fits m x y=false
theorem CutP.step {m:Nat} {a b:List Tr} (h:CutP m a b):stepP m (a++b)=stepP m a++stepP m b:=by
 unfold CutP at h;unfold stepP;split at h
 ·rename_i h1;rw [if_pos h1,if_pos h1,if_pos h1];exact runs_append h
 ·rename_i h1;rw [if_neg h1,if_neg h1,if_neg h1];exact (pairs_cut _ a b h).1
theorem CutP.of {m:Nat} {a b c:List Tr} (h:stepP m (a++b)=stepP m a++c):CutP m a b:=by
 unfold stepP at h;unfold CutP;split
 ·rename_i h1;rw [if_pos h1,if_pos h1] at h;intro x y hx hy e;subst e;exact runs_glue a b c x hx hy h
 ·rename_i h1;rw [if_neg h1,if_neg h1] at h;intro x y hx hy;cases hf:fits m x y with
  |false=>rfl
  |true=>exact absurd h (pairs_glue _ a b c x y hx hy hf)
theorem CutP.more {m:Nat} {a b d:List Tr} (h:CutP m a b) (hb:b≠[]) (h2:CutP m b d):CutP m (a++b) d:=by
 unfold CutP at h h2 ⊢;split at h
 ·rename_i h1;rw [if_pos h1] at h2 ⊢;intro x y hx hy;refine h2 x y ?_ hy;rw [List.getLast?_append] at hx;cases hl:b.getLast? with
  |none=>rw [List.getLast?_eq_none_iff] at hl;exact absurd hl hb
  |some z=>rw [hl] at hx;simpa using hx
 ·rename_i h1;rw [if_neg h1] at h2 ⊢;intro x y hx hy;rw [(pairs_cut _ a b h).2 hb] at hx;exact h2 x y hx hy
theorem CutP.head {m:Nat} {a b d:List Tr} (h:CutP m a b) (hd:d.head?=b.head?):CutP m a d:=by
 unfold CutP at h ⊢;rw [hd];exact h
theorem rep_succ (k:Nat) (u:List Tr):(List.replicate (k+1) u).flatten=u++(List.replicate k u).flatten:=by simp [List.replicate_succ]
theorem step_rep {m:Nat} {u:List Tr} (h:CutP m u u):∀ k,stepP m (List.replicate k u).flatten=(List.replicate k (stepP m u)).flatten
 |0=>by simp [stepP,runs,groups,pairsF]
 |1=>by simp
 |k+2=>by
  rw [rep_succ,rep_succ (k+1) (stepP m u),← step_rep h (k+1)];cases hu:u with
  |nil=>simp [stepP,runs,groups,pairsF]
  |cons x r =>
   rw [← hu];refine (h.head (d:=(List.replicate (k+1) u).flatten) ?_).step;rw [rep_succ,hu];simp
theorem canon_rep {t:Tr} {k:Nat} (h:Canon t) (he:t.lv%2=0) (hk:2<=k) (hc:∀ l,l<t.lv->CutP (l+1) (t.lay l) (t.lay l)):Canon (.pow t k)∧(Tr.pow t k).lay 0=(List.replicate k (t.lay 0)).flatten:=by
 have hl:∀ l,l<=t.lv->seqP (List.replicate k (t.lay 0)).flatten l=(List.replicate k (t.lay l)).flatten:=fun l=>by
  induction l with
  |zero=>intro _;rfl
  |succ l ih =>
   intro hl;rw [show seqP (List.replicate k (t.lay 0)).flatten (l+1)=stepP (l+1) (seqP (List.replicate k (t.lay 0)).flatten l) from rfl,ih (by omega),step_rep (hc l (by omega)),h.step]
 have h1:=hl t.lv (Nat.le_refl _);rw [lay_low (Nat.le_refl _)] at h1;have h2:seqP (List.replicate k (t.lay 0)).flatten (t.lv+1)=[.pow t k]:=by
  rw [show seqP (List.replicate k (t.lay 0)).flatten (t.lv+1)=stepP (t.lv+1) (seqP (List.replicate k (t.lay 0)).flatten t.lv) from rfl,h1];unfold stepP;rw [if_pos (by omega)];have e:(List.replicate k [t]).flatten=([(t,k)]:List (Tr×Nat)).flatMap fun p=>List.replicate p.2 p.1:=by simp [List.flatten_replicate_singleton]
  unfold runs;have hg:groups ((([(t,k)]:List (Tr×Nat))).flatMap fun p=>List.replicate p.2 p.1)=[(t,k)]:=groups_of (fun p hp=>by simp at hp;subst hp;show 1<=k;omega) trivial;rw [e,hg];simp only [List.map_cons,List.map_nil,powT];rw [if_neg (by omega)]
 have hls:Leaves (List.replicate k (t.lay 0)).flatten:=fun x hx=>by
  obtain ⟨l,hl,hx⟩:=List.mem_flatten.1 hx;rw [(List.mem_replicate.1 hl).2] at hx;exact h.leaves x hx
 have:=canon_of hls h2;exact ⟨this.1,this.2.1⟩
theorem canon_pow_mul {t:Tr} {n k:Nat} (h:Canon (.pow t n)) (hk:2<=k):Canon (.pow t k):=by
 have hn:2<=n:=h.gd.2.2;have hct:Canon t:=h.kid (j:=0) (by simp only [kids];rw [List.getElem?_replicate,if_pos (by omega)]);obtain ⟨a,ha⟩:=h.gd.1;obtain ⟨b,hb,hb2,rfl⟩:=lev_pow_inv ha;have hlv:t.lv=b:=lv_of hb;have hpl:(Tr.pow t n).lv=b+1:=lv_of ha;refine (canon_rep hct (by omega) hk fun l hl=>?_).1;have hlay:∀ l,l<=b->(Tr.pow t n).lay l=(List.replicate n (t.lay l)).flatten:=fun l hl=>by
  simp only [Tr.lay];rw [if_neg (by omega)]
 have hs:=h.step l;rw [hlay l (by omega),hlay (l+1) (by omega)] at hs;obtain ⟨n',rfl⟩:∃ n',n=n'+2:=⟨n-2,by omega⟩
 rw [rep_succ,rep_succ (n'+1) (t.lay (l+1)),← hct.step l] at hs;refine (CutP.of hs).head ?_;rw [rep_succ];cases hu:t.lay l with
 |nil=>simp
 |cons x r=>simp
theorem let0_pos {l:List Tr} (h:∀ t∈l,t.Pow2) (h0:let0 l=0):l=[]:=by
 cases l with
 |nil=>rfl
 |cons x l =>
  have:=lay_pos (m:=0) (h x (by simp));simp only [let0,List.flatMap_cons,List.length_append] at h0;omega
theorem EndL.pre {a:Tr} {m:Nat} {d:EndP} {L:List Tr} (h:EndL a m d L):∃ Z,a.lay m=L++Z:=by
 obtain ⟨p,o⟩:=d;cases o with
 |none=>obtain ⟨_,rfl⟩:=h;exact ⟨_,rfl⟩
 |some x =>
  have h:EdL a m p x L:=h;have:=h.zip.lay h.above;rw [lay_low h.low] at this;exact ⟨_,by rw [this,h.eq]⟩
theorem EndR.suf {a:Tr} {m:Nat} {d:EndP} {R:List Tr} (h:EndR a m d R):∃ Z,a.lay m=Z++R:=by
 obtain ⟨p,o⟩:=d;cases o with
 |none=>obtain ⟨_,rfl⟩:=h;exact ⟨a.lay m,by simp⟩
 |some x =>
  have h:EdR a m p x R:=h;have:=h.zip.lay h.above;rw [lay_low h.low] at this;exact ⟨before m p,by rw [this,h.eq];simp⟩
theorem let0_lay (a:Tr) (m:Nat):let0 (a.lay m)=(a.lay 0).length:=by
 unfold let0;rw [lay_lay (Nat.zero_le m)]
theorem SpI.both {t:Tr} {i n m:Nat} {d e:EndP} (h:SpI t t (t.lay 0++t.lay 0) i n m d e []):seqP (t.lay 0++t.lay 0) m=t.lay m++t.lay m:=by
 obtain ⟨L,R,h1,h2,h3,_,_⟩:=h.ex;obtain ⟨Z,hZ⟩:=h1.pre;obtain ⟨Y,hY⟩:=h2.suf;have hp:∀ u∈t.lay m,u.Pow2:=fun u hu=>seq_pow2 h.ca.leaves m u (by rw [h.ca.seq];exact hu)
 have hls:Leaves (t.lay 0++t.lay 0):=fun u hu=>by
  rcases List.mem_append.1 hu with hu|hu <;> exact h.ca.leaves u hu
 have hf:=seq_flat hls 0 m;rw [Nat.zero_add,h3] at hf;have h4:=congrArg List.length hf;have e1:=let0_lay t m;rw [hZ,let0_append] at e1;have e2:=let0_lay t m;rw [hY,let0_append] at e2;have e3:let0 (L++expI []++R)=let0 L+let0 R:=(by rw [let0_append,let0_append];simp [expI_nil,let0]);have e4:let0 (L++expI []++R)=(t.lay 0++t.lay 0).length:=by
  unfold let0;rw [hf];rfl
 rw [List.length_append] at e4;have z1:Z=[]:=let0_pos (fun u hu=>hp u (by rw [hZ];simp [hu])) (by omega);have z2:Y=[]:=let0_pos (fun u hu=>hp u (by rw [hY];simp [hu])) (by omega);subst z1 z2;rw [h3];simp at hZ hY;rw [← hZ,expI_nil,List.append_nil,← hY,hZ]
theorem canon_apart {t:Tr} {k:Nat} (h:Canon t) (he:t.lv%2=0) (hk:2<=k) (hc:∀ l,l<=t.lv->seqP (t.lay 0++t.lay 0) l=t.lay l++t.lay l):Canon (.pow t k)∧(Tr.pow t k).lay 0=(List.replicate k (t.lay 0)).flatten:=by
 refine canon_rep h he hk fun l hl=>CutP.of (c:=t.lay (l+1)) ?_
 rw [← hc l (by omega),h.step,← hc (l+1) hl];rfl
end
section
open Go.RowKit Go.Maps
attribute [local go_sem] InGr
theorem mrg_nil (lv:Nat):MrgF lv []=[]:=by
 unfold MrgF;split
 ·rfl
 ·split
  ·rfl
  ·simp [mPairs]
theorem GatOk.mle {a b:Tr} {s:List Tr} {m:Nat} {d e:EndP} {M:List It} (h:GatOk a b s m d e M):M.length<=(expI M).length:=by
 by_cases he:m%2=0
 ·exact tie_len2 (h.run he)
 ·by_cases ht:isTie (m+1)=true
  ·exact tie_len (h.tie (by omega) ht)
  ·exact tie_len2 ((h.one (by omega) (by simpa using ht)).sg)
def ApaRel (X:Px) (b7:Nat) (T:Tr) (n:Nat) (N:List Nat) (w:World) (mm:Nat) (v9:Value) (wr:World):Prop :=
 ∃ (m lv:Nat) (X1:Px) (cs:Array Value) (pl:Value) (fl:List Fr) (il kl:Nat) (pr:Value) (fr:List Fr) (ir kr:Nat) (mv:Value) (rs:List ItR) (d e:EndP),mm=T.lv-m∧m<=T.lv∧lv=m+1∧v9=.int .i64 lv∧SpI T T (T.lay 0++T.lay 0) n n m d e []∧(X.Ext X1∧PxOk X1∧X1.S=X.S∧SpIn X1 cs pl fl il kl pr fr ir kr mv rs d e []∧∀ l,l<=m->seqP (T.lay 0++T.lay 0) l=T.lay l++T.lay l)∧St w N [pA X1,blk b7 (.cells cs 250),rowsA encFr 265 8 pl fl,rowsA encFr 265 8 pr fr,rowsA encIt 254 4 mv rs] wr
theorem apart_c {X:Px} {x:Nat} {T:Tr} (hX:PxOk X) (hd:Den X.S x T) (hc:Canon T) (hln:2*(T.lay 0).length<=1048576) (w:World) (h:PH X w) :
  Calls Tryz.prog 130 #[.pointer (some ⟨X.p,0,none⟩),.int .i64 x] w fun e w'=>∃ (b:Bool) (X':Px),e=.returned (.bool b)∧(b=true->∀ k,2<=k->Canon (.pow T k)∧(Tr.pow T k).lay 0=(List.replicate k (T.lay 0)).flatten)∧X.Ext X'∧PxOk X'∧X'.S=X.S∧St w (pA X).fp [pA X'] w':=by
 have h:((pA X).sep deA).ho w:=h;rw [sep_ho] at h;obtain ⟨k1,k2,hdd⟩:=h;have H:=St.one k1;have HK:Ks w (pA X).fp [deA]:=⟨by simpa using k2,by simpa using fun b hb hm=>hdd b hm hb⟩
 generalize (pA X).fp=N at *;clear k1 k2 hdd;have hid:IdIs X.S x (T.lay 0):=.inr ⟨_,hd,hc,rfl⟩;have hlv:T.lv<=25339:=canon_lv hc (by omega);have hpos:=canon_pos hc;obtain ⟨n,hn⟩:∃ n,(T.lay 0).length=n:=⟨_,rfl⟩
 have hTl:T.len=n:=(by rw [← len_lay0 hc.gd];exact hn);rw [hn] at hln hpos;obtain ⟨L,hL⟩:∃ L,T.lev=some L:=hc.lev;have hLv:T.lv=L:=lv_of hL;have HSZ:Hid (∀ w,(pA X).ho w->Calls Tryz.prog 92 #[.pointer (some ⟨X.p,0,none⟩),.int .i64 x] w fun e w'=>e=.returned (.int .i64 (n:Nat))∧St w [] [] w'):=zh fun w h=>by have:=size_any hX hid w h;rwa [hn] at this
 have HN1:Hid (∀ w,((pA X).sep deA).ho w->Calls Tryz.prog 147 #[.pointer (some ⟨X.p,0,none⟩),.int .i64 x,.int .i64 (n:Nat),.bool false] w (NewPost X T false n (pA X).fp w)):=zh fun w h=>newEnd_any (bk:=false) hX (fun _=>hd) hc.gd hlv (by omega) w h
 have HN2:Hid (∀ X2:Px,X.Ext X2->PxOk X2->X2.S=X.S->∀ w,((pA X2).sep deA).ho w->Calls Tryz.prog 147 #[.pointer (some ⟨X.p,0,none⟩),.int .i64 x,.int .i64 (n:Nat),.bool true] w (fun e w'=>∃ (X':Px) (pv':Value) (fs':List Fr) (id' ky':Nat) (d:EndP),e=.returned (.agg #[.pointer (some ⟨X.p,0,none⟩),.bool true,pv',.int .i64 id',.int .u64 ky'])∧X2.Ext X'∧PxOk X'∧X'.S=X2.S∧PathOf X'.S true d.1 fs'∧(match d.2 with|some x=>Den X'.S id' x∧ky'=x.key|none=>id'=0∧ky'=0)∧(true=false->EndL T 0 d ((T.lay 0).take n))∧(true=true->EndR T 0 d ((T.lay 0).drop (T.len-n)))∧St w (pA X2).fp [pA X',rowsA encFr 265 8 pv' fs'] w')):=zh fun X2 q1 q2 q3 w h=>by
  have:=newEnd_any (bk:=true) (n:=n) q2 (fun _=>(by rw [q3];exact hd:Den X2.S x T)) hc.gd hlv (by omega) w h;rw [q1.p] at this;refine this.mono ?_;rintro e w' ⟨X',pv',fs',id',ky',d,rfl,q⟩;exact ⟨X',pv',fs',id',ky',d,by rw [q1.p],q⟩
 have HT:Hid (∀ X2:Px,X.Ext X2->PxOk X2->X2.S=X.S->∀ w,((pA X2).sep deA).ho w->Calls Tryz.prog 91 #[.pointer (some ⟨X.p,0,none⟩),.int .i64 x] w (PPost X2 (.tuple #[.int .i64 L,.nilIface]) (pA X2).fp w)):=zh fun X2 q1 q2 q3 w h=>by
  have:=top_p q2 (by rw [q3];exact hd) w h;rw [q1.p,hL] at this;exact this
 have HIN:Hid (Canon T∧T.lv=L∧L<=25339∧(T.lay 0).length=n∧1<=n∧2*n<=1048576∧T.len=n):=zh ⟨hc,hLv,by omega,hn,hpos,hln,hTl⟩;have HST:Hid (∀ d e,EndL T 0 d ((T.lay 0).take n)->EndR T 0 e ((T.lay 0).drop (T.len-n))->SpI T T (T.lay 0++T.lay 0) n n 0 d e []):=zh fun d e h1 h2=>by
  rw [hTl,Nat.sub_self] at h2;have h4:=SpI.start hc hc h1 h2;rw [← hn,List.take_length,List.drop_zero,Nat.sub_zero] at h4;rw [← hn];exact h4
 have HLF:Hid (Leaves (T.lay 0++T.lay 0)∧(T.lay 0++T.lay 0).length<=1048576):=zh ⟨fun t ht=>(List.mem_append.1 ht).elim (hc.leaves t) (hc.leaves t),by rw [List.length_append];omega⟩;have d6:∀ o,L%2=o->(L:Int).tmod 2=o:=fun o h=>by rw [Int.tmod_eq_emod_of_nonneg (by omega)];omega
 have hL2:L<=25339:=(by omega);clear hX hd hid hc hlv hpos hTl hL hln hn;by_cases hpar:L%2=0
 case neg =>
  have tm:(L:Int).tmod 2=1:=d6 1 (by omega);have tm2:(L:Int)%2=1:=(by omega);clear d6 hpar hLv;go_enter Tryz.func130,Tryz.ntmps130;go_wp2_with (first|refine sL ?_|(refine sS ?_;clear H;intros;rename_i H)|(go_at_call 92;with_reducible refine zm (HSZ.out _ (H.get pk)) ?_;rintro e9 wc ⟨rfl,hb⟩;replace H:=H.grew hb.below;clear hb)|(first|(go_at_call 147;with_reducible refine zm (HN1.out _ (H.sepK HK pk pk)) ?_;rintro e9 wc ⟨X2,pl,fl,il,kl,dl,rfl,y1,y2,y3,y4,y5,y6,y7,hb⟩;have HYL:=zh (za y1 (za y2 (za y3 (za y4 (za y5 (za y6 y7))))));clear y1 y2 y3 y4 y5 y6 y7;replace H:=zn ((H.pick pk).call hb);clear hb;obtain ⟨al,cl,e8,_⟩:=rowsA_shape (H.get (A:=rowsA encFr 265 8 pl fl) pk);obtain ⟨nl,e7⟩:∃ l,fl.length=l:=⟨_,rfl⟩;rw [e7] at e8;clear e7;subst e8)|(go_at_call 147;with_reducible refine zm (HN2.out X2 HYL.out.1 HYL.out.2.1 HYL.out.2.2.1 _ (H.sepK HK pk pk)) ?_;rintro e9 wc ⟨X3,pr,fr,ir,kr,dr,rfl,y1,y2,y3,y4,y5,y6,y7,hb⟩;have HYR:=zh (za y1 (za y2 (za y3 (za y4 (za y5 (za y6 y7))))));clear y1 y2 y3 y4 y5 y6 y7;replace H:=zn ((H.pick pk).call hb);clear hb;obtain ⟨ar,cr,e8,_⟩:=rowsA_shape (H.get (A:=rowsA encFr 265 8 pr fr) pk);obtain ⟨nr,e7⟩:∃ l,fr.length=l:=⟨_,rfl⟩;rw [e7] at e8;clear e7;subst e8))|(go_at_call 91;with_reducible refine zm (HT.out X3 (HYL.out.1.trans HYR.out.1) HYR.out.2.1 (HYR.out.2.2.1.trans HYL.out.2.2.1) _ (H.sepK HK pk pk)) ?_;rintro e9 wc ⟨X4,y1,y2,y3,rfl,hb⟩;have HZ:=zh (za y1 (za y2 y3));clear y1 y2 y3;replace H:=zn ((H.pick pk).call hb);clear hb));go_ret;exact ⟨false,X4,rfl,(fun h=>by cases h),HYL.out.1.trans (HYR.out.1.trans HZ.out.1),HZ.out.2.1,HZ.out.2.2.trans (HYR.out.2.2.1.trans HYL.out.2.2.1),H.picks (.cons pk .nil)⟩
 have tm:(L:Int).tmod 2=0:=d6 0 hpar;have tm2:(L:Int)%2=0:=(by omega);have HPAR:=zh hpar;clear d6 hpar hLv;go_enter Tryz.func130,Tryz.ntmps130;go_wp2_with (first|refine sL ?_|(refine sS ?_;clear H;intros;rename_i H)|(go_at_call 92;with_reducible refine zm (HSZ.out _ (H.get pk)) ?_;rintro e9 wc ⟨rfl,hb⟩;replace H:=H.grew hb.below;clear hb)|(first|(go_at_call 147;with_reducible refine zm (HN1.out _ (H.sepK HK pk pk)) ?_;rintro e9 wc ⟨X2,pl,fl,il,kl,dl,rfl,y1,y2,y3,y4,y5,y6,y7,hb⟩;have HYL:=zh (za y1 (za y2 (za y3 (za y4 (za y5 (za y6 y7))))));clear y1 y2 y3 y4 y5 y6 y7;replace H:=zn ((H.pick pk).call hb);clear hb;obtain ⟨al,cl,e8,_⟩:=rowsA_shape (H.get (A:=rowsA encFr 265 8 pl fl) pk);obtain ⟨nl,e7⟩:∃ l,fl.length=l:=⟨_,rfl⟩;rw [e7] at e8;clear e7;subst e8)|(go_at_call 147;with_reducible refine zm (HN2.out X2 HYL.out.1 HYL.out.2.1 HYL.out.2.2.1 _ (H.sepK HK pk pk)) ?_;rintro e9 wc ⟨X3,pr,fr,ir,kr,dr,rfl,y1,y2,y3,y4,y5,y6,y7,hb⟩;have HYR:=zh (za y1 (za y2 (za y3 (za y4 (za y5 (za y6 y7))))));clear y1 y2 y3 y4 y5 y6 y7;replace H:=zn ((H.pick pk).call hb);clear hb;obtain ⟨ar,cr,e8,_⟩:=rowsA_shape (H.get (A:=rowsA encFr 265 8 pr fr) pk);obtain ⟨nr,e7⟩:∃ l,fr.length=l:=⟨_,rfl⟩;rw [e7] at e8;clear e7;subst e8))|(go_at_call 91;with_reducible refine zm (HT.out X3 (HYL.out.1.trans HYR.out.1) HYR.out.2.1 (HYR.out.2.2.1.trans HYL.out.2.2.1) _ (H.sepK HK pk pk)) ?_;rintro e9 wc ⟨X4,y1,y2,y3,rfl,hb⟩;have HZ:=zh (za y1 (za y2 y3));clear y1 y2 y3;replace H:=zn ((H.pick pk).call hb);clear hb));rename_i b7 _ _ _ _;go_loopg [9] (T.lv) (fun mm v9 wr=>ApaRel X b7 T n N w mm v9 wr);case atStart =>
  have hy:=HYL.out;have hz:=HYR.out;have hw:=HZ.out;have hE:=hy.1.trans (hz.1.trans hw.1);have hS4:X4.S=X.S:=hw.2.2.trans (hz.2.2.1.trans hy.2.2.1);have hsp:=HST.out dl dr (hy.2.2.2.2.2.1 (by first|rfl|trivial)) (hz.2.2.2.2.2.2 (by first|rfl|trivial));refine ⟨0,1,X4,#[.pointer (some ⟨X.p,0,none⟩),.pointer (some ⟨X.p,0,none⟩),.bool false,.slice al nl cl,.int .i64 il,.int .u64 kl,.pointer (some ⟨X.p,0,none⟩),.bool true,.slice ar nr cr,.int .i64 ir,.int .u64 kr,.slice none 0 0],.slice al nl cl,fl,il,kl,.slice ar nr cr,fr,ir,kr,.slice none 0 0,[],dl,dr,rfl,by omega,rfl,rfl,hsp,⟨hE,hw.2.1,hS4,⟨rfl,by rw [hE.p];rfl,rfl,⟨⟨by simp,by rw [hE.p];rfl,rfl,rfl,rfl,rfl⟩,by rw [hw.2.2,hz.2.2.1];exact hy.2.2.2.1,by rw [hw.2.2,hz.2.2.1];exact hy.2.2.2.2.1⟩,⟨⟨by simp,by rw [hE.p];rfl,rfl,rfl,rfl,rfl⟩,by rw [hw.2.2];exact hz.2.2.2.1,by rw [hw.2.2];exact hz.2.2.2.2.1⟩,trivial⟩,fun l hl=>(by obtain rfl:=Nat.le_zero.1 hl;rfl)⟩,(H.empty (A:=rowsA encIt 254 4 (.slice none 0 0) []) (rowsA_nil _) (by rw [rowsA_fp];rfl)).picks (.cons (A:=pA X4) pk (.cons (A:=blk b7 (.cells #[.pointer (some ⟨X.p,0,none⟩),.pointer (some ⟨X.p,0,none⟩),.bool false,.slice al nl cl,.int .i64 il,.int .u64 kl,.pointer (some ⟨X.p,0,none⟩),.bool true,.slice ar nr cr,.int .i64 ir,.int .u64 kr,.slice none 0 0] 250)) pk (.cons (A:=rowsA encFr 265 8 (.slice al nl cl) fl) pk (.cons (A:=rowsA encFr 265 8 (.slice ar nr cr) fr) pk (.cons (A:=rowsA encIt 254 4 (.slice none 0 0) []) pk .nil)))))⟩
 case round =>
  clear H HYL HYR HZ HN1 HN2 HT HSZ HST;obtain ⟨m,lv,X1,cs,pl,fl,il,kl,pr,fr,ir,kr,mv,rs,d,e,rfl,hm,hlv,rfl,hI,hrel,H⟩:=hrel;have HLV:=zh hlv;have HI:=zh hI;have HREL:=zh hrel;have hlvL:=HIN.out.2.1;have hlvb:lv<=25340:=(by omega);by_cases hend:m<L
  ·have d5:decide ((L:Int)<(lv:Int))=false:=(by simp;omega);have d5n:decide (L<lv)=false:=(by simp;omega);have d7:decide ((lv:Int)<=(L:Int))=true:=(by simp;omega);have d7n:decide (lv<=L)=true:=(by simp;omega);have HGA:Hid (∀ w,(((pA X1).sep ((blk b7 (.cells cs 250)).sep ((rowsA encFr 265 8 pl fl).sep ((rowsA encFr 265 8 pr fr).sep (rowsA encIt 254 4 mv rs))))).sep deA).ho w->Calls Tryz.prog 148 #[.pointer (some ⟨b7,0,none⟩),.int .i64 lv] w fun x w'=>∃ d1 e2 M2,GatR lv d e [] d1 e2 M2∧SpPost X1 b7 ((pA X1).sep ((blk b7 (.cells cs 250)).sep ((rowsA encFr 265 8 pl fl).sep ((rowsA encFr 265 8 pr fr).sep (rowsA encIt 254 4 mv rs))))).fp w (.tuple #[]) d1 e2 M2 x w'):=zh fun w h=>gather_c HREL.out.2.1 HREL.out.2.2.2.1 HI.out HLV.out (by omega) (by have:=HIN.out;rw [List.length_append];omega) (by have:=HIN.out;omega) (by have:=HIN.out;omega) w h
   clear hlv hI hrel hlvL;go_wp2_with (first|refine sL ?_|(refine sS ?_;clear H;intros;rename_i H)|(go_at_call 148;with_reducible refine zm (HGA.out _ ((St.join5 (H.pick5 (A:=pA X1) (B:=blk b7 (.cells cs 250)) (C:=rowsA encFr 265 8 pl fl) (D:=rowsA encFr 265 8 pr fr) (E:=rowsA encIt 254 4 mv rs) pk pk pk pk pk)).sepK HK pk pk)) ?_;rintro e9 wc ⟨d2,e2,M2,hgr,X2,cs2,pl2,fl2,il2,kl2,pr2,fr2,ir2,kr2,mv2,rs2,rfl,y1,y2,y3,y4,hb⟩;have HY2:=zh (za hgr (za y1 (za y2 (za y3 y4))));clear hgr y1 y2 y3 y4;replace H:=zn ((St.join5 (H.pick5 (A:=pA X1) (B:=blk b7 (.cells cs 250)) (C:=rowsA encFr 265 8 pl fl) (D:=rowsA encFr 265 8 pr fr) (E:=rowsA encIt 254 4 mv rs) pk pk pk pk pk)).call hb);clear hb;obtain ⟨a9,c9,e9,_⟩:=rowsA_shape (H.get (A:=rowsA encIt 254 4 mv2 rs2) pk);obtain ⟨n3,hn3⟩:∃ l,rs2.length=l:=⟨_,rfl⟩;rw [hn3] at e9;have HN3:=zh hn3;clear hn3;subst e9;have D11:=zh HY2.out.2.2.2.2.c11;have hls:=HLF.out.2;have hok:=HI.out.gat HLF.out.1 (by have:=HY2.out.1;rwa [HLV.out] at this);have hn3b:n3<=1048576:=(by have h1:=hok.cnt;have h2:=HY2.out.2.2.2.2.its.len;have h3:=seqP_len (T.lay 0++T.lay 0) m;have h4:=HN3.out;have h5:=GatOk.mle hok;omega);have HOK:=zh (za hok hls);clear hok hls))
   ·go_ret;exact ⟨false,X2,rfl,(fun h=>by cases h),HREL.out.1.trans HY2.out.2.1,HY2.out.2.2.1,HY2.out.2.2.2.1.trans HREL.out.2.2.1,H.picks (.cons pk .nil)⟩
   ·have hz:n3=0:=(by omega);subst hz;have hs1:=HY2.out.2.2.2.2;have HS1:=zh hs1;have HUPL:Hid (∀ w,(((pA X2).sep ((blk b7 (.cells cs2 250)).sep (rowsA encFr 265 8 pl2 fl2))).sep deA).ho w->Calls Tryz.prog 152 #[.pointer (some ⟨b7,1,none⟩),.int .i64 lv] w (EndPost X2 false b7 1 250 cs2 (upT false lv d2) ((pA X2).sep ((blk b7 (.cells cs2 250)).sep (rowsA encFr 265 8 pl2 fl2))).fp w (.tuple #[]))):=zh fun w h=>up_c HY2.out.2.2.1 HS1.out.left HOK.out.1.z1 HIN.out.1.gd (by have:=HIN.out;omega) (by omega) w h
    clear hs1;(go_at_call 152;with_reducible refine zm (HUPL.out _ ((St.join3 (H.pick3 (A:=pA X2) (B:=blk b7 (.cells cs2 250)) (C:=rowsA encFr 265 8 pl2 fl2) pk pk pk)).sepK HK pk pk)) ?_;rintro e9 wc ⟨X3,cs3,pl3,fl3,il3,kl3,rfl,y1,y2,y3,y4,y5,hb⟩;have HUL:=zh (za y1 (za y2 (za y3 (za y4 y5))));clear y1 y2 y3 y4 y5;replace H:=zn ((St.join3 (H.pick3 (A:=pA X2) (B:=blk b7 (.cells cs2 250)) (C:=rowsA encFr 265 8 pl2 fl2) pk pk pk)).call hb);clear hb)
    have hs3:=HS1.out.afterL HY2.out.2.2.1.ok HUL.out.1 HUL.out.2.2.2.1 HUL.out.2.2.2.2;have HS3:=zh hs3;have HUPR:Hid (∀ w,(((pA X3).sep ((blk b7 (.cells cs3 250)).sep (rowsA encFr 265 8 pr2 fr2))).sep deA).ho w->Calls Tryz.prog 152 #[.pointer (some ⟨b7,6,none⟩),.int .i64 lv] w (EndPost X3 true b7 6 250 cs3 (upT true lv e2) ((pA X3).sep ((blk b7 (.cells cs3 250)).sep (rowsA encFr 265 8 pr2 fr2))).fp w (.tuple #[]))):=zh fun w h=>up_c HUL.out.2.1 HS3.out.right HOK.out.1.z2 HIN.out.1.gd (by have:=HIN.out;omega) (by omega) w h
    clear hs3;go_wp2_with (first|refine sL ?_|(refine sS ?_;clear H;intros;rename_i H)|(go_at_call 152;with_reducible refine zm (HUPR.out _ ((St.join3 (H.pick3 (A:=pA X3) (B:=blk b7 (.cells cs3 250)) (C:=rowsA encFr 265 8 pr2 fr2) pk pk pk)).sepK HK pk pk)) ?_;rintro e9 wc ⟨X4,cs4,pr4,fr4,ir4,kr4,rfl,y1,y2,y3,y4,y5,hb⟩;have HUR:=zh (za y1 (za y2 (za y3 (za y4 y5))));clear y1 y2 y3 y4 y5;replace H:=zn ((St.join3 (H.pick3 (A:=pA X3) (B:=blk b7 (.cells cs3 250)) (C:=rowsA encFr 265 8 pr2 fr2) pk pk pk)).call hb);clear hb));have hM2:M2=[]:=(by have h1:=HY2.out.2.2.2.2.its.len;rw [HN3.out] at h1;exact List.eq_nil_of_length_eq_zero (by omega))
    have hr2:rs2=[]:=List.eq_nil_of_length_eq_zero HN3.out;have h4:=HS3.out.afterR HUL.out.2.1.ok HUR.out.1 HUR.out.2.2.2.1 HUR.out.2.2.2.2;have hnx:=HI.out.next (by have:=HY2.out.1.lev;rwa [HLV.out] at this)
    rw [← HLV.out,hM2,mrg_nil] at hnx;rw [hM2] at h4;have HNX:=zh hnx;have HS4:=zh h4;clear hnx h4 hM2;go_roundg (T.lv-(m+1));case measure=>have:=HIN.out;omega
    case rel =>
     refine ⟨m+1,lv+1,X4,cs4,pl3,fl3,il3,kl3,pr4,fr4,ir4,kr4,.slice a9 0 c9,rs2,_,_,rfl,by have:=HIN.out;omega,by rw [HLV.out],by simp,by have:=HNX.out;rw [HLV.out] at this;rw [HLV.out];exact this,⟨HREL.out.1.trans (HY2.out.2.1.trans (HUL.out.1.trans HUR.out.1)),HUR.out.2.1,HUR.out.2.2.1.trans (HUL.out.2.2.1.trans (HY2.out.2.2.2.1.trans HREL.out.2.2.1)),HS4.out,fun l hl=>?_⟩,H.picks (.cons pk (.cons pk (.cons pk (.cons pk (.cons pk .nil)))))⟩;rcases Nat.lt_or_ge l (m+1) with h5|h5
     ·exact HREL.out.2.2.2.2 l (by omega)
     ·obtain rfl:l=m+1:=by omega
      have h6:=HNX.out;rw [HLV.out] at h6;exact h6.both
  ·have d5:decide ((L:Int)<(lv:Int))=true:=(by simp;omega);have d5n:decide (L<lv)=true:=(by simp;omega);have d7:decide ((lv:Int)<=(L:Int))=false:=(by simp;omega);have d7n:decide (lv<=L)=false:=(by simp;omega);have hmL:m=T.lv:=(by omega);have HML:=zh hmL;clear hlv hI hrel hlvL hmL;go_wp2_with (first|refine sL ?_|(refine sS ?_;clear H;intros;rename_i H));go_ret;refine ⟨true,X1,rfl,fun _ k hk=>canon_apart HIN.out.1 (by rw [HIN.out.2.1];exact HPAR.out) hk fun l hl=>HREL.out.2.2.2.2 l (by rw [HML.out];exact hl),HREL.out.1,HREL.out.2.1,HREL.out.2.2.1,H.picks (.cons pk .nil)⟩
end
section
open Go.RowKit Go.Maps
attribute [local go_sem] InGr
end
section
open Go.RowKit Go.Maps
attribute [local go_sem] InGr
section
variable {ops:Array Oper} {a:Act} {w w0:World} {M:List Nat} {L R:List As} {o1:Oper} {Rr:Value->World->Prop}
theorem run_append_nil {t e ty:TypeId} (hte:sliceO t=some e) {z:Value} {k bytes:Nat} (hi:infoO e=some (z,k,bytes)) {n c c':Nat} {ad ad':Option Addr} (hn:n<=c) {w:World}:(Builtin.append_ #[t,t] ty #[.slice ad n c,.slice ad' 0 c']).run Tryz.prog w=.ok (.slice ad n c) w:=by
 obtain ⟨i,h2,h3,h4,h5⟩:=infoO_ok hi;have hu:=sliceO_ok hte;cases ad with
 |none=>cases ad' with
  |none=>simp [Builtin.append_,run_underlying hu,sizeOf,typeInfo,h2,Builtin.lenOf,Builtin.firstCells,loadCells,loadCellsFrom,storeCells,hn]
  |some x=>simp [Builtin.append_,run_underlying hu,sizeOf,typeInfo,h2,Builtin.lenOf,Builtin.firstCells,loadCells,loadCellsFrom,storeCells,hn]
 |some y=>cases ad' with
  |none=>simp [Builtin.append_,run_underlying hu,sizeOf,typeInfo,h2,Builtin.lenOf,Builtin.firstCells,loadCells,loadCellsFrom,storeCells,hn]
  |some x=>simp [Builtin.append_,run_underlying hu,sizeOf,typeInfo,h2,Builtin.lenOf,Builtin.firstCells,loadCells,loadCellsFrom,storeCells,hn]
end
end
section
open Go.RowKit Go.Maps
attribute [local go_sem] InGr
end
section
open Go.RowKit Go.Maps
attribute [local go_sem] InGr
end
section
open Go.RowKit Go.Maps
attribute [local go_sem] InGr
def len8:ByteArray:=⟨#[0,1,2,2,3,3,3,3,4,4,4,4,4,4,4,4,5,5,5,5,5,5,5,5,5,5,5,5,5,5,5,5,6,6,6,6,6,6,6,6,6,6,6,6,6,6,6,6,6,6,6,6,6,6,6,6,6,6,6,6,6,6,6,6,7,7,7,7,7,7,7,7,7,7,7,7,7,7,7,7,7,7,7,7,7,7,7,7,7,7,7,7,7,7,7,7,7,7,7,7,7,7,7,7,7,7,7,7,7,7,7,7,7,7,7,7,7,7,7,7,7,7,7,7,7,7,7,7,8,8,8,8,8,8,8,8,8,8,8,8,8,8,8,8,8,8,8,8,8,8,8,8,8,8,8,8,8,8,8,8,8,8,8,8,8,8,8,8,8,8,8,8,8,8,8,8,8,8,8,8,8,8,8,8,8,8,8,8,8,8,8,8,8,8,8,8,8,8,8,8,8,8,8,8,8,8,8,8,8,8,8,8,8,8,8,8,8,8,8,8,8,8,8,8,8,8,8,8,8,8,8,8,8,8,8,8,8,8,8,8,8,8,8,8,8,8,8,8,8,8,8,8,8,8,8,8]⟩
theorem len8_size:len8.size=256:=by decide +kernel
theorem len8_all:∀ j:Fin 256,(len8[j.1]'(by rw [len8_size];exact j.2)).toNat=(if j.1=0 then 0 else Nat.log2 j.1+1):=by decide +kernel
theorem len8_eq {k:Nat} (h:k<len8.size) (h1:1<=k):(len8[k]'h).toNat=Nat.log2 k+1:=by
 have:=len8_all ⟨k,by rw [len8_size] at h;exact h⟩;simp only [show ¬ k=0 by omega,if_false] at this;exact this
theorem wrap_two {n m:Nat} (e:n=m) (h:m<100):(.int .i64 (RowKit.wrap64 (RowKit.wrap64 (n:Nat))):Value)=.int .i64 (m:Nat):=by
 subst e;congr 1
 simp only [RowKit.wrap64];omega
theorem wrap_eight {n m:Nat} (e:n+8=m) (h:m<100):(.int .i64 (RowKit.wrap64 (8+RowKit.wrap64 (n:Nat))):Value)=.int .i64 (m:Nat):=by
 subst e;congr 1
 simp only [RowKit.wrap64];omega
theorem log2_lt {k b:Nat} (h1:1<=k) (h:k<2 ^ b):Nat.log2 k<b:=(Nat.log2_lt (by omega)).2 h
theorem log2_high {k:Nat} (h:256<=k):Nat.log2 k=Nat.log2 (k/256)+8:=by
 have h0:k/256≠0:=(by omega);obtain ⟨h1,h2⟩:=(Nat.log2_eq_iff h0).1 rfl;refine (Nat.log2_eq_iff (by omega)).2 ⟨?_,?_⟩
 ·rw [Nat.pow_add];omega
 ·rw [show Nat.log2 (k/256)+8+1=(Nat.log2 (k/256)+1)+8 by omega,Nat.pow_add];omega
theorem len64_c (k:Nat) (h1:1<=k) (hk:k<65536) (w:World):Calls Tryz.prog 175 #[.int .u64 k] w fun e w'=>e=.returned (.int .i64 (Nat.log2 k+1:Nat))∧w'=w:=by
 have d1:decide ((4294967296:Int)<=(k:Int))=false:=(by simp;omega);have d1n:decide (4294967296<=k)=false:=(by simp;omega);have d2:decide ((65536:Int)<=(k:Int))=false:=(by simp;omega);have d2n:decide (65536<=k)=false:=(by simp;omega);by_cases h8:256<=k
 ·have d3:decide ((256:Int)<=(k:Int))=true:=(by simp;omega);have d3n:decide (256<=k)=true:=(by simp;omega);go_enter Tryz.func175,Tryz.ntmps175;go_wp2_with (first|refine sL ?_|(refine sS ?_;clear H;intros;rename_i H));go_ret;have hk2:k/256<len8.size:=(by rw [len8_size];omega);have hlg:=log2_lt (k:=k) (b:=16) h1 (by omega);have he:=len8_eq hk2 (by omega);have hhi:=log2_high h8;exact ⟨congrArg Ending.returned (wrap_eight (n:=(len8[k/256]'hk2).toNat) (by omega) (by omega)),rfl⟩
 ·have d3:decide ((256:Int)<=(k:Int))=false:=(by simp;omega);have d3n:decide (256<=k)=false:=(by simp;omega);go_enter Tryz.func175,Tryz.ntmps175;go_wp2_with (first|refine sL ?_|(refine sS ?_;clear H;intros;rename_i H));go_ret;have hk2:k<len8.size:=(by rw [len8_size];omega);have hlg:=log2_lt (k:=k) (b:=16) h1 (by omega);exact ⟨congrArg Ending.returned (wrap_two (n:=(len8[k]'hk2).toNat) (len8_eq hk2 h1) (by omega)),rfl⟩
theorem log_c (k:Nat) (h1:1<=k) (hk:k<65536) (w:World):Calls Tryz.prog 153 #[.int .i64 k] w fun e w'=>e=.returned (.int .i64 (Nat.log2 k:Nat))∧w'=w:=by
 have d1:decide ((k:Int)<1)=false:=(by simp;omega);have d1n:decide (k<1)=false:=(by simp;omega);have hlg:=log2_lt (k:=k) (b:=16) h1 (by omega);obtain ⟨L,hL⟩:∃ L,Nat.log2 k+1=L:=⟨_,rfl⟩
 have HL:=zh hL;have HC:Hid (∀ w,Calls Tryz.prog 175 #[.int .u64 k] w fun e w'=>e=.returned (.int .i64 (L:Nat))∧w'=w):=zh fun w=>by rw [← hL];exact len64_c k h1 hk w
 have hL2:L<=17∧1<=L:=(by omega);clear hL;go_enter Tryz.func153,Tryz.ntmps153;go_wp2_with (first|refine sL ?_|(refine sS ?_;clear H;intros;rename_i H)|(go_at_call 175;with_reducible refine same (HC.out _) ?_));go_ret;have h2:=HL.out;refine ⟨congrArg (fun z:Int=>Ending.returned (.int .i64 z)) (?_:(L:Int)-1=((Nat.log2 k:Nat):Int)),rfl⟩;omega
theorem and_one_w (a:Nat) (ha:a<9223372036854775808):bits .and .i64 (a:Int) 1=((a%2:Nat):Int):=by
 have h1:(BitVec.ofInt 64 (a:Int)).toNat=a:=by
  rw [BitVec.ofInt_natCast,BitVec.toNat_ofNat];exact Nat.mod_eq_of_lt (by omega)
 have h2:(BitVec.ofInt 64 (1:Int)).toNat=1:=rfl;show IntKind.i64.wrap ((BitVec.ofInt 64 (a:Int) &&& BitVec.ofInt 64 (1:Int)).toNat:Int)=_
 rw [BitVec.toNat_and,h1,h2,Nat.and_one_is_mod,IntKind.wrap_i64];omega
def repL (k:Nat) (s:List Tr):List Tr:=(List.replicate k s).flatten
theorem repL_one (s:List Tr):repL 1 s=s:=by simp [repL]
theorem repL_len (k:Nat) (s:List Tr):(repL k s).length=k*s.length:=by simp [repL,List.length_flatten,List.map_replicate,List.sum_replicate_nat]
theorem repL_add (j k:Nat) (s:List Tr):repL j s++repL k s=repL (j+k) s:=by
 simp only [repL,← List.flatten_append,List.replicate_append_replicate]
theorem repL_snoc (k:Nat) (s:List Tr):repL k s++s=repL (k+1) s:=by rw [← repL_add,repL_one]
def DbRel (X:Px) (N:List Nat) (w:World) (s:List Tr) (k B:Nat) (mm:Nat) (v8 v9:Value) (wr:World):Prop :=
 ∃ (X1:Px) (id c:Nat),v8=.int .i64 (id:Nat)∧v9=.int .i64 ((mm:Int)-1)∧(mm<=B∧c=k/2 ^ mm∧X.Ext X1∧PxOk X1∧IdIs X1.S id (repL c s)∧X1.S.list.length+4*s.length<=X.S.list.length+4*(c*s.length))∧St w N [pA X1] wr
theorem double_c {X:Px} {a k:Nat} {s:List Tr} (hX:PxOk X) (ha:IdIs X.S a s) (h1:1<=k) (hk:k<65536) (hl:k*s.length<=262144) (hroom:X.S.list.length+4*(k*s.length)<=X.S.most) (w:World) (h:PH X w) :
  Calls Tryz.prog 131 #[.pointer (some ⟨X.p,0,none⟩),.int .i64 a,.int .i64 (k:Nat)] w (IdPost X (repL k s) (4*(k*s.length)) (pA X).fp w):=by
 have h:((pA X).sep deA).ho w:=h;rw [sep_ho] at h;obtain ⟨k1,k2,hdd⟩:=h;have H:=St.one k1;have HK:Ks w (pA X).fp [deA]:=⟨by simpa using k2,by simpa using fun b hb hm=>hdd b hm hb⟩
 generalize (pA X).fp=N at *;clear k1 k2 hdd;obtain ⟨B,hB⟩:∃ B,Nat.log2 k=B:=⟨_,rfl⟩
 have hB1:=(Nat.log2_eq_iff (show k≠0 by omega)).1 hB;have hB2:B<16:=(by rw [← hB];exact log2_lt h1 (by omega));have HLG:Hid (∀ w,Calls Tryz.prog 153 #[.int .i64 k] w fun e w'=>e=.returned (.int .i64 (B:Nat))∧w'=w):=zh fun w=>by rw [← hB];exact log_c k h1 hk w
 have HIN:Hid (PxOk X∧IdIs X.S a s∧1<=k∧k<65536∧k*s.length<=262144∧X.S.list.length+4*(k*s.length)<=X.S.most∧2 ^ B<=k∧k<2 ^ (B+1)):=zh ⟨hX,ha,h1,hk,hl,hroom,hB1.1,hB1.2⟩;clear hX ha h1 hl hroom hB hB1;go_enter Tryz.func131,Tryz.ntmps131;go_wp2_with (first|refine sL ?_|(refine sS ?_;clear H;intros;rename_i H)|(go_at_call 153;with_reducible refine same (HLG.out _) ?_));go_loopg [8,9] B (fun mm v8 v9 wr=>DbRel X N w s k B mm v8 v9 wr);case atStart =>
  refine ⟨X,a,1,rfl,rfl,⟨Nat.le_refl _,?_,.refl _,HIN.out.1,by rw [repL_one];exact HIN.out.2.1,by omega⟩,H.picks (.cons pk .nil)⟩;have h3:=HIN.out.2.2.2.2.2.2;rw [Nat.pow_succ] at h3;exact (Nat.div_eq_of_lt_le (by omega) (by omega)).symm
 case round =>
  clear H;obtain ⟨X1,id,c,rfl,rfl,hrel,H⟩:=hrel;have HRL:=zh hrel;rcases Nat.eq_zero_or_pos gk with hm0|hm0
  ·subst hm0;have hid:=hrel.2.2.2.2.1;rw [hrel.2.1,Nat.pow_zero,Nat.div_one] at hid;have hln:=hrel.2.2.2.2.2;rw [hrel.2.1,Nat.pow_zero,Nat.div_one] at hln;have HF:=zh (za hid hln);clear hrel hid hln;rw [show ((0:Nat):Int)-1 = -1 by rfl];go_wp2_with (first|refine sL ?_|(refine sS ?_;clear H;intros;rename_i H));go_ret2;exact ⟨X1,id,rfl,HRL.out.2.2.1,HRL.out.2.2.2.1,HF.out.1,by have:=HF.out.2;omega,H.picks (.cons pk .nil)⟩
  ·obtain ⟨b,rfl⟩:∃ b,gk=b+1:=⟨gk-1,by omega⟩
   rw [show ((b+1:Nat):Int)-1=(b:Nat) by omega];have hb16:b<16:=(by have:=hrel.1;omega);obtain ⟨q,hq⟩:∃ q,k/2 ^ b=q:=⟨_,rfl⟩
   have hc:c=q/2:=(by rw [hrel.2.1,Nat.pow_succ,← Nat.div_div_eq_div_mul,hq]);have hqk:q<=k:=(by rw [← hq];exact Nat.div_le_self _ _);have hqs:q*s.length<=k*s.length:=Nat.mul_le_mul_right _ hqk;have hcs:(2*c)*s.length<=q*s.length:=Nat.mul_le_mul_right _ (by omega);have HJ1:Hid (∀ w,((pA X1).sep deA).ho w->Calls Tryz.prog 94 #[.pointer (some ⟨X.p,0,none⟩),.int .i64 id,.int .i64 id] w (IdPost X1 (repL (2*c) s) (2*(c*s.length)) (pA X1).fp w)):=zh fun w h=>by
    have h5:=HIN.out;have h6:=HRL.out.2.2.2.2.2;have h7:=HRL.out.2.2.1.le.1;have h8:2*(c*s.length)=(2*c)*s.length:=(by rw [Nat.mul_assoc]);have:=join_c HRL.out.2.2.2.1 HRL.out.2.2.2.2.1 HRL.out.2.2.2.2.1 (by rw [repL_len];omega) (by rw [repL_len];omega) w h;rw [HRL.out.2.2.1.p,repL_add,repL_len] at this;rw [show 2*c=c+c by omega,show 2*(c*s.length)=c*s.length+c*s.length by omega];exact this
   have hqi:(k:Int)/2 ^ b=(q:Nat):=(by rw [← hq];simp);have hand:=and_one_w q (by omega);have HJ2:Hid (∀ (X2:Px) (id2:Nat),X1.Ext X2->PxOk X2->IdIs X2.S id2 (repL (2*c) s)->X2.S.list.length<=X1.S.list.length+2*(c*s.length)->q%2=1->∀ w,((pA X2).sep deA).ho w->Calls Tryz.prog 94 #[.pointer (some ⟨X.p,0,none⟩),.int .i64 id2,.int .i64 a] w (IdPost X2 (repL q s) ((2*c)*s.length+s.length) (pA X2).fp w)):=zh fun X2 id2 q1 q2 q3 q4 q5 w h=>by
    have h5:=HIN.out;have h6:=HRL.out.2.2.2.2.2;have h7:=(HRL.out.2.2.1.trans q1).le.1;have h8:2*(c*s.length)=(2*c)*s.length:=(by rw [Nat.mul_assoc]);have h9:(2*c)*s.length+s.length=q*s.length:=(by rw [← Nat.succ_mul];congr 1;omega);have:=join_c q2 q3 (HIN.out.2.1.le HIN.out.1.ok (HRL.out.2.2.1.trans q1).le) (by rw [repL_len];omega) (by rw [repL_len];omega) w h;rw [(HRL.out.2.2.1.trans q1).p,repL_snoc,repL_len,show 2*c+1=q by omega] at this;exact this
   have HQ:=zh (za hq (za hc (za hqs (za hcs hqk))));clear hrel hc hqs hcs hqk;rcases Nat.mod_two_eq_zero_or_one q with hr|hr
   ·rw [hr] at hand;have hand0:bits .and .i64 (q:Int) 1=0:=hand;have HR:=zh hr;clear hand hr HJ2 hq;go_wp2_with (first|refine sL ?_|(refine sS ?_;clear H;intros;rename_i H)|(go_at_call 94;with_reducible refine zm (HJ1.out _ (H.sepK HK pk pk)) ?_;rintro e9 wc ⟨X2,id2,rfl,y1,y2,y3,y4,hb⟩;have HY:=zh (za y1 (za y2 (za y3 y4)));clear y1 y2 y3 y4;replace H:=zn ((H.pick pk).call hb);clear hb));go_roundg b;case measure=>omega
    case rel =>
     have h5:=HRL.out;have h6:=HQ.out;have h7:=HY.out;have h8:=HR.out;have h9:2*c=q:=(by omega);have hA:(2*c)*s.length=q*s.length:=(by rw [h9]);have hB:2*(c*s.length)=(2*c)*s.length:=(by rw [Nat.mul_assoc]);exact ⟨X2,id2,q,rfl,rfl,⟨by omega,h6.1.symm,h5.2.2.1.trans h7.1,h7.2.1,by rw [← h9];exact h7.2.2.1,by omega⟩,H.picks (.cons pk .nil)⟩
   ·rw [hr] at hand;have hand0:bits .and .i64 (q:Int) 1=1:=hand;have HR:=zh hr;clear hand hr hq;go_wp2_with (first|refine sL ?_|(refine sS ?_;clear H;intros;rename_i H)|first|(go_at_call 94;with_reducible refine zm (HJ1.out _ (H.sepK HK pk pk)) ?_;rintro e9 wc ⟨X2,id2,rfl,y1,y2,y3,y4,hb⟩;have HY:=zh (za y1 (za y2 (za y3 y4)));clear y1 y2 y3 y4;replace H:=zn ((H.pick pk).call hb);clear hb)|(go_at_call 94;with_reducible refine zm (HJ2.out X2 id2 HY.out.1 HY.out.2.1 HY.out.2.2.1 HY.out.2.2.2 HR.out _ (H.sepK HK pk pk)) ?_;rintro e9 wc ⟨X3,id3,rfl,y1,y2,y3,y4,hb⟩;have HZ:=zh (za y1 (za y2 (za y3 y4)));clear y1 y2 y3 y4;replace H:=zn ((H.pick pk).call hb);clear hb));go_roundg b;case measure=>omega
    case rel =>
     have h5:=HRL.out;have h6:=HQ.out;have h7:=HY.out;have h8:=HR.out;have h10:=HZ.out;have hA:(2*c)*s.length+s.length=q*s.length:=(by rw [← Nat.succ_mul];congr 1;omega);have hB:2*(c*s.length)=(2*c)*s.length:=(by rw [Nat.mul_assoc]);exact ⟨X3,id3,q,rfl,rfl,⟨by omega,h6.1.symm,h5.2.2.1.trans (h7.1.trans h10.1),h10.2.1,h10.2.2.1,by omega⟩,H.picks (.cons pk .nil)⟩
end
section
open Go.RowKit Go.Maps
attribute [local go_sem] InGr
attribute [local go_sem] StStep stAt stUpon in
theorem repeat_c {X:Px} {a k:Nat} {s:List Tr} (hX:PxOk X) (ha:IdIs X.S a s) (hne:s≠[]) (h2:2<=k) (hk:k<65536) (hl:k*s.length<=262144) (hroom:X.S.list.length+4*(k*s.length)<=X.S.most) (w:World) (h:PH X w) :
  Calls Tryz.prog 104 #[.pointer (some ⟨X.p,0,none⟩),.int .i64 a,.int .i64 (k:Nat)] w (IdPost X (repL k s) (4*(k*s.length)) (pA X).fp w):=by
 have h:((pA X).sep deA).ho w:=h;rw [sep_ho] at h;obtain ⟨k1,k2,hdd⟩:=h;have H:=St.one k1;have HK:Ks w (pA X).fp [deA]:=⟨by simpa using k2,by simpa using fun b hb hm=>hdd b hm hb⟩
 generalize (pA X).fp=N at *;clear k1 k2 hdd;obtain ⟨T,hd,hc,hT⟩:∃ T,Den X.S a T∧Canon T∧T.lay 0=s:=by
  rcases ha with ⟨h,_⟩|h
  ·exact absurd h hne
  ·exact h
 obtain ⟨n,hn⟩:∃ n,s.length=n:=⟨_,rfl⟩
 have hn1:1<=n:=(by rw [← hn,← hT];exact canon_pos hc);have hkn:k<=k*n:=Nat.le_mul_of_pos_right _ hn1;have hnk:n*2<=n*k:=Nat.mul_le_mul_left _ h2;have hcomm:n*k=k*n:=Nat.mul_comm _ _;rw [hn] at hl hroom ⊢;have hTl:T.len=n:=(by rw [← len_lay0 hc.gd,hT];exact hn);obtain ⟨i,en,hi,hx,hte⟩:=den_get hd;obtain ⟨kd,lt,lf,rg,tm,hen,hcase⟩:∃ kd lt lf rg tm:Nat,en.r=⟨kd,lt,lf,rg,tm⟩∧((kd=3∧∃ t,T=.pow t tm∧Den X.S lf t)∨kd≠3):=by
  cases rule_of hX.ok hx with
  |letter b hb hr hw ht'=>exact ⟨_,_,_,_,_,hr,.inr (by omega)⟩
  |pair l r y z _ _ _ _ he _ _ ht'=>exact ⟨_,_,_,_,_,he,.inr (by omega)⟩
  |pow l j y hl' hy hj he hw hs ht'=>exact ⟨_,_,_,_,_,he,.inl ⟨rfl,_,by rw [← hte,ht'],den_of hy⟩⟩
 obtain ⟨L,hL⟩:∃ n,X.S.list.length=n:=⟨_,rfl⟩
 obtain ⟨tp,htp,htop⟩:=top_any hX ha;have HT:=zh htop;have HXX:=zh hX;have HST:Hid (∀ X2:Px,X.Ext X2->∀ w,(pA X2).ho w->Calls Tryz.prog 53 #[.pointer (some ⟨X.p,0,none⟩)] w fun e w'=>e=.returned (.pointer (some ⟨X.s,0,none⟩))∧w'=w):=zh fun X2 q w h=>by have:=store_p w h;rwa [q.p,q.s] at this
 have HLE:Hid (∀ w,(pA X).ho w->Calls Tryz.prog 38 #[.pointer (some ⟨X.s,0,none⟩)] w fun e w'=>e=.returned (.int .i64 (L:Nat))∧w'=w):=zh fun w h=>by have:=len_c w (pA_sto h);rwa [hL] at this
 have HSZ:Hid (∀ X2:Px,X.Ext X2->PxOk X2->X2.S=X.S->∀ w,(pA X2).ho w->Calls Tryz.prog 92 #[.pointer (some ⟨X.p,0,none⟩),.int .i64 a] w fun e w'=>e=.returned (.int .i64 (n:Nat))∧St w [] [] w'):=zh fun X2 q1 q2 q3 w h=>by have:=size_any q2 (by rw [q3];exact ha) w h;rwa [q1.p,hn] at this
 have HMU:Hid (∀ w,Calls Tryz.prog 101 #[.int .i64 (n:Nat),.int .i64 (k:Nat)] w fun e w'=>e=.returned (.tuple #[.int .i64 (n*k:Nat),.nilIface])∧w'=w):=zh fun w=>mul_ok_e n k w (by first|omega|(simp only [maxT];omega)) (by first|omega|(simp only [maxT];omega)) (by first|omega|(simp only [maxT];omega))
 have HRU:Hid (∀ X2:Px,X.Ext X2->X2.S=X.S->∀ w,(pA X2).ho w->Calls Tryz.prog 68 #[.pointer (some ⟨X.s,0,none⟩),.int .i64 a] w fun e w'=>e=.returned (.tuple #[.agg #[.int .i64 kd,.int .u8 lt,.int .i64 lf,.int .i64 rg,.int .i64 tm],.nilIface])∧St w [] [] w'):=zh fun X2 q1 q3 w h=>by
  have:=rule_c (S:=X2.S) (i:=i) (x:=en) (by rw [q3];exact hx) (a:Int) (by omega) w (pA_sto h);rw [hen,q1.s] at this;exact this
 have HAP:Hid (∀ X2:Px,X.Ext X2->PxOk X2->X2.S=X.S->∀ w,((pA X2).sep deA).ho w->Calls Tryz.prog 130 #[.pointer (some ⟨X.p,0,none⟩),.int .i64 a] w fun e w'=>∃ (b:Bool) (X':Px),e=.returned (.bool b)∧(b=true->∀ k,2<=k->Canon (.pow T k)∧(Tr.pow T k).lay 0=(List.replicate k (T.lay 0)).flatten)∧X2.Ext X'∧PxOk X'∧X'.S=X2.S∧St w (pA X2).fp [pA X'] w'):=zh fun X2 q1 q2 q3 w h=>by
  have:=apart_c q2 (by rw [q3];exact hd:Den X2.S a T) hc (by rw [hT,hn];omega) w h;rwa [q1.p] at this
 have HPW:Hid (∀ X2:Px,X.Ext X2->PxOk X2->X2.S=X.S->Canon (.pow T k)∧(Tr.pow T k).lay 0=(List.replicate k (T.lay 0)).flatten->∀ w,(pA X2).ho w->Calls Tryz.prog 70 #[.pointer (some ⟨X.s,0,none⟩),.int .i64 a,.int .i64 (k:Nat)] w fun e w'=>∃ (X':Px) (id:Nat),e=.returned (.tuple #[.int .i64 id,.nilIface])∧X2.Ext X'∧PxOk X'∧IdIs X'.S id (repL k s)∧X'.S.list.length<=X2.S.list.length+1∧St w (pA X2).fp [pA X'] w'):=zh fun X2 q1 q2 q3 qc w h=>by
  have:=power_p (k:=k) (by rw [q3];exact hd:Den X2.S a T) h2 (by omega) (by rw [hTl];simp only [maxT];omega) q2 w h;rw [q1.s] at this;refine this.mono ?_;rintro e w' ⟨X',id,c,rfl,m1,m2,m3,m4,m5⟩;rcases m4 with ⟨rfl,m4⟩|⟨_,_,_,m4⟩
  ·exact ⟨X',id,rfl,m1,m2,.inr ⟨_,m4,qc.1,by rw [qc.2,hT];rfl⟩,m3,m5⟩
  ·have:=q1.le.1;rw [q3] at m4;omega
 have HDB:Hid (∀ X2:Px,X.Ext X2->PxOk X2->X2.S=X.S->∀ w,((pA X2).sep deA).ho w->Calls Tryz.prog 131 #[.pointer (some ⟨X.p,0,none⟩),.int .i64 a,.int .i64 (k:Nat)] w (IdPost X2 (repL k s) (4*(k*n)) (pA X2).fp w)):=zh fun X2 q1 q2 q3 w h=>by
  have h7:=q1.le.1;have:=double_c (X:=X2) (a:=a) (k:=k) (s:=s) q2 (by rw [q3];exact ha) (by omega) hk (by rw [hn];exact hl) (by rw [hn,q3];exact hroom) w h;rwa [q1.p,hn] at this
 have d1:decide ((a:Int)<0)=false:=(by simp);have d2:decide ((L:Int)<(a:Int))=false:=(by have:=hd.2.1;simp;omega);have d2n:decide (L<a)=false:=(by have:=hd.2.1;simp;omega);have d3:decide ((k:Int)<0)=false:=(by simp);have d4:((a:Int)==0)=false:=(by have:=hd.1;simp;omega);have d5:((k:Int)==0)=false:=(by simp;omega);have d6:((k:Int)==1)=false:=(by simp;omega);have d7:decide ((32768:Int)<(tp:Int))=false:=(by simp;omega);have d7n:decide (32768<tp)=false:=(by simp;omega);have HTN:Hid (Den X.S a T∧Canon T∧T.lay 0=s∧T.len=n∧1<=n∧2<=k∧k*n<=262144∧X.S.list.length+4*(k*n)<=X.S.most∧k<=k*n):=zh ⟨hd,hc,hT,hTl,hn1,h2,hl,hroom,hkn⟩;rcases hcase with ⟨rfl,t,hTt,hlf⟩|hkd
 ·have hnt:t.len*tm=n:=(by rw [← hTl,hTt];rfl);have htm2:2<=tm:=(by have:=hc.gd.2;rw [hTt] at this;exact this.2);have hctk:Canon (.pow t (tm*k)):=by
   rw [hTt] at hc;exact canon_pow_mul hc (Nat.le_trans htm2 (Nat.le_mul_of_pos_right _ (by omega)))
  have hpos:1<=t.len:=by
   rcases Nat.eq_zero_or_pos t.len with h0|h0
   ·rw [h0] at hnt;omega
   ·exact h0
  have htmn:tm<=n:=(by rw [← hnt];exact Nat.le_mul_of_pos_left _ hpos);have htk:tm*k<=n*k:=Nat.mul_le_mul_right _ htmn;have htmk:tm<=tm*k:=Nat.le_mul_of_pos_right _ (by omega);have hlay:(Tr.pow t (tm*k)).lay 0=repL k s:=by
   rw [pow_lay0 hctk.gd];have hp:=pow_lay0 (s:=t) (k:=tm) (by rw [← hTt];exact hc.gd);rw [← hT,hTt,hp];clear htk hctk;show repL (tm*k) (t.lay 0)=repL k (repL tm (t.lay 0))
   clear HT HST HLE HSZ HMU HRU HAP HPW HDB HTN hroom hl hkn hnk hcomm hk h2 d3 d5 d6 htmk;induction k with
   |zero=>simp [repL]
   |succ k ih=>rw [← repL_snoc,← ih,repL_add,Nat.mul_succ]
  obtain ⟨tk,htkk⟩:∃ x,tm*k=x:=⟨_,rfl⟩
  have HPM:Hid (∀ X2:Px,X.Ext X2->PxOk X2->X2.S=X.S->∀ w,(pA X2).ho w->Calls Tryz.prog 70 #[.pointer (some ⟨X.s,0,none⟩),.int .i64 lf,.int .i64 (tk:Nat)] w fun e w'=>∃ (X':Px) (id:Nat),e=.returned (.tuple #[.int .i64 id,.nilIface])∧X2.Ext X'∧PxOk X'∧IdIs X'.S id (repL k s)∧X'.S.list.length<=X2.S.list.length+1∧St w (pA X2).fp [pA X'] w'):=zh fun X2 q1 q2 q3 w h=>by
   have hlen:t.len*tk<=maxT:=(by rw [← htkk,← Nat.mul_assoc,hnt];simp only [maxT];omega);have:=power_p (k:=tk) (by rw [q3];exact hlf:Den X2.S lf t) (by omega) (by omega) hlen q2 w h;rw [q1.s] at this;refine this.mono ?_;rintro e w' ⟨X',id,c,rfl,m1,m2,m3,m4,m5⟩;rcases m4 with ⟨rfl,m4⟩|⟨_,_,_,m4⟩
   ·exact ⟨X',id,rfl,m1,m2,.inr ⟨_,m4,by rw [← htkk];exact hctk,by rw [← htkk];exact hlay⟩,m3,m5⟩
   ·have:=q1.le.1;rw [q3] at m4;omega
  have HTK2:Hid (IntKind.i64.wrap ((tm:Int)*(k:Int))=(tk:Nat)):=zh (by
   rw [← Int.natCast_mul,htkk,IntKind.wrap_i64];omega)
  have HTK3:Hid (tk<=262144):=zh (by omega);clear hX ha hd hc hT hTl hx hte hen hL hroom hl hkn hnk hcomm hn hTt hlf hnt htm2 hctk hpos htmn htk htmk hlay htkk hi htop;go_enter Tryz.func104,Tryz.ntmps104;go_wp2_with (first|refine sL ?_|(refine sS ?_;clear H;intros;rename_i H)|(go_at_call 53;first|(with_reducible refine same (HST.out X (.refl _) _ (H.get pk)) ?_)|(with_reducible refine same (HST.out X2 HY.out.1 _ (H.get pk)) ?_)|(with_reducible refine same (HST.out X3 (HY.out.1.trans HZ.out.1) _ (H.get pk)) ?_))|(go_at_call 38;with_reducible refine same (HLE.out _ (H.get pk)) ?_)|(go_at_call 91;with_reducible refine zm (HT.out X _ (.refl _) HXX.out rfl (H.sepK HK pk pk)) ?_;rintro e9 wc ⟨X2,y1,y2,y3,rfl,hb⟩;have HY:=zh (za y1 (za y2 y3));clear y1 y2 y3;replace H:=zn ((H.pick pk).call hb);clear hb)|(go_at_call 92;with_reducible refine zm (HSZ.out X2 HY.out.1 HY.out.2.1 HY.out.2.2 _ (H.get pk)) ?_;rintro e9 wc ⟨rfl,hb⟩;replace H:=H.grew hb.below;clear hb)|(go_at_call 101;with_reducible refine same (HMU.out _) ?_)|(go_at_call 68;with_reducible refine zm (HRU.out X2 HY.out.1 HY.out.2.2 _ (H.get pk)) ?_;rintro e9 wc ⟨rfl,hb⟩;replace H:=H.grew hb.below;clear hb));have HSTx:=zh (HST.out X2 HY.out.1);rename_i br w1 wr K9 a9;replace H:St w N [pA X2,blk br (.cells #[.int .i64 3,.int .u8 lt,.int .i64 lf,.int .i64 rg,.int .i64 tm] 131)] wr:=H.picks (.cons (A:=pA X2) pk (.cons (A:=blk br (.cells #[.int .i64 3,.int .u8 lt,.int .i64 lf,.int .i64 rg,.int .i64 tm] 131)) pk .nil));refine wp_region_sgx 13 [⟨[],fun v _=>v=.pointer (some ⟨X.p,0,none⟩)⟩,⟨[0],fun v _=>v=.pointer (some ⟨X.s,0,none⟩)⟩,⟨[],fun v _=>v=.pointer (some ⟨br,2,none⟩)⟩,⟨[2],fun v _=>v=.int .i64 lf⟩,⟨[],fun v _=>v=.pointer (some ⟨br,4,none⟩)⟩,⟨[4],fun v _=>v=.int .i64 tm⟩,⟨[],fun v _=>v=.int .i64 k⟩,⟨[5,6],fun v _=>v=.int .i64 (tk:Nat)⟩,⟨[1,3,7],fun v _=>∃ id:Nat,v=.tuple #[.int .i64 id,.nilIface]⟩,⟨[8],fun v ds=>∃ id:Nat,ds=[.tuple #[.int .i64 id,.nilIface]]∧v=.int .i64 id⟩,⟨[8],fun v ds=>∃ id:Nat,ds=[.tuple #[.int .i64 id,.nilIface]]∧v=.nilIface⟩,⟨[9],fun v ds=>ds=[v]⟩,⟨[10],fun v ds=>ds=[v]⟩] [8] [[0],[0],[0],[0],[0],[0],[0],[0],[0],[1],[1],[1],[1]] [fun _ wx=>St w N [pA X2,blk br (.cells #[.int .i64 3,.int .u8 lt,.int .i64 lf,.int .i64 rg,.int .i64 tm] 131)] wx,fun vals wx=>∃ (X5:Px) (id:Nat),vals 8=.tuple #[.int .i64 id,.nilIface]∧(X2.Ext X5∧PxOk X5∧IdIs X5.S id (repL k s)∧X5.S.list.length<=X2.S.list.length+1)∧St w N [pA X5,blk br (.cells #[.int .i64 3,.int .u8 lt,.int .i64 lf,.int .i64 rg,.int .i64 tm] 131)] wx]
   [[],[(0,78)],[],[(2,80)],[],[(4,82)],[],[(5,83),(6,84)],[(1,79),(3,81),(7,85)],[(8,86)],[(8,86)],[(9,87)],[(10,88)]] [(0,78),(1,79),(2,80),(3,81),(4,82),(5,83),(6,84),(7,85),(8,86),(9,87),(10,88),(11,6),(12,7)] (by kernel_rfl) (by kernel_rfl) H.drew ⟨⟨qo,trivial⟩,⟨?_,trivial⟩,⟨qo,trivial⟩,⟨?_,trivial⟩,⟨qo,trivial⟩,⟨?_,trivial⟩,⟨qo,trivial⟩,⟨?_,trivial⟩,⟨?_,trivial⟩,⟨?_,trivial⟩,⟨?_,trivial⟩,⟨?_,trivial⟩,⟨?_,trivial⟩,trivial⟩ ?_
  ·intro vals wx hd HC;simp only [GF] at hd;have H:=HC;simp only [CA] at H;simp only [PS,hd];go_simp;with_reducible refine zm (HSTx.out _ (H.get pk)) ?_
   rintro e wz ⟨rfl,rfl⟩;exact ⟨_,rfl,rfl,HC⟩
  ·intro vals wx hd HC;simp only [GF] at hd;have H:=HC;simp only [CA] at H;simp only [PS,hd];refine StStep.celC rfl rfl rfl rfl (arr_cell (H.get (A:=blk br (.cells #[.int .i64 3,.int .u8 lt,.int .i64 lf,.int .i64 rg,.int .i64 tm] 131)) pk) rfl) ⟨rfl,HC⟩
  ·intro vals wx hd HC;simp only [GF] at hd;have H:=HC;simp only [CA] at H;simp only [PS,hd];refine StStep.celC rfl rfl rfl rfl (arr_cell (H.get (A:=blk br (.cells #[.int .i64 3,.int .u8 lt,.int .i64 lf,.int .i64 rg,.int .i64 tm] 131)) pk) rfl) ⟨rfl,HC⟩
  ·intro vals wx hd HC;simp only [GF] at hd;have H:=HC;simp only [CA] at H;simp only [PS,hd];go_simp;first|exact HC|exact ⟨rfl,HC⟩|exact ⟨HTK2.out,HC⟩|(rw [HTK2.out];exact ⟨rfl,HC⟩)
  ·intro vals wx hd HC;simp only [GF] at hd;obtain ⟨h1,h3,h7⟩:=hd;have H:=HC;simp only [CA] at H;simp only [PS,h1,h3,h7];clear h1 h3 h7 HC;go_simp;with_reducible refine zm (HPM.out X2 HY.out.1 HY.out.2.1 HY.out.2.2 _ (H.get pk)) ?_
   rintro e wz ⟨X5,id5,rfl,y1,y2,y3,y4,hb⟩;have H2:=(H.pick pk).call hb;exact ⟨_,rfl,⟨_,rfl⟩,X5,id5,rfl,⟨y1,y2,y3,y4⟩,by simpa using H2⟩
  ·intro vals wx hd HC;simp only [GF] at hd;have h8:=hd;clear hd;have H:=HC;simp only [CA] at H;obtain ⟨X5,id5,hv8,hj5,H⟩:=H;simp only [PS];have e8:vals 8=.tuple #[.int .i64 id5,.nilIface]:=hv8;simp only [e8];clear h8;go_simp;first|exact ⟨⟨id5,by simp [e8],rfl⟩,HC⟩|exact ⟨⟨id5,rfl⟩,HC⟩|exact ⟨rfl,HC⟩|exact HC|exact ⟨⟨⟨id5,rfl⟩,rfl⟩,HC⟩|exact ⟨⟨id5,rfl,rfl⟩,HC⟩|fail "Z9"
  ·intro vals wx hd HC;simp only [GF] at hd;have h8:=hd;clear hd;have H:=HC;simp only [CA] at H;obtain ⟨X5,id5,hv8,hj5,H⟩:=H;simp only [PS];have e8:vals 8=.tuple #[.int .i64 id5,.nilIface]:=hv8;simp only [e8];clear h8;go_simp;first|exact ⟨⟨id5,by simp [e8],rfl⟩,HC⟩|exact ⟨⟨id5,rfl⟩,HC⟩|exact ⟨rfl,HC⟩|exact HC|exact ⟨⟨⟨id5,rfl⟩,rfl⟩,HC⟩|exact ⟨⟨id5,rfl,rfl⟩,HC⟩|fail "Z9"
  ·intro vals wx hd HC;simp only [GF] at hd;have h9:=hd;clear hd;have H:=HC;simp only [CA] at H;obtain ⟨X5,id5,hv8,hj5,H⟩:=H;simp only [PS];clear h9;go_simp;first|exact HC|exact ⟨rfl,HC⟩
  ·intro vals wx hd HC;simp only [GF] at hd;have h10:=hd;clear hd;have H:=HC;simp only [CA] at H;obtain ⟨X5,id5,hv8,hj5,H⟩:=H;simp only [PS];clear h10;go_simp;first|exact HC|exact ⟨rfl,HC⟩
  intro vals wx hd HC;have h8:=hd.2.2.2.2.2.2.2.2.1;have h9:=hd.2.2.2.2.2.2.2.2.2.1;have h10:=hd.2.2.2.2.2.2.2.2.2.2.1;have h11:=hd.2.2.2.2.2.2.2.2.2.2.2.1;have h12:=hd.2.2.2.2.2.2.2.2.2.2.2.2.1;simp only [CA] at HC;obtain ⟨X5,id5,hv8,hj5,H⟩:=HC;simp only [GF] at hd;simp only [PS,hd];clear hd;have e11:vals 11=.int .i64 id5:=by
   obtain ⟨q,q1,q2⟩:=(h9:∃ id:Nat,[vals 8]=[.tuple #[.int .i64 id,.nilIface]]∧vals 9=.int .i64 id)
   replace q1:[vals 8]=[Value.tuple #[.int .i64 q,.nilIface]]:=q1;rw [hv8] at q1;simp only [List.cons.injEq,and_true,Value.tuple.injEq,Array.mk.injEq,Value.int.injEq,true_and] at q1;rw [X8 (show [vals 9]=[vals 11] from h11),q2,q1]
  have e12:vals 12=.nilIface:=by
   obtain ⟨q,q1,q2⟩:=(h10:∃ id:Nat,[vals 8]=[.tuple #[.int .i64 id,.nilIface]]∧vals 10=.nilIface)
   rw [X8 (show [vals 10]=[vals 12] from h12),q2]
  simp only [hv8,e11,e12];go_wp2_with (first|refine sL ?_|(refine sS ?_;clear H;intros;rename_i H));go_ret2;exact ⟨X5,id5,rfl,HY.out.1.trans hj5.1,hj5.2.1,hj5.2.2.1,by have h1:=hj5.2.2.2;rw [HY.out.2.2] at h1;have:=HTN.out;omega,H.picks (.cons pk .nil)⟩
 ·have d8:((kd:Int)==3)=false:=(by simp;omega);clear hX ha hd hc hT hTl hx hte hen hL hroom hl hkn hnk hcomm hn hi htop hkd;go_enter Tryz.func104,Tryz.ntmps104;go_wp2_with (first|refine sL ?_|(refine sS ?_;clear H;intros;rename_i H)|(go_at_call 53;first|(with_reducible refine same (HST.out X (.refl _) _ (H.get pk)) ?_)|(with_reducible refine same (HST.out X2 HY.out.1 _ (H.get pk)) ?_)|(with_reducible refine same (HST.out X3 (HY.out.1.trans HZ.out.1) _ (H.get pk)) ?_))|(go_at_call 38;with_reducible refine same (HLE.out _ (H.get pk)) ?_)|(go_at_call 91;with_reducible refine zm (HT.out X _ (.refl _) HXX.out rfl (H.sepK HK pk pk)) ?_;rintro e9 wc ⟨X2,y1,y2,y3,rfl,hb⟩;have HY:=zh (za y1 (za y2 y3));clear y1 y2 y3;replace H:=zn ((H.pick pk).call hb);clear hb)|(go_at_call 92;with_reducible refine zm (HSZ.out X2 HY.out.1 HY.out.2.1 HY.out.2.2 _ (H.get pk)) ?_;rintro e9 wc ⟨rfl,hb⟩;replace H:=H.grew hb.below;clear hb)|(go_at_call 101;with_reducible refine same (HMU.out _) ?_)|(go_at_call 68;with_reducible refine zm (HRU.out X2 HY.out.1 HY.out.2.2 _ (H.get pk)) ?_;rintro e9 wc ⟨rfl,hb⟩;replace H:=H.grew hb.below;clear hb)|(go_at_call 130;with_reducible refine zm (HAP.out X2 HY.out.1 HY.out.2.1 HY.out.2.2 _ (H.sepK HK pk pk)) ?_;rintro e9 wc ⟨ap,X3,rfl,y0,y1,y2,y3,hb⟩;have HZ:=zh (za y1 (za y2 (za y3 y0)));clear y1 y2 y3 y0;replace H:=zn ((H.pick pk).call hb);clear hb))
  ·have hap:ap=true:=(by assumption);have HQC:=zh (HZ.out.2.2.2 hap k HTN.out.2.2.2.2.2.1);go_at_call 70;with_reducible refine zm (HPW.out X3 (HY.out.1.trans HZ.out.1) HZ.out.2.1 (HZ.out.2.2.1.trans HY.out.2.2) HQC.out _ (H.get pk)) ?_;rintro e9 wc ⟨X4,id4,rfl,y1,y2,y3,y4,hb⟩;have HW:=zh (za y1 (za y2 (za y3 y4)));clear y1 y2 y3 y4;replace H:=zn ((H.pick pk).call hb);clear hb
   go_wp2_with (first|refine sL ?_|(refine sS ?_;clear H;intros;rename_i H));go_ret2;exact ⟨X4,id4,rfl,HY.out.1.trans (HZ.out.1.trans HW.out.1),HW.out.2.1,HW.out.2.2.1,by have h1:=HW.out.2.2.2;rw [HZ.out.2.2.1,HY.out.2.2] at h1;have:=HTN.out;omega,H.picks (.cons pk .nil)⟩
  ·go_at_call 131;with_reducible refine zm (HDB.out X3 (HY.out.1.trans HZ.out.1) HZ.out.2.1 (HZ.out.2.2.1.trans HY.out.2.2) _ (H.sepK HK pk pk)) ?_;rintro e9 wc ⟨X4,id4,rfl,y1,y2,y3,y4,hb⟩;have HW:=zh (za y1 (za y2 (za y3 y4)));clear y1 y2 y3 y4;replace H:=zn ((H.pick pk).call hb);clear hb
   go_wp2_with (first|refine sL ?_|(refine sS ?_;clear H;intros;rename_i H));go_ret2;exact ⟨X4,id4,rfl,HY.out.1.trans (HZ.out.1.trans HW.out.1),HW.out.2.1,HW.out.2.2.1,by have h1:=HW.out.2.2.2;rw [HZ.out.2.2.1,HY.out.2.2] at h1;exact h1,H.picks (.cons pk .nil)⟩
end
section
open Go.RowKit Go.Maps
attribute [local go_sem] InGr
def JnRel (N:List Nat) (X:Px) (w:World) (mm:Nat) (v:Value) (wr:World):Prop :=
 ∃ (X1:Px),((v=.int .i64 0∧mm=2)∨(v=.int .i64 1∧mm=1)∨(v=.int .i64 2∧mm=0))∧(X.Ext X1∧PxOk X1∧X1.S=X.S)∧St w N [pA X1] wr
theorem joinE_c {X:Px} {a b:Nat} {sa sb:List Tr} (hX:PxOk X) (ha:IdIs X.S a sa) (hb:IdIs X.S b sb) (hl:sa.length+sb.length<=1048576) (hroom:X.S.list.length+(sa.length+sb.length)<=X.S.most) (w:World) (h:PH X w) :
  Calls Tryz.prog 105 #[.pointer (some ⟨X.p,0,none⟩),.int .i64 a,.int .i64 b] w (IdPost X (sa++sb) (sa.length+sb.length) (pA X).fp w):=by
 have h:((pA X).sep deA).ho w:=h;rw [sep_ho] at h;obtain ⟨k1,k2,hdd⟩:=h;have H:=St.one k1;have HK:Ks w (pA X).fp [deA]:=⟨by simpa using k2,by simpa using fun b hb hm=>hdd b hm hb⟩
 generalize (pA X).fp=N at *;clear k1 k2 hdd;have hLa:=idIs_le ha;have hLb:=idIs_le hb;obtain ⟨L,hL⟩:∃ n,X.S.list.length=n:=⟨_,rfl⟩
 rw [hL] at hLa hLb;obtain ⟨la,hla,htpa⟩:=top_any hX ha;obtain ⟨lb,hlb,htpb⟩:=top_any hX hb;have HTA:=zh htpa;have HTB:=zh htpb;have HST:Hid (∀ X2:Px,X.Ext X2->∀ w,(pA X2).ho w->Calls Tryz.prog 53 #[.pointer (some ⟨X.p,0,none⟩)] w fun e w'=>e=.returned (.pointer (some ⟨X.s,0,none⟩))∧w'=w):=zh fun X2 q w h=>by have:=store_p w h;rwa [q.p,q.s] at this
 have HLE:Hid (∀ X2:Px,X.Ext X2->X2.S=X.S->∀ w,(pA X2).ho w->Calls Tryz.prog 38 #[.pointer (some ⟨X.s,0,none⟩)] w fun e w'=>e=.returned (.int .i64 (L:Nat))∧w'=w):=zh fun X2 q e w h=>by have:=len_c w (pA_sto h);rwa [e,hL,q.s] at this
 obtain ⟨na,hna⟩:∃ n,sa.length=n:=⟨_,rfl⟩
 obtain ⟨nb,hnb⟩:∃ n,sb.length=n:=⟨_,rfl⟩
 obtain ⟨sm,hsm⟩:∃ n,na+nb=n:=⟨_,rfl⟩
 rw [hna,hnb,hsm] at hl hroom ⊢;have HSA:Hid (∀ X1:Px,X.Ext X1->PxOk X1->X1.S=X.S->∀ w,(pA X1).ho w->Calls Tryz.prog 92 #[.pointer (some ⟨X.p,0,none⟩),.int .i64 a] w fun e w'=>e=.returned (.int .i64 (na:Nat))∧St w [] [] w'):=zh fun X1 q1 q2 q3 w h=>by have:=size_any q2 (by rw [q3];exact ha) w h;rwa [q1.p,hna] at this
 have HSB:Hid (∀ X1:Px,X.Ext X1->PxOk X1->X1.S=X.S->∀ w,(pA X1).ho w->Calls Tryz.prog 92 #[.pointer (some ⟨X.p,0,none⟩),.int .i64 b] w fun e w'=>e=.returned (.int .i64 (nb:Nat))∧St w [] [] w'):=zh fun X1 q1 q2 q3 w h=>by have:=size_any q2 (by rw [q3];exact hb) w h;rwa [q1.p,hnb] at this
 have HAD:Hid (∀ w,Calls Tryz.prog 61 #[.int .i64 (na:Nat),.int .i64 (nb:Nat)] w fun e w'=>e=.returned (.tuple #[.int .i64 (sm:Nat),.nilIface])∧w'=w):=zh fun w=>by rw [← hsm];exact add_ok_e na nb w (show na+nb<=1152921504606846976 by omega)
 have HJO:Hid (∀ X1:Px,X.Ext X1->PxOk X1->X1.S=X.S->∀ w,((pA X1).sep deA).ho w->Calls Tryz.prog 94 #[.pointer (some ⟨X.p,0,none⟩),.int .i64 a,.int .i64 b] w (IdPost X1 (sa++sb) sm (pA X1).fp w)):=zh fun X1 q1 q2 q3 w h=>by
  have:=join_c (X:=X1) (a:=a) (b:=b) (sa:=sa) (sb:=sb) q2 (by rw [q3];exact ha) (by rw [q3];exact hb) (by rw [hna,hnb,hsm];exact hl) (by rw [hna,hnb,hsm,q3];exact hroom) w h;rwa [q1.p,hna,hnb,hsm] at this
 have d1:decide ((a:Int)<0)=false:=(by simp);have d2:decide ((b:Int)<0)=false:=(by simp);have d3:decide ((L:Int)<(a:Int))=false:=(by simp;omega);have d3n:decide (L<a)=false:=(by simp;omega);have d4:decide ((L:Int)<(b:Int))=false:=(by simp;omega);have d4n:decide (L<b)=false:=(by simp;omega);have hix0:∀ wr:World,(Instr.index 226 (.agg #[.int .i64 a,.int .i64 b]) (.int .i64 0)).run Tryz.prog wr=.ok (.int .i64 a) wr:=fun wr=>by kernel_rfl
 have hix1:∀ wr:World,(Instr.index 226 (.agg #[.int .i64 a,.int .i64 b]) (.int .i64 1)).run Tryz.prog wr=.ok (.int .i64 b) wr:=fun wr=>by kernel_rfl
 have HXX:=zh hX;clear hX ha hb hl hroom htpa htpb hla hlb hLa hLb hL hna hnb hsm;go_enter Tryz.func105,Tryz.ntmps105;go_wp2_with (first|refine sL ?_|(refine sS ?_;clear H;intros;rename_i H)|(go_at_call 53;with_reducible refine same (HST.out X (.refl _) _ (H.get pk)) ?_));go_loopg [23] 2 (fun mm v wr=>JnRel N X w mm v wr);case atStart=>exact ⟨X,.inl ⟨rfl,rfl⟩,⟨.refl _,HXX.out,rfl⟩,H.picks (.cons pk .nil)⟩
 case round =>
  clear H;obtain ⟨X1,hk,hx1,H⟩:=hrel;have HX1:=zh hx1;clear hx1;rcases hk with ⟨rfl,rfl⟩|⟨rfl,rfl⟩|⟨rfl,rfl⟩
  ·go_wp2_with (first|refine sL ?_|(refine sS ?_;clear H;intros;rename_i H)|(go_at_call 53;with_reducible refine same (HST.out X1 HX1.out.1 _ (H.get pk)) ?_)|(go_at_call 38;with_reducible refine same (HLE.out X1 HX1.out.1 HX1.out.2.2 _ (H.get pk)) ?_));go_roundg 1;case measure=>omega
   case rel=>exact ⟨X1,.inr (.inl ⟨rfl,rfl⟩),HX1.out,H⟩
  ·go_wp2_with (first|refine sL ?_|(refine sS ?_;clear H;intros;rename_i H)|(go_at_call 53;with_reducible refine same (HST.out X1 HX1.out.1 _ (H.get pk)) ?_)|(go_at_call 38;with_reducible refine same (HLE.out X1 HX1.out.1 HX1.out.2.2 _ (H.get pk)) ?_));go_roundg 0;case measure=>omega
   case rel=>exact ⟨X1,.inr (.inr ⟨rfl,rfl⟩),HX1.out,H⟩
  ·go_wp2_with (first|refine sL ?_|(refine sS ?_;clear H;intros;rename_i H));go_loopg [40] 2 (fun mm v wr=>JnRel N X w mm v wr);case atStart=>exact ⟨X1,.inl ⟨rfl,rfl⟩,HX1.out,H⟩
   case round =>
    clear H HX1;obtain ⟨X1,hk,hx1,H⟩:=hrel;have HX1:=zh hx1;clear hx1;rcases hk with ⟨rfl,rfl⟩|⟨rfl,rfl⟩|⟨rfl,rfl⟩
    ·go_wp2_with (first|refine sL ?_|(refine sS ?_;clear H;intros;rename_i H)|(go_at_call 91;with_reducible refine zm (HTA.out X1 _ HX1.out.1 HX1.out.2.1 HX1.out.2.2 (H.sepK HK pk pk)) ?_;rintro e9 wc ⟨X2,y1,y2,y3,rfl,hb⟩;have HY:=zh (za y1 (za y2 y3));clear y1 y2 y3;replace H:=zn ((H.pick pk).call hb);clear hb));go_roundg 1;case measure=>omega
     case rel=>exact ⟨X2,.inr (.inl ⟨rfl,rfl⟩),⟨HX1.out.1.trans HY.out.1,HY.out.2.1,HY.out.2.2.trans HX1.out.2.2⟩,H.picks (.cons pk .nil)⟩
    ·go_wp2_with (first|refine sL ?_|(refine sS ?_;clear H;intros;rename_i H)|(go_at_call 91;with_reducible refine zm (HTB.out X1 _ HX1.out.1 HX1.out.2.1 HX1.out.2.2 (H.sepK HK pk pk)) ?_;rintro e9 wc ⟨X2,y1,y2,y3,rfl,hb⟩;have HY:=zh (za y1 (za y2 y3));clear y1 y2 y3;replace H:=zn ((H.pick pk).call hb);clear hb));go_roundg 0;case measure=>omega
     case rel=>exact ⟨X2,.inr (.inr ⟨rfl,rfl⟩),⟨HX1.out.1.trans HY.out.1,HY.out.2.1,HY.out.2.2.trans HX1.out.2.2⟩,H.picks (.cons pk .nil)⟩
    ·go_wp2_with (first|refine sL ?_|(refine sS ?_;clear H;intros;rename_i H)|(go_at_call 92;(first|(with_reducible refine zm (HSA.out X1 HX1.out.1 HX1.out.2.1 HX1.out.2.2 _ (H.get pk)) ?_)|(with_reducible refine zm (HSB.out X1 HX1.out.1 HX1.out.2.1 HX1.out.2.2 _ (H.get pk)) ?_));rintro e9 wc ⟨rfl,hb⟩;replace H:=H.grew hb.below;clear hb)|(go_at_call 61;with_reducible refine same (HAD.out _) ?_)|(go_at_call 94;with_reducible refine zm (HJO.out X1 HX1.out.1 HX1.out.2.1 HX1.out.2.2 _ (H.sepK HK pk pk)) ?_;rintro e9 wc ⟨X2,id2,rfl,y1,y2,y3,y4,hb⟩;have HY:=zh (za y1 (za y2 (za y3 y4)));clear y1 y2 y3 y4;replace H:=zn ((H.pick pk).call hb);clear hb));go_ret2;exact ⟨X2,id2,rfl,HX1.out.1.trans HY.out.1,HY.out.2.1,HY.out.2.2.1,by have:=HY.out.2.2.2;rwa [HX1.out.2.2] at this,H.picks (.cons pk .nil)⟩
end
section
open Go.RowKit Go.Maps
attribute [local go_sem] InGr strB_size
section
variable {P:Program} {ops:Array Oper} {a:Act} {w:World} {o:Oper} {Rr:Value->World->Prop}
theorem StStep.lookC {ty:TypeId} {x y:Operand} {ok:Bool} {vm vk v:Value} (hw:Region.wanted o (yielded ops a.tmps)=true) (ho:o.op=.lookup ty x y ok) (hx:a.eval x=vm) (hy:a.eval y=vk) (hl:(Instr.lookup ty vm vk ok).run P w=.ok v w) (h:Rr v w):StStep P ops o a w Rr :=
 StStep.val hw (by
  unfold execOp;simp only [ho,hx,hy,Sem.run_bind,hl,Result.andThen_ok];rfl) h
end
theorem kn_in {S:Sto} {mp x y:Nat} {K:List (Nat×Nat)} (hS:S.Ok) (hx:x<=1152921504606846976) (hK:KnOk S K) (hy:(x,y)∈K) (ok:Bool) (w:World) (h:(mapA Tryz.prog 26 mp (K.map encK)).ho w):(Instr.lookup 136 (.map (some mp)) (.int .i64 (x:Nat)) ok).run Tryz.prog w=.ok (if ok then .tuple #[.int .i64 (y:Nat),.bool true] else .int .i64 (y:Nat)) w:=by
 rcases kn_look ok hx h with ⟨z,hz,hr⟩|⟨hno,_⟩
 ·have:=(hK _ hy).2.2.uniq hS (hK _ hz).2.2;simp only at this;rw [this];exact hr
 ·exact absurd rfl (hno _ hy)
theorem kn_out {mp x:Nat} {K:List (Nat×Nat)} (hx:x<=1152921504606846976) (hno:∀ q∈K,q.1≠x) (ok:Bool) (w:World) (h:(mapA Tryz.prog 26 mp (K.map encK)).ho w):(Instr.lookup 136 (.map (some mp)) (.int .i64 (x:Nat)) ok).run Tryz.prog w=.ok (if ok then .tuple #[.int .i64 0,.bool false] else .int .i64 0) w:=by
 rcases kn_look ok hx h with ⟨z,hz,hr⟩|⟨_,hr⟩
 ·exact absurd rfl (hno _ hz)
 ·exact hr
theorem kn_dec (x:Nat) (K:List (Nat×Nat)):(∃ y,(x,y)∈K)∨∀ q∈K,q.1≠x:=by
 by_cases h:∃ y,(x,y)∈K
 ·exact .inl h
 ·refine .inr fun q hq e=>h ⟨q.2,?_⟩
  subst e;exact hq
theorem rep_txt (k:Nat) (l:List Nat):((List.replicate k l).flatten).map Tr.leaf=repL k (l.map Tr.leaf):=by
 simp [repL,List.map_flatten,List.map_replicate]
attribute [local go_sem] StStep stAt stUpon in
theorem learn_g {X:Px} {bm mp x:Nat} {K:List (Nat×Nat)} (hX:PxOk X) (h1:1<=x) (h2:x<=X.S.list.length) (hK:KnOk X.S K) (hn:∀ q∈K,q.1≠x) (ht:(X.S.tr x).len<=300) (hroom:X.S.list.length+1300<X.S.most) (hmost:X.S.most<=1048576) (w:World) (h:((pA X).sep ((blk bm (.cells #[.pointer (some ⟨X.p,0,none⟩),.map (some mp)] 138)).sep (mapA Tryz.prog 26 mp (K.map encK)))).ho w) (hd:(((pA X).sep ((blk bm (.cells #[.pointer (some ⟨X.p,0,none⟩),.map (some mp)] 138)).sep (mapA Tryz.prog 26 mp (K.map encK)))).sep deA).ho w) :
  Calls Tryz.prog 71 #[.pointer (some ⟨bm,0,none⟩),.int .i64 (x:Nat)] w fun e w'=>∃ (X':Px) (K':List (Nat×Nat)) (c:Nat),e=.returned (.tuple #[.int .i64 c,.nilIface])∧((c=0∧∃ y,K'=K++[(x,y)]∧IdIs X'.S y ((X.S.tr x).txt.map Tr.leaf))∨(X'=X∧K'=K∧RefOf X.S x c∧¬ (X.S.tr x).len<=256∧∀ q∈K,q.1≠c))∧X.Ext X'∧PxOk X'∧X'.S.list.length<=X.S.list.length+ownT (X.S.tr x)∧St w ((pA X).sep ((blk bm (.cells #[.pointer (some ⟨X.p,0,none⟩),.map (some mp)] 138)).sep (mapA Tryz.prog 26 mp (K.map encK)))).fp [pA X',blk bm (.cells #[.pointer (some ⟨X.p,0,none⟩),.map (some mp)] 138),mapA Tryz.prog 26 mp (K'.map encK)] w':=by
 by_cases hlow:(X.S.tr x).len<=256
 ·refine (learn_c (L9:=(X.S.tr x).len) hX h1 h2 hn hlow (Nat.le_refl _) (by omega) hmost w h hd).mono ?_;rintro e w' ⟨X',y,rfl,q1,q2,q3,q4,q5⟩;exact ⟨X',_,0,rfl,.inl ⟨rfl,y,rfl,q3⟩,q1,q2,by unfold ownT;rw [if_pos hlow];exact q4,q5⟩
 have H:=((St.one h).sep.pick (A:=(((blk bm (.cells #[.pointer (some ⟨X.p,0,none⟩),.map (some mp)] 138)).sep (mapA Tryz.prog 26 mp (K.map encK))))) pk).sep;rw [sep_ho] at hd;have HK:Ks w ((pA X).sep ((blk bm (.cells #[.pointer (some ⟨X.p,0,none⟩),.map (some mp)] 138)).sep (mapA Tryz.prog 26 mp (K.map encK)))).fp [deA]:=⟨by simpa using hd.2.1,by simpa using fun b hb hm=>hd.2.2 b hm hb⟩
 generalize ((pA X).sep ((blk bm (.cells #[.pointer (some ⟨X.p,0,none⟩),.map (some mp)] 138)).sep (mapA Tryz.prog 26 mp (K.map encK)))).fp=N at H HK ⊢;obtain ⟨n,hnn⟩:∃ n,(X.S.tr x).len=n:=⟨_,rfl⟩
 obtain ⟨j,hj⟩:∃ j,x=j+1:=⟨x-1,by omega⟩
 obtain ⟨en,hen⟩:∃ a,X.S.list[j]?=some a:=⟨_,zg (by omega)⟩
 have hlw:en.w.len=n:=(by rw [← hnn,hj];exact (tr_len hX.ok j en hen).1.symm);have HS:Hid (∀ w,(pA X).ho w->Calls Tryz.prog 53 #[.pointer (some ⟨X.p,0,none⟩)] w fun e w'=>e=.returned (.pointer (some ⟨X.s,0,none⟩))∧w'=w):=zh fun w h=>store_p w h
 have hW:Hid (∀ w,(pA X).ho w->Calls Tryz.prog 40 #[.pointer (some ⟨X.s,0,none⟩),.int .i64 (x:Nat)] w fun e w'=>e=.returned (.tuple #[.agg #[.int .i64 (n:Nat),.int .i64 en.w.lines,.int .i64 en.w.head,.int .i64 en.w.tail,.int .u64 en.w.val,.int .u64 en.w.scale],.nilIface])∧St w [] [] w'):=zh fun w h=>by
  have:=weight_c (i:=x) (x:=en) (by rw [hj];exact hen) w (pA_sto h);rw [← hlw];exact this
 have HR:Hid (∀ (y:Nat) w,(((blk bm (.cells #[.pointer (some ⟨X.p,0,none⟩),.map (some mp)] 138)).sep (mapA Tryz.prog 26 mp (K.map encK)))).ho w->Calls Tryz.prog 103 #[.pointer (some ⟨bm,0,none⟩),.int .i64 (x:Nat),.int .i64 (y:Nat),.nilIface] w fun e w'=>e=.returned .nilIface∧St w (((blk bm (.cells #[.pointer (some ⟨X.p,0,none⟩),.map (some mp)] 138)).sep (mapA Tryz.prog 26 mp (K.map encK)))).fp [blk bm (.cells #[.pointer (some ⟨X.p,0,none⟩),.map (some mp)] 138),mapA Tryz.prog 26 mp ((K++[(x,y)]).map encK)] w'):=zh fun y w h=>remember_c (by omega) hn w h
 have d1:decide ((n:Int)<=256)=false:=(by simp;omega);have d1n:decide (n<=256)=false:=(by simp;omega);have HLOW:=zh hlow;have hx1:X.S.list[x-1]?=some en:=(by rw [hj];exact hen);have hxb:X.S.list.length<=1048576:=(by omega);have HRUL:∀ (kd lt lf rg tm:Nat),en.r=⟨kd,lt,lf,rg,tm⟩->∀ w,(pA X).ho w->Calls Tryz.prog 68 #[.pointer (some ⟨X.s,0,none⟩),.int .i64 x] w fun e w'=>e=.returned (.tuple #[.agg #[.int .i64 kd,.int .u8 lt,.int .i64 lf,.int .i64 rg,.int .i64 tm],.nilIface])∧St w [] [] w':=fun kd lt lf rg tm he w h=>by
  have:=rule_c (S:=X.S) (i:=j) (x:=en) hen (x:Int) (by omega) w (pA_sto h);rw [he] at this;exact this
 have HRO:Hid (X.S.list.length+1300<X.S.most):=zh hroom;have HXX:=zh hX;have HTN:=zh (za ht hnn);clear hnn;obtain ⟨kd,lt,lf,rg,tm,her,hlf,hcase⟩:∃ kd lt lf rg tm:Nat,en.r=⟨kd,lt,lf,rg,tm⟩∧(1<=lf∧lf<x)∧((kd=3∧2<=tm∧X.S.tr x=.pow (X.S.tr lf) tm)∨(kd=2∧1<=rg∧rg<x∧X.S.tr x=.pair (X.S.tr lf) (X.S.tr rg))):=by
  cases rule_of hX.ok hen with
  |letter b hb hr hw ht'=>exfalso;rw [hj,ht'] at hlow;simp [Tr.len] at hlow
  |pair l r y z hl hr _ _ he _ _ ht'=>exact ⟨_,_,_,_,_,he,by omega,.inr ⟨rfl,by omega,by omega,by rw [hj];exact ht'⟩⟩
  |pow l k y hl hy hk he hw hs ht'=>exact ⟨_,_,_,_,_,he,by omega,.inl ⟨rfl,hk,by rw [hj];exact ht'⟩⟩
 have HRU:=zh (HRUL kd lt lf rg tm her);have HLF:=zh hlf;have hlb:lf<=1152921504606846976:=(by omega);rcases kn_dec lf K with ⟨y1,hy1⟩|hno
 case inr =>
  have HL1:Hid (∀ w,(mapA Tryz.prog 26 mp (K.map encK)).ho w->(Instr.lookup 136 (.map (some mp)) (.int .i64 (lf:Nat)) true).run Tryz.prog w=.ok (.tuple #[.int .i64 0,.bool false]) w):=zh fun w h=>kn_out hlb hno true w h
  have HRF:Hid (RefOf X.S x lf∧∀ q∈K,q.1≠lf):=zh ⟨⟨hlf.1,en,hx1,by rw [her];exact .inl rfl⟩,hno⟩;clear hX h1 h2 hK hn ht hroom hmost h hd hj hen hlw hx1 hxb HRUL her hlf hcase hno hlb hlow;go_enter Tryz.func71,Tryz.ntmps71;go_wp2_with (first|refine sL ?_|(refine sS ?_;clear H;intros;rename_i H)|(go_at_call 53;with_reducible refine same (HS.out _ (H.get pk)) ?_)|(go_at_call 40;with_reducible refine zm (hW.out _ (H.get (A:=pA X) pk)) ?_;rintro e9 wc ⟨rfl,hb⟩;replace H:=H.grew hb.below;clear hb)|(go_at_call 68;with_reducible refine zm (HRU.out _ (H.get pk)) ?_;rintro e9 wc ⟨rfl,hb⟩;replace H:=H.grew hb.below;clear hb));rename_i br _ _ _ _;replace H:St w N [pA X,blk bm (.cells #[.pointer (some ⟨X.p,0,none⟩),.map (some mp)] 138),mapA Tryz.prog 26 mp (K.map encK),blk br (.cells #[.int .i64 kd,.int .u8 lt,.int .i64 lf,.int .i64 rg,.int .i64 tm] 131)] _:=H.picks (.cons (A:=pA X) pk (.cons (A:=blk bm (.cells #[.pointer (some ⟨X.p,0,none⟩),.map (some mp)] 138)) pk (.cons (A:=mapA Tryz.prog 26 mp (K.map encK)) pk (.cons (A:=blk br (.cells #[.int .i64 kd,.int .u8 lt,.int .i64 lf,.int .i64 rg,.int .i64 tm] 131)) pk .nil))));refine wp_region_sgx 12 [⟨[],fun v _=>v=.pointer (some ⟨bm,0,none⟩)⟩,⟨[0],fun v _=>v=.pointer (some ⟨bm,0,none⟩)⟩,⟨[1],fun v _=>v=.pointer (some ⟨bm,1,none⟩)⟩,⟨[2],fun v _=>v=.map (some mp)⟩,⟨[],fun v _=>v=.pointer (some ⟨br,2,none⟩)⟩,⟨[4],fun v _=>v=.int .i64 lf⟩,⟨[3,5],fun v _=>v=.tuple #[.int .i64 0,.bool false]⟩,⟨[6],fun v _=>v=.tuple #[.int .i64 0,.bool false]⟩,⟨[7],fun v _=>v=.int .i64 0⟩,⟨[7],fun v _=>v=.bool false⟩,⟨[8],fun v _=>v=.int .i64 0⟩,⟨[9],fun v _=>v=.bool false⟩] [] [[0],[0],[0],[0],[0],[0],[0],[0],[0],[0],[0],[0]] [fun _ wx=>St w N [pA X,blk bm (.cells #[.pointer (some ⟨X.p,0,none⟩),.map (some mp)] 138),mapA Tryz.prog 26 mp (K.map encK),blk br (.cells #[.int .i64 kd,.int .u8 lt,.int .i64 lf,.int .i64 rg,.int .i64 tm] 131)] wx]
   [[],[(0,71)],[(1,72)],[(2,73)],[],[(4,75)],[(3,74),(5,76)],[(6,77)],[(7,70)],[(7,70)],[(8,78)],[(9,79)]] [(0,71),(1,72),(2,73),(3,74),(4,75),(5,76),(6,77),(7,70),(8,78),(9,79),(10,13),(11,14)] (by kernel_rfl) (by kernel_rfl) H.drew ⟨⟨qo,trivial⟩,⟨qo,trivial⟩,⟨qo,trivial⟩,⟨?_,trivial⟩,⟨qo,trivial⟩,⟨?_,trivial⟩,⟨?_,trivial⟩,⟨qo,trivial⟩,⟨qo,trivial⟩,⟨qo,trivial⟩,⟨qo,trivial⟩,⟨qo,trivial⟩,trivial⟩ ?_
  ·intro vals wx hd HC;simp only [GF] at hd;have H:=HC;simp only [CA] at H;simp only [PS,hd];refine StStep.celC rfl rfl rfl rfl (arr_cell (H.get (A:=blk bm (.cells #[.pointer (some ⟨X.p,0,none⟩),.map (some mp)] 138)) pk) rfl) ⟨rfl,HC⟩
  ·intro vals wx hd HC;simp only [GF] at hd;have H:=HC;simp only [CA] at H;simp only [PS,hd];refine StStep.celC rfl rfl rfl rfl (arr_cell (H.get (A:=blk br (.cells #[.int .i64 kd,.int .u8 lt,.int .i64 lf,.int .i64 rg,.int .i64 tm] 131)) pk) rfl) ⟨rfl,HC⟩
  ·intro vals wx hd HC;simp only [GF] at hd;have H:=HC;simp only [CA] at H;simp only [PS,hd];refine StStep.lookC rfl rfl rfl rfl (HL1.out _ (H.get pk)) ⟨rfl,HC⟩
  intro vals wx hd HC;simp only [CA] at HC;have H:=HC;clear HC;simp only [GF] at hd;simp only [PS,hd];clear hd;go_wp2_with (first|refine sL ?_|(refine sS ?_;clear H;intros;rename_i H));go_ret2;exact ⟨X,K,lf,rfl,.inr ⟨rfl,rfl,HRF.out.1,HLOW.out,HRF.out.2⟩,.refl _,HXX.out,Nat.le_add_right _ _,H.picks (.cons pk (.cons pk (.cons pk .nil)))⟩
 have HL1:Hid (∀ w,(mapA Tryz.prog 26 mp (K.map encK)).ho w->(Instr.lookup 136 (.map (some mp)) (.int .i64 (lf:Nat)) true).run Tryz.prog w=.ok (.tuple #[.int .i64 (y1:Nat),.bool true]) w):=zh fun w h=>kn_in hX.ok hlb hK hy1 true w h
 have hid1:=(hK _ hy1).2.2;simp only at hid1;rcases hcase with ⟨rfl,htm,htr⟩|⟨rfl,hr1,hr2,htr⟩
 ·have hlen:(X.S.tr lf).len*tm=n:=(by rw [← HTN.out.2,htr];rfl);have hHN:=HTN.out;have hpos:1<=(X.S.tr lf).len:=by
   rcases Nat.eq_zero_or_pos (X.S.tr lf).len with h0|h0
   ·rw [h0] at hlen;omega
   ·exact h0
  have htmn:tm<=n:=(by rw [← hlen];exact Nat.le_mul_of_pos_left _ hpos);have hsl:((X.S.tr lf).txt.map Tr.leaf).length=(X.S.tr lf).len:=(by rw [List.length_map,Tr.txt_len]);have htx:(X.S.tr x).txt.map Tr.leaf=repL tm ((X.S.tr lf).txt.map Tr.leaf):=(by rw [htr];exact rep_txt _ _);have hcm:tm*(X.S.tr lf).len=n:=(by rw [Nat.mul_comm];exact hlen);have hown:ownT (X.S.tr x)=4*n:=by
   unfold ownT;rw [if_neg hlow,hHN.2,htr]
  have HRP:Hid (∀ w,((pA X).sep deA).ho w->Calls Tryz.prog 104 #[.pointer (some ⟨X.p,0,none⟩),.int .i64 (y1:Nat),.int .i64 (tm:Nat)] w (IdPost X ((X.S.tr x).txt.map Tr.leaf) (ownT (X.S.tr x)) (pA X).fp w)):=zh fun w h=>by
   have:=repeat_c (a:=y1) (k:=tm) hX hid1 (fun e=>by rw [e] at hsl;simp at hsl;omega) htm (by omega) (by rw [hsl,hcm];omega) (by rw [hsl,hcm];omega) w h;rw [hsl,hcm,← htx] at this;rw [hown];exact this
  clear hX h1 h2 hK hn ht hroom hmost h hd hj hen hlw hx1 hxb HRUL her hlf hlb hlow hid1 hy1 htm htr hlen hHN hpos htmn hsl htx hcm hown;go_enter Tryz.func71,Tryz.ntmps71;go_wp2_with (first|refine sL ?_|(refine sS ?_;clear H;intros;rename_i H)|(go_at_call 53;with_reducible refine same (HS.out _ (H.get pk)) ?_)|(go_at_call 40;with_reducible refine zm (hW.out _ (H.get (A:=pA X) pk)) ?_;rintro e9 wc ⟨rfl,hb⟩;replace H:=H.grew hb.below;clear hb)|(go_at_call 68;with_reducible refine zm (HRU.out _ (H.get pk)) ?_;rintro e9 wc ⟨rfl,hb⟩;replace H:=H.grew hb.below;clear hb));rename_i br _ _ _ _;replace H:St w N [pA X,blk bm (.cells #[.pointer (some ⟨X.p,0,none⟩),.map (some mp)] 138),mapA Tryz.prog 26 mp (K.map encK),blk br (.cells #[.int .i64 3,.int .u8 lt,.int .i64 lf,.int .i64 rg,.int .i64 tm] 131)] _:=H.picks (.cons (A:=pA X) pk (.cons (A:=blk bm (.cells #[.pointer (some ⟨X.p,0,none⟩),.map (some mp)] 138)) pk (.cons (A:=mapA Tryz.prog 26 mp (K.map encK)) pk (.cons (A:=blk br (.cells #[.int .i64 3,.int .u8 lt,.int .i64 lf,.int .i64 rg,.int .i64 tm] 131)) pk .nil))));refine wp_region_sgx 12 [⟨[],fun v _=>v=.pointer (some ⟨bm,0,none⟩)⟩,⟨[0],fun v _=>v=.pointer (some ⟨bm,0,none⟩)⟩,⟨[1],fun v _=>v=.pointer (some ⟨bm,1,none⟩)⟩,⟨[2],fun v _=>v=.map (some mp)⟩,⟨[],fun v _=>v=.pointer (some ⟨br,2,none⟩)⟩,⟨[4],fun v _=>v=.int .i64 lf⟩,⟨[3,5],fun v _=>v=.tuple #[.int .i64 (y1:Nat),.bool true]⟩,⟨[6],fun v _=>v=.tuple #[.int .i64 (y1:Nat),.bool true]⟩,⟨[7],fun v _=>v=.int .i64 (y1:Nat)⟩,⟨[7],fun v _=>v=.bool true⟩,⟨[8],fun v _=>v=.int .i64 (y1:Nat)⟩,⟨[9],fun v _=>v=.bool true⟩] [] [[0],[0],[0],[0],[0],[0],[0],[0],[0],[0],[0],[0]] [fun _ wx=>St w N [pA X,blk bm (.cells #[.pointer (some ⟨X.p,0,none⟩),.map (some mp)] 138),mapA Tryz.prog 26 mp (K.map encK),blk br (.cells #[.int .i64 3,.int .u8 lt,.int .i64 lf,.int .i64 rg,.int .i64 tm] 131)] wx]
   [[],[(0,71)],[(1,72)],[(2,73)],[],[(4,75)],[(3,74),(5,76)],[(6,77)],[(7,70)],[(7,70)],[(8,78)],[(9,79)]] [(0,71),(1,72),(2,73),(3,74),(4,75),(5,76),(6,77),(7,70),(8,78),(9,79),(10,13),(11,14)] (by kernel_rfl) (by kernel_rfl) H.drew ⟨⟨qo,trivial⟩,⟨qo,trivial⟩,⟨qo,trivial⟩,⟨?_,trivial⟩,⟨qo,trivial⟩,⟨?_,trivial⟩,⟨?_,trivial⟩,⟨qo,trivial⟩,⟨qo,trivial⟩,⟨qo,trivial⟩,⟨qo,trivial⟩,⟨qo,trivial⟩,trivial⟩ ?_
  ·intro vals wx hd HC;simp only [GF] at hd;have H:=HC;simp only [CA] at H;simp only [PS,hd];refine StStep.celC rfl rfl rfl rfl (arr_cell (H.get (A:=blk bm (.cells #[.pointer (some ⟨X.p,0,none⟩),.map (some mp)] 138)) pk) rfl) ⟨rfl,HC⟩
  ·intro vals wx hd HC;simp only [GF] at hd;have H:=HC;simp only [CA] at H;simp only [PS,hd];refine StStep.celC rfl rfl rfl rfl (arr_cell (H.get (A:=blk br (.cells #[.int .i64 3,.int .u8 lt,.int .i64 lf,.int .i64 rg,.int .i64 tm] 131)) pk) rfl) ⟨rfl,HC⟩
  ·intro vals wx hd HC;simp only [GF] at hd;have H:=HC;simp only [CA] at H;simp only [PS,hd];refine StStep.lookC rfl rfl rfl rfl (HL1.out _ (H.get pk)) ⟨rfl,HC⟩
  intro vals wx hd HC;simp only [CA] at HC;have H:=HC;clear HC;simp only [GF] at hd;simp only [PS,hd];clear hd;go_wp2_with (first|refine sL ?_|(refine sS ?_;clear H;intros;rename_i H));replace H:St w N [pA X,blk bm (.cells #[.pointer (some ⟨X.p,0,none⟩),.map (some mp)] 138),mapA Tryz.prog 26 mp (K.map encK),blk br (.cells #[.int .i64 3,.int .u8 lt,.int .i64 lf,.int .i64 rg,.int .i64 tm] 131)] _:=H.picks (.cons (A:=pA X) pk (.cons (A:=blk bm (.cells #[.pointer (some ⟨X.p,0,none⟩),.map (some mp)] 138)) pk (.cons (A:=mapA Tryz.prog 26 mp (K.map encK)) pk (.cons (A:=blk br (.cells #[.int .i64 3,.int .u8 lt,.int .i64 lf,.int .i64 rg,.int .i64 tm] 131)) pk .nil))));refine wp_region_sgx 13 [⟨[],fun v _=>v=.pointer (some ⟨bm,0,none⟩)⟩,⟨[0],fun v _=>v=.pointer (some ⟨bm,0,none⟩)⟩,⟨[1],fun v _=>v=.pointer (some ⟨bm,0,none⟩)⟩,⟨[2],fun v _=>v=.pointer (some ⟨X.p,0,none⟩)⟩,⟨[],fun v _=>v=.int .i64 (y1:Nat)⟩,⟨[],fun v _=>v=.pointer (some ⟨br,4,none⟩)⟩,⟨[5],fun v _=>v=.int .i64 tm⟩,⟨[3,4,6],fun v _=>∃ id:Nat,v=.tuple #[.int .i64 id,.nilIface]⟩,⟨[7],fun v ds=>ds=[v]⟩,⟨[8],fun v ds=>∃ id:Nat,ds=[.tuple #[.int .i64 id,.nilIface]]∧v=.int .i64 id⟩,⟨[8],fun v ds=>∃ id:Nat,ds=[.tuple #[.int .i64 id,.nilIface]]∧v=.nilIface⟩,⟨[9],fun v ds=>ds=[v]⟩,⟨[10],fun v ds=>ds=[v]⟩] [7] [[0],[0],[0],[0],[0],[0],[0],[0],[1],[1],[1],[1],[1]] [fun _ wx=>St w N [pA X,blk bm (.cells #[.pointer (some ⟨X.p,0,none⟩),.map (some mp)] 138),mapA Tryz.prog 26 mp (K.map encK),blk br (.cells #[.int .i64 3,.int .u8 lt,.int .i64 lf,.int .i64 rg,.int .i64 tm] 131)] wx,fun vals wx=>∃ (X5:Px) (id:Nat),vals 7=.tuple #[.int .i64 id,.nilIface]∧(X.Ext X5∧PxOk X5∧IdIs X5.S id ((X.S.tr x).txt.map Tr.leaf)∧X5.S.list.length<=X.S.list.length+ownT (X.S.tr x))∧St w N [pA X5,blk bm (.cells #[.pointer (some ⟨X.p,0,none⟩),.map (some mp)] 138),mapA Tryz.prog 26 mp (K.map encK),blk br (.cells #[.int .i64 3,.int .u8 lt,.int .i64 lf,.int .i64 rg,.int .i64 tm] 131)] wx]
   [[],[(0,88)],[(1,89)],[(2,90)],[],[],[(5,93)],[(3,91),(4,92),(6,94)],[(7,95)],[(8,87)],[(8,87)],[(9,96)],[(10,97)]] [(0,88),(1,89),(2,90),(3,91),(4,92),(5,93),(6,94),(7,95),(8,87),(9,96),(10,97),(11,15),(12,16)] (by kernel_rfl) (by kernel_rfl) H.drew ⟨⟨qo,trivial⟩,⟨qo,trivial⟩,⟨qo,trivial⟩,⟨?_,trivial⟩,⟨qo,trivial⟩,⟨qo,trivial⟩,⟨?_,trivial⟩,⟨?_,trivial⟩,⟨?_,trivial⟩,⟨?_,trivial⟩,⟨?_,trivial⟩,⟨?_,trivial⟩,⟨?_,trivial⟩,trivial⟩ ?_
  ·intro vals wx hd HC;simp only [GF] at hd;have H:=HC;simp only [CA] at H;simp only [PS,hd];refine StStep.celC rfl rfl rfl rfl (arr_cell (H.get (A:=blk bm (.cells #[.pointer (some ⟨X.p,0,none⟩),.map (some mp)] 138)) pk) rfl) ⟨rfl,HC⟩
  ·intro vals wx hd HC;simp only [GF] at hd;have H:=HC;simp only [CA] at H;simp only [PS,hd];refine StStep.celC rfl rfl rfl rfl (arr_cell (H.get (A:=blk br (.cells #[.int .i64 3,.int .u8 lt,.int .i64 lf,.int .i64 rg,.int .i64 tm] 131)) pk) rfl) ⟨rfl,HC⟩
  ·intro vals wx hd HC;simp only [GF] at hd;obtain ⟨h3,h4,h6⟩:=hd;have H:=HC;simp only [CA] at H;simp only [PS,h3,h4,h6];clear h3 h4 h6 HC;go_simp;with_reducible refine zm (HRP.out _ (H.sepK HK pk pk)) ?_
   rintro e wz ⟨X5,id5,rfl,y1,y2,y3,y4,hb⟩;have H2:=(H.pick pk).call hb;exact ⟨_,rfl,⟨_,rfl⟩,X5,id5,rfl,⟨y1,y2,y3,y4⟩,by simpa using H2⟩
  ·intro vals wx hd HC;simp only [GF] at hd;have h7:=hd;clear hd;have H:=HC;simp only [CA] at H;obtain ⟨X5,id5,hv7,hj5,H⟩:=H;simp only [PS];clear h7;go_simp;first|exact HC|exact ⟨rfl,HC⟩
  ·intro vals wx hd HC;simp only [GF] at hd;have h8:=hd;clear hd;have H:=HC;simp only [CA] at H;obtain ⟨X5,id5,hv7,hj5,H⟩:=H;simp only [PS];have e8:vals 8=.tuple #[.int .i64 id5,.nilIface]:=(by rw [← hv7];exact X8 (show [vals 7]=[vals 8] from h8));simp only [e8];clear h8;go_simp;first|exact ⟨⟨id5,by simp [e8],rfl⟩,HC⟩|exact ⟨⟨id5,rfl⟩,HC⟩|exact ⟨rfl,HC⟩|exact HC|exact ⟨⟨⟨id5,rfl⟩,rfl⟩,HC⟩|exact ⟨⟨id5,rfl,rfl⟩,HC⟩|fail "Z9"
  ·intro vals wx hd HC;simp only [GF] at hd;have h8:=hd;clear hd;have H:=HC;simp only [CA] at H;obtain ⟨X5,id5,hv7,hj5,H⟩:=H;simp only [PS];have e8:vals 8=.tuple #[.int .i64 id5,.nilIface]:=(by rw [← hv7];exact X8 (show [vals 7]=[vals 8] from h8));simp only [e8];clear h8;go_simp;first|exact ⟨⟨id5,by simp [e8],rfl⟩,HC⟩|exact ⟨⟨id5,rfl⟩,HC⟩|exact ⟨rfl,HC⟩|exact HC|exact ⟨⟨⟨id5,rfl⟩,rfl⟩,HC⟩|exact ⟨⟨id5,rfl,rfl⟩,HC⟩|fail "Z9"
  ·intro vals wx hd HC;simp only [GF] at hd;have h9:=hd;clear hd;have H:=HC;simp only [CA] at H;obtain ⟨X5,id5,hv7,hj5,H⟩:=H;simp only [PS];clear h9;go_simp;first|exact HC|exact ⟨rfl,HC⟩
  ·intro vals wx hd HC;simp only [GF] at hd;have h10:=hd;clear hd;have H:=HC;simp only [CA] at H;obtain ⟨X5,id5,hv7,hj5,H⟩:=H;simp only [PS];clear h10;go_simp;first|exact HC|exact ⟨rfl,HC⟩
  intro vals wx hd HC;have h7:=hd.2.2.2.2.2.2.2.1;have h8:=hd.2.2.2.2.2.2.2.2.1;have h9:=hd.2.2.2.2.2.2.2.2.2.1;have h10:=hd.2.2.2.2.2.2.2.2.2.2.1;have h11:=hd.2.2.2.2.2.2.2.2.2.2.2.1;have h12:=hd.2.2.2.2.2.2.2.2.2.2.2.2.1;simp only [CA] at HC;obtain ⟨X5,id5,hv7,hj5,H⟩:=HC;simp only [GF] at hd;simp only [PS,hd];clear hd;have e8:vals 8=.tuple #[.int .i64 id5,.nilIface]:=(by rw [← hv7];exact X8 (show [vals 7]=[vals 8] from h8));have e11:vals 11=.int .i64 id5:=by
   obtain ⟨q,q1,q2⟩:=(h9:∃ id:Nat,[vals 8]=[.tuple #[.int .i64 id,.nilIface]]∧vals 9=.int .i64 id)
   replace q1:[vals 8]=[Value.tuple #[.int .i64 q,.nilIface]]:=q1;rw [e8] at q1;simp only [List.cons.injEq,and_true,Value.tuple.injEq,Array.mk.injEq,Value.int.injEq,true_and] at q1;rw [X8 (show [vals 9]=[vals 11] from h11),q2,q1]
  have e12:vals 12=.nilIface:=by
   obtain ⟨q,q1,q2⟩:=(h10:∃ id:Nat,[vals 8]=[.tuple #[.int .i64 id,.nilIface]]∧vals 10=.nilIface)
   rw [X8 (show [vals 10]=[vals 12] from h12),q2]
  simp only [hv7,e8,e11,e12];have HY:=zh hj5;clear hv7 e8 e11 e12 h7 h8 h9 h10 h11 h12 hj5;go_wp2_with (first|refine sL ?_|(refine sS ?_;clear H;intros;rename_i H)|(go_at_call 103;with_reducible refine zm (HR.out id5 _ (St.ho (H.pick2 (A:=blk bm (.cells #[.pointer (some ⟨X.p,0,none⟩),.map (some mp)] 138)) (B:=mapA Tryz.prog 26 mp (K.map encK)) pk pk).join _ List.mem_cons_self)) ?_;rintro e9 wc ⟨rfl,hb⟩;replace H:=zn ((H.pick2 (A:=blk bm (.cells #[.pointer (some ⟨X.p,0,none⟩),.map (some mp)] 138)) (B:=mapA Tryz.prog 26 mp (K.map encK)) pk pk).join.call hb);clear hb));go_ret2;exact ⟨X5,K++[(x,id5)],0,rfl,.inl ⟨rfl,id5,rfl,HY.out.2.2.1⟩,HY.out.1,HY.out.2.1,HY.out.2.2.2,H.picks (.cons pk (.cons pk (.cons pk .nil)))⟩
 ·have hrb:rg<=1152921504606846976:=(by omega);have HRG:=zh (za hr1 hr2);rcases kn_dec rg K with ⟨y2,hy2⟩|hno
  case inr =>
   have HL2:Hid (∀ w,(mapA Tryz.prog 26 mp (K.map encK)).ho w->(Instr.lookup 136 (.map (some mp)) (.int .i64 (rg:Nat)) true).run Tryz.prog w=.ok (.tuple #[.int .i64 0,.bool false]) w):=zh fun w h=>kn_out hrb hno true w h
   have HRF:Hid (RefOf X.S x rg∧∀ q∈K,q.1≠rg):=zh ⟨⟨hr1,en,hx1,by rw [her];exact .inr rfl⟩,hno⟩;clear hX h1 h2 hK hn ht hroom hmost h hd hj hen hlw hx1 hxb HRUL her hlf hno hlb hlow hid1 hy1 htr hr1 hr2 hrb;go_enter Tryz.func71,Tryz.ntmps71;go_wp2_with (first|refine sL ?_|(refine sS ?_;clear H;intros;rename_i H)|(go_at_call 53;with_reducible refine same (HS.out _ (H.get pk)) ?_)|(go_at_call 40;with_reducible refine zm (hW.out _ (H.get (A:=pA X) pk)) ?_;rintro e9 wc ⟨rfl,hb⟩;replace H:=H.grew hb.below;clear hb)|(go_at_call 68;with_reducible refine zm (HRU.out _ (H.get pk)) ?_;rintro e9 wc ⟨rfl,hb⟩;replace H:=H.grew hb.below;clear hb));rename_i br _ _ _ _;replace H:St w N [pA X,blk bm (.cells #[.pointer (some ⟨X.p,0,none⟩),.map (some mp)] 138),mapA Tryz.prog 26 mp (K.map encK),blk br (.cells #[.int .i64 2,.int .u8 lt,.int .i64 lf,.int .i64 rg,.int .i64 tm] 131)] _:=H.picks (.cons (A:=pA X) pk (.cons (A:=blk bm (.cells #[.pointer (some ⟨X.p,0,none⟩),.map (some mp)] 138)) pk (.cons (A:=mapA Tryz.prog 26 mp (K.map encK)) pk (.cons (A:=blk br (.cells #[.int .i64 2,.int .u8 lt,.int .i64 lf,.int .i64 rg,.int .i64 tm] 131)) pk .nil))));refine wp_region_sgx 12 [⟨[],fun v _=>v=.pointer (some ⟨bm,0,none⟩)⟩,⟨[0],fun v _=>v=.pointer (some ⟨bm,0,none⟩)⟩,⟨[1],fun v _=>v=.pointer (some ⟨bm,1,none⟩)⟩,⟨[2],fun v _=>v=.map (some mp)⟩,⟨[],fun v _=>v=.pointer (some ⟨br,2,none⟩)⟩,⟨[4],fun v _=>v=.int .i64 lf⟩,⟨[3,5],fun v _=>v=.tuple #[.int .i64 (y1:Nat),.bool true]⟩,⟨[6],fun v _=>v=.tuple #[.int .i64 (y1:Nat),.bool true]⟩,⟨[7],fun v _=>v=.int .i64 (y1:Nat)⟩,⟨[7],fun v _=>v=.bool true⟩,⟨[8],fun v _=>v=.int .i64 (y1:Nat)⟩,⟨[9],fun v _=>v=.bool true⟩] [] [[0],[0],[0],[0],[0],[0],[0],[0],[0],[0],[0],[0]] [fun _ wx=>St w N [pA X,blk bm (.cells #[.pointer (some ⟨X.p,0,none⟩),.map (some mp)] 138),mapA Tryz.prog 26 mp (K.map encK),blk br (.cells #[.int .i64 2,.int .u8 lt,.int .i64 lf,.int .i64 rg,.int .i64 tm] 131)] wx]
    [[],[(0,71)],[(1,72)],[(2,73)],[],[(4,75)],[(3,74),(5,76)],[(6,77)],[(7,70)],[(7,70)],[(8,78)],[(9,79)]] [(0,71),(1,72),(2,73),(3,74),(4,75),(5,76),(6,77),(7,70),(8,78),(9,79),(10,13),(11,14)] (by kernel_rfl) (by kernel_rfl) H.drew ⟨⟨qo,trivial⟩,⟨qo,trivial⟩,⟨qo,trivial⟩,⟨?_,trivial⟩,⟨qo,trivial⟩,⟨?_,trivial⟩,⟨?_,trivial⟩,⟨qo,trivial⟩,⟨qo,trivial⟩,⟨qo,trivial⟩,⟨qo,trivial⟩,⟨qo,trivial⟩,trivial⟩ ?_
   ·intro vals wx hd HC;simp only [GF] at hd;have H:=HC;simp only [CA] at H;simp only [PS,hd];refine StStep.celC rfl rfl rfl rfl (arr_cell (H.get (A:=blk bm (.cells #[.pointer (some ⟨X.p,0,none⟩),.map (some mp)] 138)) pk) rfl) ⟨rfl,HC⟩
   ·intro vals wx hd HC;simp only [GF] at hd;have H:=HC;simp only [CA] at H;simp only [PS,hd];refine StStep.celC rfl rfl rfl rfl (arr_cell (H.get (A:=blk br (.cells #[.int .i64 2,.int .u8 lt,.int .i64 lf,.int .i64 rg,.int .i64 tm] 131)) pk) rfl) ⟨rfl,HC⟩
   ·intro vals wx hd HC;simp only [GF] at hd;have H:=HC;simp only [CA] at H;simp only [PS,hd];refine StStep.lookC rfl rfl rfl rfl (HL1.out _ (H.get pk)) ⟨rfl,HC⟩
   intro vals wx hd HC;simp only [CA] at HC;have H:=HC;clear HC;simp only [GF] at hd;simp only [PS,hd];clear hd;go_wp2_with (first|refine sL ?_|(refine sS ?_;clear H;intros;rename_i H));replace H:St w N [pA X,blk bm (.cells #[.pointer (some ⟨X.p,0,none⟩),.map (some mp)] 138),mapA Tryz.prog 26 mp (K.map encK),blk br (.cells #[.int .i64 2,.int .u8 lt,.int .i64 lf,.int .i64 rg,.int .i64 tm] 131)] _:=H.picks (.cons (A:=pA X) pk (.cons (A:=blk bm (.cells #[.pointer (some ⟨X.p,0,none⟩),.map (some mp)] 138)) pk (.cons (A:=mapA Tryz.prog 26 mp (K.map encK)) pk (.cons (A:=blk br (.cells #[.int .i64 2,.int .u8 lt,.int .i64 lf,.int .i64 rg,.int .i64 tm] 131)) pk .nil))));refine wp_region_sgx 12 [⟨[],fun v _=>v=.pointer (some ⟨bm,0,none⟩)⟩,⟨[0],fun v _=>v=.pointer (some ⟨bm,0,none⟩)⟩,⟨[1],fun v _=>v=.pointer (some ⟨bm,1,none⟩)⟩,⟨[2],fun v _=>v=.map (some mp)⟩,⟨[],fun v _=>v=.pointer (some ⟨br,3,none⟩)⟩,⟨[4],fun v _=>v=.int .i64 rg⟩,⟨[3,5],fun v _=>v=.tuple #[.int .i64 0,.bool false]⟩,⟨[6],fun v _=>v=.tuple #[.int .i64 0,.bool false]⟩,⟨[7],fun v _=>v=.int .i64 0⟩,⟨[7],fun v _=>v=.bool false⟩,⟨[8],fun v _=>v=.int .i64 0⟩,⟨[9],fun v _=>v=.bool false⟩] [] [[0],[0],[0],[0],[0],[0],[0],[0],[0],[0],[0],[0]] [fun _ wx=>St w N [pA X,blk bm (.cells #[.pointer (some ⟨X.p,0,none⟩),.map (some mp)] 138),mapA Tryz.prog 26 mp (K.map encK),blk br (.cells #[.int .i64 2,.int .u8 lt,.int .i64 lf,.int .i64 rg,.int .i64 tm] 131)] wx]
    [[],[(0,104)],[(1,105)],[(2,106)],[],[(4,108)],[(3,107),(5,109)],[(6,110)],[(7,103)],[(7,103)],[(8,111)],[(9,112)]] [(0,104),(1,105),(2,106),(3,107),(4,108),(5,109),(6,110),(7,103),(8,111),(9,112),(10,17),(11,14)] (by kernel_rfl) (by kernel_rfl) H.drew ⟨⟨qo,trivial⟩,⟨qo,trivial⟩,⟨qo,trivial⟩,⟨?_,trivial⟩,⟨qo,trivial⟩,⟨?_,trivial⟩,⟨?_,trivial⟩,⟨qo,trivial⟩,⟨qo,trivial⟩,⟨qo,trivial⟩,⟨qo,trivial⟩,⟨qo,trivial⟩,trivial⟩ ?_
   ·intro vals wx hd HC;simp only [GF] at hd;have H:=HC;simp only [CA] at H;simp only [PS,hd];refine StStep.celC rfl rfl rfl rfl (arr_cell (H.get (A:=blk bm (.cells #[.pointer (some ⟨X.p,0,none⟩),.map (some mp)] 138)) pk) rfl) ⟨rfl,HC⟩
   ·intro vals wx hd HC;simp only [GF] at hd;have H:=HC;simp only [CA] at H;simp only [PS,hd];refine StStep.celC rfl rfl rfl rfl (arr_cell (H.get (A:=blk br (.cells #[.int .i64 2,.int .u8 lt,.int .i64 lf,.int .i64 rg,.int .i64 tm] 131)) pk) rfl) ⟨rfl,HC⟩
   ·intro vals wx hd HC;simp only [GF] at hd;have H:=HC;simp only [CA] at H;simp only [PS,hd];refine StStep.lookC rfl rfl rfl rfl (HL2.out _ (H.get pk)) ⟨rfl,HC⟩
   intro vals wx hd HC;simp only [CA] at HC;have H:=HC;clear HC;simp only [GF] at hd;simp only [PS,hd];clear hd;go_wp2_with (first|refine sL ?_|(refine sS ?_;clear H;intros;rename_i H));go_ret2;exact ⟨X,K,rg,rfl,.inr ⟨rfl,rfl,HRF.out.1,HLOW.out,HRF.out.2⟩,.refl _,HXX.out,Nat.le_add_right _ _,H.picks (.cons pk (.cons pk (.cons pk .nil)))⟩
  have HL2:Hid (∀ w,(mapA Tryz.prog 26 mp (K.map encK)).ho w->(Instr.lookup 136 (.map (some mp)) (.int .i64 (rg:Nat)) true).run Tryz.prog w=.ok (.tuple #[.int .i64 (y2:Nat),.bool true]) w):=zh fun w h=>kn_in hX.ok hrb hK hy2 true w h
  have hid2:=(hK _ hy2).2.2;simp only at hid2;have hHN:=HTN.out;have hsl:((X.S.tr lf).txt.map Tr.leaf).length=(X.S.tr lf).len:=(by rw [List.length_map,Tr.txt_len]);have hsr:((X.S.tr rg).txt.map Tr.leaf).length=(X.S.tr rg).len:=(by rw [List.length_map,Tr.txt_len]);have hlen:(X.S.tr lf).len+(X.S.tr rg).len=n:=(by rw [← hHN.2,htr];rfl);have htx:(X.S.tr x).txt.map Tr.leaf=(X.S.tr lf).txt.map Tr.leaf++(X.S.tr rg).txt.map Tr.leaf:=(by rw [htr];simp [Tr.txt]);have hown:ownT (X.S.tr x)=n:=by
   unfold ownT;rw [if_neg hlow,htr];simp only;rw [← htr,hHN.2]
  have HJN:Hid (∀ w,((pA X).sep deA).ho w->Calls Tryz.prog 105 #[.pointer (some ⟨X.p,0,none⟩),.int .i64 (y1:Nat),.int .i64 (y2:Nat)] w (IdPost X ((X.S.tr x).txt.map Tr.leaf) (ownT (X.S.tr x)) (pA X).fp w)):=zh fun w h=>by
   have:=joinE_c (a:=y1) (b:=y2) hX hid1 hid2 (by rw [hsl,hsr];omega) (by rw [hsl,hsr];omega) w h;rw [hsl,hsr,hlen,← htx] at this;rw [hown];exact this
  clear hX h1 h2 hK hn ht hroom hmost h hd hj hen hlw hx1 hxb HRUL her hlf hlb hlow hid1 hid2 hy1 hy2 htr hlen hHN hsl hsr htx hown hr1 hr2 hrb;go_enter Tryz.func71,Tryz.ntmps71;go_wp2_with (first|refine sL ?_|(refine sS ?_;clear H;intros;rename_i H)|(go_at_call 53;with_reducible refine same (HS.out _ (H.get pk)) ?_)|(go_at_call 40;with_reducible refine zm (hW.out _ (H.get (A:=pA X) pk)) ?_;rintro e9 wc ⟨rfl,hb⟩;replace H:=H.grew hb.below;clear hb)|(go_at_call 68;with_reducible refine zm (HRU.out _ (H.get pk)) ?_;rintro e9 wc ⟨rfl,hb⟩;replace H:=H.grew hb.below;clear hb));rename_i br _ _ _ _;replace H:St w N [pA X,blk bm (.cells #[.pointer (some ⟨X.p,0,none⟩),.map (some mp)] 138),mapA Tryz.prog 26 mp (K.map encK),blk br (.cells #[.int .i64 2,.int .u8 lt,.int .i64 lf,.int .i64 rg,.int .i64 tm] 131)] _:=H.picks (.cons (A:=pA X) pk (.cons (A:=blk bm (.cells #[.pointer (some ⟨X.p,0,none⟩),.map (some mp)] 138)) pk (.cons (A:=mapA Tryz.prog 26 mp (K.map encK)) pk (.cons (A:=blk br (.cells #[.int .i64 2,.int .u8 lt,.int .i64 lf,.int .i64 rg,.int .i64 tm] 131)) pk .nil))));refine wp_region_sgx 12 [⟨[],fun v _=>v=.pointer (some ⟨bm,0,none⟩)⟩,⟨[0],fun v _=>v=.pointer (some ⟨bm,0,none⟩)⟩,⟨[1],fun v _=>v=.pointer (some ⟨bm,1,none⟩)⟩,⟨[2],fun v _=>v=.map (some mp)⟩,⟨[],fun v _=>v=.pointer (some ⟨br,2,none⟩)⟩,⟨[4],fun v _=>v=.int .i64 lf⟩,⟨[3,5],fun v _=>v=.tuple #[.int .i64 (y1:Nat),.bool true]⟩,⟨[6],fun v _=>v=.tuple #[.int .i64 (y1:Nat),.bool true]⟩,⟨[7],fun v _=>v=.int .i64 (y1:Nat)⟩,⟨[7],fun v _=>v=.bool true⟩,⟨[8],fun v _=>v=.int .i64 (y1:Nat)⟩,⟨[9],fun v _=>v=.bool true⟩] [] [[0],[0],[0],[0],[0],[0],[0],[0],[0],[0],[0],[0]] [fun _ wx=>St w N [pA X,blk bm (.cells #[.pointer (some ⟨X.p,0,none⟩),.map (some mp)] 138),mapA Tryz.prog 26 mp (K.map encK),blk br (.cells #[.int .i64 2,.int .u8 lt,.int .i64 lf,.int .i64 rg,.int .i64 tm] 131)] wx]
   [[],[(0,71)],[(1,72)],[(2,73)],[],[(4,75)],[(3,74),(5,76)],[(6,77)],[(7,70)],[(7,70)],[(8,78)],[(9,79)]] [(0,71),(1,72),(2,73),(3,74),(4,75),(5,76),(6,77),(7,70),(8,78),(9,79),(10,13),(11,14)] (by kernel_rfl) (by kernel_rfl) H.drew ⟨⟨qo,trivial⟩,⟨qo,trivial⟩,⟨qo,trivial⟩,⟨?_,trivial⟩,⟨qo,trivial⟩,⟨?_,trivial⟩,⟨?_,trivial⟩,⟨qo,trivial⟩,⟨qo,trivial⟩,⟨qo,trivial⟩,⟨qo,trivial⟩,⟨qo,trivial⟩,trivial⟩ ?_
  ·intro vals wx hd HC;simp only [GF] at hd;have H:=HC;simp only [CA] at H;simp only [PS,hd];refine StStep.celC rfl rfl rfl rfl (arr_cell (H.get (A:=blk bm (.cells #[.pointer (some ⟨X.p,0,none⟩),.map (some mp)] 138)) pk) rfl) ⟨rfl,HC⟩
  ·intro vals wx hd HC;simp only [GF] at hd;have H:=HC;simp only [CA] at H;simp only [PS,hd];refine StStep.celC rfl rfl rfl rfl (arr_cell (H.get (A:=blk br (.cells #[.int .i64 2,.int .u8 lt,.int .i64 lf,.int .i64 rg,.int .i64 tm] 131)) pk) rfl) ⟨rfl,HC⟩
  ·intro vals wx hd HC;simp only [GF] at hd;have H:=HC;simp only [CA] at H;simp only [PS,hd];refine StStep.lookC rfl rfl rfl rfl (HL1.out _ (H.get pk)) ⟨rfl,HC⟩
  intro vals wx hd HC;simp only [CA] at HC;have H:=HC;clear HC;simp only [GF] at hd;simp only [PS,hd];clear hd;go_wp2_with (first|refine sL ?_|(refine sS ?_;clear H;intros;rename_i H));replace H:St w N [pA X,blk bm (.cells #[.pointer (some ⟨X.p,0,none⟩),.map (some mp)] 138),mapA Tryz.prog 26 mp (K.map encK),blk br (.cells #[.int .i64 2,.int .u8 lt,.int .i64 lf,.int .i64 rg,.int .i64 tm] 131)] _:=H.picks (.cons (A:=pA X) pk (.cons (A:=blk bm (.cells #[.pointer (some ⟨X.p,0,none⟩),.map (some mp)] 138)) pk (.cons (A:=mapA Tryz.prog 26 mp (K.map encK)) pk (.cons (A:=blk br (.cells #[.int .i64 2,.int .u8 lt,.int .i64 lf,.int .i64 rg,.int .i64 tm] 131)) pk .nil))));refine wp_region_sgx 12 [⟨[],fun v _=>v=.pointer (some ⟨bm,0,none⟩)⟩,⟨[0],fun v _=>v=.pointer (some ⟨bm,0,none⟩)⟩,⟨[1],fun v _=>v=.pointer (some ⟨bm,1,none⟩)⟩,⟨[2],fun v _=>v=.map (some mp)⟩,⟨[],fun v _=>v=.pointer (some ⟨br,3,none⟩)⟩,⟨[4],fun v _=>v=.int .i64 rg⟩,⟨[3,5],fun v _=>v=.tuple #[.int .i64 (y2:Nat),.bool true]⟩,⟨[6],fun v _=>v=.tuple #[.int .i64 (y2:Nat),.bool true]⟩,⟨[7],fun v _=>v=.int .i64 (y2:Nat)⟩,⟨[7],fun v _=>v=.bool true⟩,⟨[8],fun v _=>v=.int .i64 (y2:Nat)⟩,⟨[9],fun v _=>v=.bool true⟩] [] [[0],[0],[0],[0],[0],[0],[0],[0],[0],[0],[0],[0]] [fun _ wx=>St w N [pA X,blk bm (.cells #[.pointer (some ⟨X.p,0,none⟩),.map (some mp)] 138),mapA Tryz.prog 26 mp (K.map encK),blk br (.cells #[.int .i64 2,.int .u8 lt,.int .i64 lf,.int .i64 rg,.int .i64 tm] 131)] wx]
   [[],[(0,104)],[(1,105)],[(2,106)],[],[(4,108)],[(3,107),(5,109)],[(6,110)],[(7,103)],[(7,103)],[(8,111)],[(9,112)]] [(0,104),(1,105),(2,106),(3,107),(4,108),(5,109),(6,110),(7,103),(8,111),(9,112),(10,17),(11,14)] (by kernel_rfl) (by kernel_rfl) H.drew ⟨⟨qo,trivial⟩,⟨qo,trivial⟩,⟨qo,trivial⟩,⟨?_,trivial⟩,⟨qo,trivial⟩,⟨?_,trivial⟩,⟨?_,trivial⟩,⟨qo,trivial⟩,⟨qo,trivial⟩,⟨qo,trivial⟩,⟨qo,trivial⟩,⟨qo,trivial⟩,trivial⟩ ?_
  ·intro vals wx hd HC;simp only [GF] at hd;have H:=HC;simp only [CA] at H;simp only [PS,hd];refine StStep.celC rfl rfl rfl rfl (arr_cell (H.get (A:=blk bm (.cells #[.pointer (some ⟨X.p,0,none⟩),.map (some mp)] 138)) pk) rfl) ⟨rfl,HC⟩
  ·intro vals wx hd HC;simp only [GF] at hd;have H:=HC;simp only [CA] at H;simp only [PS,hd];refine StStep.celC rfl rfl rfl rfl (arr_cell (H.get (A:=blk br (.cells #[.int .i64 2,.int .u8 lt,.int .i64 lf,.int .i64 rg,.int .i64 tm] 131)) pk) rfl) ⟨rfl,HC⟩
  ·intro vals wx hd HC;simp only [GF] at hd;have H:=HC;simp only [CA] at H;simp only [PS,hd];refine StStep.lookC rfl rfl rfl rfl (HL2.out _ (H.get pk)) ⟨rfl,HC⟩
  intro vals wx hd HC;simp only [CA] at HC;have H:=HC;clear HC;simp only [GF] at hd;simp only [PS,hd];clear hd;go_wp2_with (first|refine sL ?_|(refine sS ?_;clear H;intros;rename_i H)|(go_at_call 105;with_reducible refine zm (HJN.out _ (H.sepK HK pk pk)) ?_;rintro e9 wc ⟨X5,id5,rfl,y1,y2,y3,y4,hb⟩;have HY:=zh (za y1 (za y2 (za y3 y4)));clear y1 y2 y3 y4;replace H:=zn ((H.pick pk).call hb);clear hb)|(go_at_call 103;with_reducible refine zm (HR.out id5 _ (St.ho (H.pick2 (A:=blk bm (.cells #[.pointer (some ⟨X.p,0,none⟩),.map (some mp)] 138)) (B:=mapA Tryz.prog 26 mp (K.map encK)) pk pk).join _ List.mem_cons_self)) ?_;rintro e9 wc ⟨rfl,hb⟩;replace H:=zn ((H.pick2 (A:=blk bm (.cells #[.pointer (some ⟨X.p,0,none⟩),.map (some mp)] 138)) (B:=mapA Tryz.prog 26 mp (K.map encK)) pk pk).join.call hb);clear hb));go_ret2;exact ⟨X5,K++[(x,id5)],0,rfl,.inl ⟨rfl,id5,rfl,HY.out.2.2.1⟩,HY.out.1,HY.out.2.1,HY.out.2.2.2,H.picks (.cons pk (.cons pk (.cons pk .nil)))⟩
end
end Go.Proofs.YtgnppnokkdghcaaGreatDoor
