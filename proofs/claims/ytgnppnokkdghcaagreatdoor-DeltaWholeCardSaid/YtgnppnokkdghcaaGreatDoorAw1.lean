/-
  Part 1 of the texts behind the statements of this seat: walks and laws Wl, Bv, Gk, Gl, Fa, Da, Db, Dc, Dd. Conditions: as each states.
-/
import Derived.Test.YtgnppnokkdghcaaGreatDoorBc7
set_option linter.unusedSimpArgs false
set_option linter.unusedVariables false
set_option maxRecDepth 100000
set_option maxHeartbeats 80000000
namespace Go.Proofs.YtgnppnokkdghcaaGreatDoor
section
open Go.RowKit
theorem range_c (f n:Int) (l:Nat) (w:World) (hl:l<=1152921504606846976) (ok:Bool) (hok:ok=decide (0<=f∧0<=n∧f<=l∧n<=l-f)) :
  Calls Tryz.prog 89 #[.int .i64 f,.int .i64 n,.int .i64 l] w fun e w'=>e=.returned (if ok then .nilIface else EV 1)∧w'=w:=by
 have HOK:=zh hok;clear hok;go_enter Tryz.func89,Tryz.ntmps89;by_cases h1:0<=f
 ·by_cases h2:0<=n
  ·by_cases h3:f<=l
   ·by_cases h4:n<=l-f
    ·obtain rfl:ok=true:=by rw [HOK.out];simp [h1,h2,h3,h4]
     go_wp2_with fail;refine same (valid_c l true (by symm;rw [decide_eq_true_eq];omega) _) ?_;go_wp2_with fail;go_ret;exact ⟨rfl,rfl⟩
    ·obtain rfl:ok=false:=by rw [HOK.out];simp [h1,h2,h3,h4]
     go_wp2_with fail;refine same (valid_c l true (by symm;rw [decide_eq_true_eq];omega) _) ?_;go_wp2_with fail;go_ret;exact ⟨rfl,rfl⟩
   ·obtain rfl:ok=false:=by rw [HOK.out];simp [h1,h2,h3]
    go_wp2_with fail;refine same (valid_c l true (by symm;rw [decide_eq_true_eq];omega) _) ?_;go_wp2_with fail;go_ret;exact ⟨rfl,rfl⟩
  ·obtain rfl:ok=false:=by rw [HOK.out];simp [h1,h2]
   go_wp2_with fail;refine same (valid_c l true (by symm;rw [decide_eq_true_eq];omega) _) ?_;go_wp2_with fail;go_ret;exact ⟨rfl,rfl⟩
 ·obtain rfl:ok=false:=by rw [HOK.out];simp [h1]
  go_wp2_with fail;refine same (valid_c l true (by symm;rw [decide_eq_true_eq];omega) _) ?_;go_wp2_with fail;go_ret;exact ⟨rfl,rfl⟩
end
section
open Go.RowKit Go.Maps
attribute [local go_sem] InGr
theorem leaves_map (l:List Nat):Leaves (l.map Tr.leaf):=fun t ht=>by
 obtain ⟨b,_,rfl⟩:=List.mem_map.1 ht;exact ⟨b,rfl⟩
end
section
open Go.RowKit Go.Maps
attribute [local go_sem] InGr
def Tr.txt:Tr->List Nat
 |.leaf b=>[b]
 |.pair l r=>l.txt++r.txt
 |.pow s k=>(List.replicate k s.txt).flatten
def Tr.cst:Tr->Nat
 |.leaf _=>1
 |.pair l r=>1+l.cst+r.cst
 |.pow s k=>1+k*s.cst
theorem Tr.txt_len:∀ t:Tr,t.txt.length=t.len
 |.leaf _=>rfl
 |.pair l r=>by simp [Tr.txt,Tr.len,Tr.txt_len l,Tr.txt_len r]
 |.pow s k=>by simp [Tr.txt,Tr.len,Tr.txt_len s,Nat.mul_comm]
def encCp (x:Nat×Nat):List Value:=[.int .i64 x.1,.int .i64 x.2]
theorem encCp_len (x:Nat×Nat):(encCp x).length=2:=rfl
theorem encCp_one (x:Nat×Nat):∀ u∈encCp x,u.oneCell'=true:=by
 intro u hu;simp [encCp] at hu;rcases hu with rfl|rfl <;> rfl
theorem encT_one (x:Nat):∀ u∈encT x,u.oneCell'=true:=by
 intro u hu;simp [encT] at hu;subst hu;rfl
def stkT (S:Sto):List (Nat×Nat)->List Nat
 |[]=>[]
 |q::r=>stkT S r++(List.replicate q.2 (S.tr q.1).txt).flatten
def stkC (S:Sto):List (Nat×Nat)->Nat
 |[]=>0
 |q::r=>stkC S r+q.2*(S.tr q.1).cst
theorem stkT_snoc (S:Sto):∀ (l:List (Nat×Nat)) (q:Nat×Nat),stkT S (l++[q])=(List.replicate q.2 (S.tr q.1).txt).flatten++stkT S l
 |[],q=>by simp [stkT]
 |a::l,q=>by simp [stkT,stkT_snoc S l q]
theorem stkC_snoc (S:Sto):∀ (l:List (Nat×Nat)) (q:Nat×Nat),stkC S (l++[q])=q.2*(S.tr q.1).cst+stkC S l
 |[],q=>by simp [stkC]
 |a::l,q=>by simp [stkC,stkC_snoc S l q];omega
def StkOk (S:Sto) (l:List (Nat×Nat)):Prop:=∀ q∈l,1<=q.1∧q.1<=S.list.length∧1<=q.2∧q.2<=maxT
theorem tr_pos {S:Sto} (hS:S.Ok) {i:Nat} (h1:1<=i) (h2:i<=S.list.length):1<=(S.tr i).len:=by
 obtain ⟨j,rfl⟩:∃ j,i=j+1:=⟨i-1,by omega⟩
 exact pow2_len (tr_len hS j _ (zg (by omega))).2
theorem stk_len {S:Sto} (hS:S.Ok):∀ {l:List (Nat×Nat)},StkOk S l->l.length<=(stkT S l).length
 |[],_=>Nat.zero_le _
 |q::r,h=>by
  have h1:=stk_len hS (l:=r) fun x hx=>h x (by simp [hx])
  have h2:=h q (by simp);have h3:=tr_pos hS h2.1 h2.2.1;have h4:((List.replicate q.2 (S.tr q.1).txt).flatten).length=q.2*(S.tr q.1).len:=(by simp [Tr.txt_len]);have h5:1*1<=q.2*(S.tr q.1).len:=Nat.mul_le_mul h2.2.2.1 h3;simp only [stkT,List.length_append,List.length_cons];omega
theorem snoc_cp (l:List (Nat×Nat)):l=[]∨∃ L k,l=L++[k]:=by
 rcases List.eq_nil_or_concat l with h|⟨L,k,h⟩
 ·exact .inl h
 ·exact .inr ⟨L,k,by simpa using h⟩
def popC (l:List (Nat×Nat)) (x k:Nat):List (Nat×Nat):=if k=0 then l else l++[(x,k)]
theorem popC_txt (S:Sto) (l:List (Nat×Nat)) (x k:Nat):stkT S (l++[(x,k+1)])=(S.tr x).txt++stkT S (popC l x k):=by
 unfold popC;rw [stkT_snoc];split
 ·rename_i h;subst h;simp
 ·rw [stkT_snoc,List.replicate_succ];simp
theorem popC_cst (S:Sto) (l:List (Nat×Nat)) (x k:Nat):stkC S (l++[(x,k+1)])=(S.tr x).cst+stkC S (popC l x k):=by
 unfold popC;rw [stkC_snoc];split
 ·rename_i h;subst h;simp
 ·rw [stkC_snoc];simp only [Nat.add_mul,Nat.one_mul];omega
theorem popC_ok {S:Sto} {l:List (Nat×Nat)} {x k:Nat} (h:StkOk S (l++[(x,k+1)])):StkOk S (popC l x k):=by
 unfold popC;split
 ·exact fun q hq=>h q (by simp [hq])
 ·rename_i hk;intro q hq;rcases List.mem_append.1 hq with hq|hq
  ·exact h q (by simp [hq])
  ·have:=h (x,k+1) (by simp);simp at hq;subst hq;simp only at this ⊢;omega
theorem AtSlice.litJ {t e:TypeId} {n:Nat} {ps:Array (Nat×Operand)} {ops:Array Oper} {Q:Exit->Act->World->Prop} {rest:List Oper} {a:Act} {w w0:World} {M:List Nat} {L:List As} {o1:Oper} (H:St w0 M L w) (hw:Region.wanted o1 (yielded ops a.tmps)=true) (ho:o1.op=.buildSlice t n ps) (hte:sliceO t=some e) {z:Value} {k bytes:Nat} {cs:Array Value} (hi:infoO e=some (z,k,bytes)) (hn:¬ n*k > 2 ^ 24) (hn0:¬ n*k=0)
  (hf:Instr.fill (fun i=>some (i*k,k)) ((Array.range (n*k)).map (z.cells[·%z.cells.size]!)) (ps.map fun (i,x)=>(i,a.eval x)).toList=some cs)
  (h:∀ b w',St w0 M (blk b (.cells cs e)::L) w'->wpList Tryz.prog ops Q rest (a.put o1.dst (.slice (some ⟨b,0,none⟩) n n)) w'):AtSlice Tryz.prog ops Q o1 t n ps rest a w :=
 wpList_step fun _ hK=>by
  rw [if_pos hw];obtain ⟨i,h2,h3,h4,h5⟩:=infoO_ok hi;have hr:=run_buildSlice (P:=Tryz.prog) w t e n (ps.map fun (i,x)=>(i,a.eval x)) cs i z (sliceO_ok hte) h2 h3 (by rw [h4];exact hn) (by rw [h4];exact hn0) (by rw [h4];exact hf);unfold Oper.wp execOp;simp only [ho,Sem.run_bind,hr,Result.andThen_ok,Sem.run_pure];exact hK _ _ (h _ _ (H.alloc _))
def SpelRel (S:Sto) (N:List Nat) (w:World) (bt:Nat) (full:List Nat) (n:Nat) (v:Value) (wr:World):Prop :=
 ∃ (st:List (Nat×Nat)) (txt:List Nat) (v1:Value),n=stkC S st∧(StkOk S st∧txt++stkT S st=full)∧St w N [rowsA encCp 234 2 v st,blk bt (.cells #[v1] 42),rowsA encT 5 1 v1 txt] wr
attribute [local go_sem] StStep stAt stUpon in
theorem spell_c {p m bt id:Nat} {lv v:Value} {S:Sto} {txt:List Nat} (hS:S.Ok) (h1:1<=id) (h2:id<=S.list.length) (hl:txt.length+(S.tr id).txt.length<=1048576) (w:World) (h:((blk bt (.cells #[v] 42)).sep (rowsA encT 5 1 v txt)).ho w) (hs:((((blk bt (.cells #[v] 42)).sep (rowsA encT 5 1 v txt))).sep (stoA p lv m S)).ho w) :
  Calls Tryz.prog 112 #[.pointer (some ⟨p,0,none⟩),.int .i64 (id:Nat),.pointer (some ⟨bt,0,none⟩)] w fun e w'=>∃ v':Value,e=.returned .nilIface∧St w ((blk bt (.cells #[v] 42)).sep (rowsA encT 5 1 v txt)).fp [blk bt (.cells #[v'] 42),rowsA encT 5 1 v' (txt++(S.tr id).txt)] w':=by
 have H:=(St.one h).sep;rw [sep_ho] at hs;have HK:Ks w ((blk bt (.cells #[v] 42)).sep (rowsA encT 5 1 v txt)).fp [stoA p lv m S]:=⟨by simpa using hs.2.1,by simpa using fun b hb hm=>hs.2.2 b hm hb⟩
 generalize ((blk bt (.cells #[v] 42)).sep (rowsA encT 5 1 v txt)).fp=N at H HK ⊢;obtain ⟨full,hfull⟩:∃ l,txt++(S.tr id).txt=l:=⟨_,rfl⟩
 have hfl:full.length<=1048576:=(by rw [← hfull,List.length_append];exact hl);rw [hfull];have HIN:Hid (S.Ok∧1<=id∧id<=S.list.length∧txt++(S.tr id).txt=full):=zh ⟨hS,h1,h2,hfull⟩;clear hS h1 h2 hl h hs hfull;go_enter Tryz.func112,Tryz.ntmps112;go_wp2_with (first|refine sL ?_|(refine sS ?_;clear H;intros;rename_i H)|((with_reducible refine isSlice ?_);refine AtSlice.one H rfl rfl rfl rfl rfl rfl rfl rfl rfl ?_;clear H;intro b9 _ H;simp only [Act.put,puA,puB,puC]));replace H:=H.conv (A':=rowsA encCp 234 2 (.slice (some ⟨b9,0,none⟩) 1 1) [(id,1)]) (by rw [rowsA_fp',blk_fp];rfl) fun hb=>rowsA_of_blk (xs:=[(id,1)]) (by rw [blk_ho] at hb;exact hb) (by simp [maxLen]) (by simp [flatG,encCp]) encCp_len
 go_loopg [7] (stkC S [(id,1)]) (fun n v7 wr=>SpelRel S N w bt full n v7 wr);case atStart=>exact ⟨[(id,1)],txt,v,rfl,⟨by intro q hq;simp at hq;subst hq;have:=HIN.out;simp only;unfold maxT;omega,by rw [← HIN.out.2.2.2];simp [stkT]⟩,H⟩
 case round =>
  clear H;obtain ⟨st,txt1,v1,rfl,hrel,H⟩:=hrel;obtain ⟨ad2,c2,rfl,_⟩:=rowsA_shape (H.get (A:=rowsA encCp 234 2 _ st) pk);have hsb:st.length<=1048576:=by
   have e1:=stk_len HIN.out.1 hrel.1;have e2:=congrArg List.length hrel.2;rw [List.length_append] at e2;omega
  rcases snoc_cp st with h0|⟨st0,⟨x,kk⟩,h0⟩
  ·subst h0;have hfe:txt1=full:=(by simpa [stkT] using hrel.2);subst hfe;clear hrel;simp only [List.length_nil] at H ⊢;go_wp2_with (first|refine sL ?_|(refine sS ?_;clear H;intros;rename_i H));go_ret;exact ⟨v1,rfl,H.picks (.cons pk (.cons pk .nil))⟩
  ·subst h0;have hq:=hrel.1 (x,kk) (by simp);simp only at hq;obtain ⟨k,rfl⟩:∃ k,kk=k+1:=⟨kk-1,by omega⟩
   have HR:Hid (StkOk S (popC st0 x k)∧txt1++((S.tr x).txt++stkT S (popC st0 x k))=full∧stkC S (st0++[(x,k+1)])=(S.tr x).cst+stkC S (popC st0 x k)):=zh ⟨popC_ok hrel.1,by rw [← popC_txt];exact hrel.2,popC_cst S st0 x k⟩;obtain ⟨k1,hk1⟩:∃ n,st0.length=n:=⟨_,rfl⟩
   obtain ⟨n2,hn2⟩:∃ n,k1+1=n:=⟨_,rfl⟩
   have hl2:(st0++[(x,k+1)]).length=n2:=(by simp [hk1];omega);rw [hl2] at H hsb ⊢;obtain ⟨g,c9,e9,hc9,hm9⟩:=rowsA_cases (H.get (A:=rowsA encCp 234 2 (.slice ad2 n2 c2) (st0++[(x,k+1)])) pk) (by simp);injection e9 with e9 e10 e11
   subst e11;clear e10;subst e9;rw [hl2] at hc9;unfold maxLen at hm9;have d0:decide ((0:Int)<(n2:Int))=true:=(by simp;omega);have d0n:decide (0<n2)=true:=(by simp;omega);have i5:k1<=c2:=(by omega);have hki:(st0++[(x,k+1)])[k1]?=some (x,k+1):=(by rw [← hk1];simp);have HO0:Hid (∀ w,(rowsA encCp 234 2 (.slice (some ⟨g,0,none⟩) n2 c2) (st0++[(x,k+1)])).ho w->w.cell? ⟨g,k1*2,none⟩=some (.int .i64 (x:Nat))):=zh fun w h=>rowsA_cell h encCp_len hki (j:=0) rfl
   have HO1:Hid (∀ w,(rowsA encCp 234 2 (.slice (some ⟨g,0,none⟩) n2 c2) (st0++[(x,k+1)])).ho w->w.cell? ⟨g,k1*2+1,none⟩=some (.int .i64 ((k:Int)+1))):=zh fun w h=>rowsA_cell h encCp_len hki (j:=1) rfl
   have hset:(st0++[(x,k+1)]).set k1 (x,k)=st0++[(x,k)]:=(by rw [← hk1];simp);have hkj:(st0++[(x,k)])[k1]?=some (x,k):=(by rw [← hk1];simp);have HP2:Hid (Hid (∀ w,(rowsA encCp 234 2 (.slice (some ⟨g,0,none⟩) n2 c2) (st0++[(x,k)])).ho w->w.cell? ⟨g,k1*2+1,none⟩=some (.int .i64 (k:Nat)))):=zh (zh fun w h=>rowsA_cell h encCp_len hkj (j:=1) rfl);have HKI:=zh hki;have HSET:=zh hset;have HLN:=zh (za hk1 hn2);have i8:(n2:Int)-1=(k1:Int):=(by omega);have i7:k1<n2:=(by omega);have hkb:k<=1152921504606846976:=(by unfold maxT at hq;omega);have HX:=zh hq;obtain ⟨j,hxj⟩:∃ j,j+1=x:=⟨x-1,by omega⟩
   obtain ⟨en,hen⟩:∃ a,S.list[j]?=some a:=⟨_,zg (by omega)⟩
   have HEN:=zh (rule_of HIN.out.1 hen);have HRU:Hid (∀ w,(stoA p lv m S).ho w->Calls Tryz.prog 68 #[.pointer (some ⟨p,0,none⟩),.int .i64 (x:Nat)] w fun e w'=>e=.returned (.tuple #[.agg (ruleL en.r).toArray,.nilIface])∧St w [] [] w'):=zh fun w h=>rule_c hen (x:Int) (by omega) w h
   have HXJ:=zh hxj;clear hrel hki hset hkj hl2 hk1 hn2 hq hen hxj;go_wp2_with (first|refine sL ?_|(refine sS ?_;clear H;intros;rename_i H)|((with_reducible refine isStore ?_);refine AtStore.rowAk (enc:=encCp) H rfl rfl rfl rfl rfl rfl (xs:=st0++[(x,k+1)]) pk encCp_len HKI.out (j:=1) (by decide) rfl (x,k) rfl ?_;clear H HO0 HO1;intro _ H;rw [HSET.out] at H;have HO2:=HP2.out;simp only [Act.put,puA,puB,puC]))
   focus
    have hk0:((k:Int)==0)=true:=(by assumption);have hk1:k=0:=(by simpa using hk0);have hp:popC st0 x k=st0:=(by simp [popC,hk1]);rw [← HLN.out.2] at H;replace H:=(H.pick (A:=rowsA encCp 234 2 (.slice (some ⟨g,0,none⟩) (k1+1) c2) (st0++[(x,k)])) pk).cut encCp_len HLN.out.1;rw [← hp] at H;have HLE:Hid ((popC st0 x k).length=k1):=zh (by rw [hp];exact HLN.out.1);clear hk0 hk1 hp;generalize k1=nn at *
   rotate_left
   focus
    have hk0:((k:Int)==0)=false:=(by assumption);have hk1:¬ k=0:=(by simpa using hk0);have hp:popC st0 x k=st0++[(x,k)]:=(by simp [popC,hk1]);rw [← hp] at H;have HLE:Hid ((popC st0 x k).length=n2):=zh (by rw [hp];have:=HLN.out;simp;omega);clear hk0 hk1 hp;generalize n2=nn at *
   all_goals
    have hb5:txt1.length<=1048575∧(popC st0 x k).length<=1048576:=by
     have h1:=HR.out;have h2:=congrArg List.length h1.2.1;have h3:=stk_len HIN.out.1 h1.1;have h4:=tr_pos HIN.out.1 HX.out.1 HX.out.2.1;rw [List.length_append,List.length_append,Tr.txt_len] at h2;omega
    obtain ⟨hb6,hb7⟩:=hb5;have HEN2:=HEN.out;rcases HEN2 with ⟨b,hb9,hr,hw,ht⟩|⟨l,r,y,z,hl9,hr9,hy,hz,hr,hw,hs9,ht⟩|⟨l,t,y,hl9,hy,ht2,hr,hw,hs9,ht⟩
    ·have hlit:(ruleL en.r).toArray=#[.int .i64 1,.int .u8 (b:Nat),.int .i64 0,.int .i64 0,.int .i64 0]:=(by rw [hr];rfl);rw [hlit] at HRU;rw [HXJ.out] at ht;have HT:=zh ht;clear hlit hr hw ht hb9;go_wp2_with (first|refine sL ?_|(refine sS ?_;clear H;intros;rename_i H)|(go_at_call 68;with_reducible refine zm (HRU.out _ (H.known HK pk)) ?_;rintro e9 wc ⟨rfl,hb⟩;replace H:=H.grew hb.below;clear hb));rename_i br _ _;replace H:St w N [rowsA encT 5 1 v1 txt1,blk bt (.cells #[v1] 42),blk br (.cells #[.int .i64 1,.int .u8 (b:Nat),.int .i64 0,.int .i64 0,.int .i64 0] 131),rowsA encCp 234 2 (.slice (some ⟨g,0,none⟩) nn c2) (popC st0 x k)] _:=H.picks (.cons pk (.cons pk (.cons pk (.cons pk .nil))));refine wp_region_sgx 9 [⟨[],fun v _=>v=.pointer (some ⟨bt,0,none⟩)⟩,⟨[],fun v _=>v=.pointer (some ⟨bt,0,none⟩)⟩,⟨[1],fun v _=>v=.pointer (some ⟨bt,0,none⟩)⟩,⟨[2],fun v _=>v=v1⟩,⟨[],fun v _=>v=.pointer (some ⟨br,1,none⟩)⟩,⟨[4],fun v _=>v=.int .u8 (b:Nat)⟩,⟨[5],fun v _=>∃ bn:Nat,v=.slice (some ⟨bn,0,none⟩) 1 1⟩,⟨[3,6],fun _ _=>True⟩,⟨[0],fun v _=>v=.pointer (some ⟨bt,0,none⟩)⟩] [6,7] [[0,1,2],[0,1],[0,1],[0,1],[0],[0],[0],[1],[2]] [fun _ wx=>St w N [rowsA encT 5 1 v1 txt1,blk bt (.cells #[v1] 42),blk br (.cells #[.int .i64 1,.int .u8 (b:Nat),.int .i64 0,.int .i64 0,.int .i64 0] 131),rowsA encCp 234 2 (.slice (some ⟨g,0,none⟩) nn c2) (popC st0 x k)] wx,fun vals wx=>∃ bn:Nat,vals 6=.slice (some ⟨bn,0,none⟩) 1 1∧St w N [rowsA encT 5 1 v1 txt1,rowsA encT 5 1 (.slice (some ⟨bn,0,none⟩) 1 1) [b],blk bt (.cells #[v1] 42),blk br (.cells #[.int .i64 1,.int .u8 (b:Nat),.int .i64 0,.int .i64 0,.int .i64 0] 131),rowsA encCp 234 2 (.slice (some ⟨g,0,none⟩) nn c2) (popC st0 x k)] wx,fun vals wx=>∃ (ad9:Option Addr) (cp9:Nat),vals 7=.slice ad9 (txt1.length+1) cp9∧St w N [rowsA encT 5 1 (.slice ad9 (txt1.length+1) cp9) (txt1++[b]),blk bt (.cells #[v1] 42),blk br (.cells #[.int .i64 1,.int .u8 (b:Nat),.int .i64 0,.int .i64 0,.int .i64 0] 131),rowsA encCp 234 2 (.slice (some ⟨g,0,none⟩) nn c2) (popC st0 x k)] wx]
      [[],[],[(1,66)],[(2,67)],[],[(4,69)],[(5,70)],[(3,68),(6,71)],[(0,65)]] [(0,65),(1,66),(2,67),(3,68),(4,69),(5,70),(6,71),(7,72),(8,73)] (by kernel_rfl) (by kernel_rfl) H.drew ⟨⟨qo,qo,qo,trivial⟩,⟨qo,qo,trivial⟩,⟨qo,qo,trivial⟩,⟨ql,ql,trivial⟩,⟨qo,trivial⟩,⟨ql,trivial⟩,⟨?_,trivial⟩,⟨?_,trivial⟩,⟨qo,trivial⟩,trivial⟩ ?_
     ·intro vals wx hd HC;simp only [GF] at hd;have H:=HC;simp only [CA] at H;simp only [PS,hd];clear HC;refine StStep.slice1 (enc:=encT) H rfl rfl rfl rfl rfl rfl rfl rfl rfl b rfl encT_len ?_;intro bn wz H;exact ⟨⟨bn,rfl⟩,bn,rfl,H.picks (.cons pk (.cons pk (.cons pk (.cons pk (.cons pk .nil)))))⟩
     ·intro vals wx hd HC;simp only [GF] at hd;have H:=HC;simp only [CA] at H;obtain ⟨bn,hv,H⟩:=H;simp only [PS,hd,hv];refine StStep.append (enc:=encT) rfl rfl rfl rfl rfl (by decide) (by decide) rfl rfl H (H.get (A:=rowsA encT 5 1 (.slice (some ⟨bn,0,none⟩) 1 1) [b]) pk) encT_len encT_one (by simp;omega) ?_;intro v' wz H;obtain ⟨ad9,cp9,e9,_⟩:=rowsA_shape (H.get (A:=rowsA encT 5 1 v' (txt1++[b])) pk);simp only [List.length_append,List.length_cons,List.length_nil,Nat.zero_add] at e9;subst e9;exact ⟨trivial,ad9,cp9,rfl,H.picks (.cons pk (.cons pk (.cons pk (.cons pk .nil))))⟩
     intro vals wx hd HC;have h6:=hd.2.2.2.2.2.2.1;simp only [CA] at HC;obtain ⟨ad9,cp9,hv,H⟩:=HC;simp only [GF] at hd;simp only [PS,hd,hv];clear hd;go_wp2_with (first|refine sL ?_|(refine sS ?_;clear H;intros;rename_i H)|((with_reducible refine isAppend ?_);refine AtAppend.go (enc:=encT) H rfl rfl rfl rfl rfl (by decide) (by decide) rfl (xs:=txt1) pk rfl (H.at pk) [b] rfl (by simp [flatG,encT]) encT_len encT_one (by simp;omega) ?_;clear H;intro ad9 cp9 _ H;simp only [Act.put,puA,puB,puC]));go_roundg (stkC S (popC st0 x k));case measure=>have h1:=HR.out.2.2;rw [HT.out] at h1;simp only [Tr.cst] at h1;omega
     case rel =>
      have h1:=HR.out;rw [HT.out] at h1;exact ⟨popC st0 x k,txt1++[b],_,rfl,⟨h1.1,by rw [List.append_assoc];exact h1.2.1⟩,H.picks (.cons pk (.cons pk (.cons pk .nil)))⟩
    ·obtain ⟨l1,hl1⟩:∃ a,l+1=a:=⟨_,rfl⟩
     obtain ⟨r1,hr1⟩:∃ a,r+1=a:=⟨_,rfl⟩
     rw [hl1,hr1] at hr ht;have hlit:(ruleL en.r).toArray=#[.int .i64 2,.int .u8 0,.int .i64 (l1:Nat),.int .i64 (r1:Nat),.int .i64 0]:=(by rw [hr];rfl);rw [hlit] at HRU;rw [HXJ.out] at ht;have HT:=zh ht;have HLR:Hid (1<=l1∧l1<=S.list.length∧1<=r1∧r1<=S.list.length):=zh (by have h1:=HX.out;have h2:=HXJ.out;omega);clear hlit hr hw ht hl9 hr9 hy hz hs9 hl1 hr1;go_wp2_with (first|refine sL ?_|(refine sS ?_;clear H;intros;rename_i H)|(go_at_call 68;with_reducible refine zm (HRU.out _ (H.known HK pk)) ?_;rintro e9 wc ⟨rfl,hb⟩;replace H:=H.grew hb.below;clear hb)|((with_reducible refine isSlice ?_);refine AtSlice.litJ H rfl rfl rfl (cs:=#[.int .i64 (r1:Nat),.int .i64 1,.int .i64 (l1:Nat),.int .i64 1]) rfl (by decide) (by decide) (by kernel_rfl) ?_;clear H;intro b8 _ H;simp only [Act.put,puA,puB,puC])|((with_reducible refine isAppend ?_);refine AtAppend.go (enc:=encCp) H rfl rfl rfl rfl rfl (by decide) (by decide) rfl (xs:=popC st0 x k) pk rfl (H.at pk) [(r1,1),(l1,1)] rfl (by simp [flatG,encCp]) encCp_len encCp_one (by simp;omega) ?_;clear H;intro ad9 cp9 _ H;simp only [Act.put,puA,puB,puC]));go_roundg (stkC S (popC st0 x k++[(r1,1),(l1,1)]));case measure =>
      have h1:=HR.out.2.2;rw [HT.out] at h1;rw [show popC st0 x k++[(r1,1),(l1,1)]=(popC st0 x k++[(r1,1)])++[(l1,1)] by simp,stkC_snoc,stkC_snoc];simp only [Tr.cst,Nat.one_mul] at h1 ⊢;omega
     case rel =>
      have h1:=HR.out;have h2:=HLR.out;rw [HT.out] at h1;refine ⟨popC st0 x k++[(r1,1),(l1,1)],txt1,v1,rfl,⟨fun q hq=>?_,?_⟩,H.picks (.cons pk (.cons pk (.cons pk .nil)))⟩
      ·rcases List.mem_append.1 hq with hq|hq
       ·exact h1.1 q hq
       ·simp at hq;unfold maxT;rcases hq with rfl|rfl <;> simp only <;> omega
      ·rw [show popC st0 x k++[(r1,1),(l1,1)]=(popC st0 x k++[(r1,1)])++[(l1,1)] by simp,stkT_snoc,stkT_snoc];have h3:=h1.2.1;simpa [Tr.txt] using h3
    ·obtain ⟨l1,hl1⟩:∃ a,l+1=a:=⟨_,rfl⟩
     have htb:t<=maxT:=by
      have h1:=tr_len HIN.out.1 l y hy;have h2:=pow2_len h1.2;have h3:1*t<=y.w.len*t:=Nat.mul_le_mul_right t (by omega);omega
     rw [hl1] at hr ht;have hlit:(ruleL en.r).toArray=#[.int .i64 3,.int .u8 0,.int .i64 (l1:Nat),.int .i64 0,.int .i64 (t:Nat)]:=(by rw [hr];rfl);rw [hlit] at HRU;rw [HXJ.out] at ht;have HT:=zh ht;have HLR:Hid (1<=l1∧l1<=S.list.length∧1<=t∧t<=maxT):=zh (by have h1:=HX.out;have h2:=HXJ.out;omega);clear hlit hr hw ht hl9 hy hs9 hl1 htb ht2;go_wp2_with (first|refine sL ?_|(refine sS ?_;clear H;intros;rename_i H)|(go_at_call 68;with_reducible refine zm (HRU.out _ (H.known HK pk)) ?_;rintro e9 wc ⟨rfl,hb⟩;replace H:=H.grew hb.below;clear hb)|((with_reducible refine isSlice ?_);refine AtSlice.one H rfl rfl rfl rfl rfl rfl rfl rfl rfl ?_;clear H;intro b8 _ H;simp only [Act.put,puA,puB,puC])|((with_reducible refine isAppend ?_);refine AtAppend.go (enc:=encCp) H rfl rfl rfl rfl rfl (by decide) (by decide) rfl (xs:=popC st0 x k) pk rfl (H.at pk) [(l1,t)] rfl (by simp [flatG,encCp]) encCp_len encCp_one (by simp;omega) ?_;clear H;intro ad9 cp9 _ H;simp only [Act.put,puA,puB,puC]));go_roundg (stkC S (popC st0 x k++[(l1,t)]));case measure =>
      have h1:=HR.out.2.2;rw [HT.out] at h1;rw [stkC_snoc];simp only [Tr.cst] at h1 ⊢;omega
     case rel =>
      have h1:=HR.out;have h2:=HLR.out;rw [HT.out] at h1;refine ⟨popC st0 x k++[(l1,t)],txt1,v1,rfl,⟨fun q hq=>?_,?_⟩,H.picks (.cons pk (.cons pk (.cons pk .nil)))⟩
      ·rcases List.mem_append.1 hq with hq|hq
       ·exact h1.1 q hq
       ·simp at hq;subst hq;exact h2
      ·rw [stkT_snoc];have h3:=h1.2.1;simpa [Tr.txt] using h3
end
section
open Go.RowKit Go.Maps
attribute [local go_sem] InGr
theorem ex1_c {p m bt bs id:Nat} {lv v:Value} {S:Sto} {txt:List Nat} (hS:S.Ok) (h1:1<=id) (h2:id<=S.list.length) (hl:txt.length+(S.tr id).txt.length<=1048576) (w:World) (h:((blk bt (.cells #[v] 42)).sep (rowsA encT 5 1 v txt)).ho w) (hs:(((blk bt (.cells #[v] 42)).sep (rowsA encT 5 1 v txt)).sep (stoA p lv m S)).ho w) (hb:(((blk bt (.cells #[v] 42)).sep (rowsA encT 5 1 v txt)).sep (blk bs (.cells #[.pointer (some ⟨p,0,none⟩)] 59))).ho w) :
  Calls Tryz.prog 111 #[.int .i64 (id:Nat),.int .i64 1,.pointer (some ⟨bt,0,none⟩),.pointer (some ⟨bs,0,none⟩)] w fun e w'=>∃ v':Value,e=.returned .nilIface∧St w ((blk bt (.cells #[v] 42)).sep (rowsA encT 5 1 v txt)).fp [blk bt (.cells #[v'] 42),rowsA encT 5 1 v' (txt++(S.tr id).txt)] w':=by
 have H:=(St.one h).sep;rw [sep_ho] at hs hb;have HK:Ks w ((blk bt (.cells #[v] 42)).sep (rowsA encT 5 1 v txt)).fp [stoA p lv m S,blk bs (.cells #[.pointer (some ⟨p,0,none⟩)] 59)]:=⟨fun A hA=>by
   simp at hA;rcases hA with rfl|rfl
   ·exact hs.2.1
   ·exact hb.2.1,fun A hA b hbA hm=>by
   simp at hA;rcases hA with rfl|rfl
   ·exact hs.2.2 b hm hbA
   ·exact hb.2.2 b hm hbA⟩
 have HSP:Hid (∀ w,((blk bt (.cells #[v] 42)).sep (rowsA encT 5 1 v txt)).ho w->(((blk bt (.cells #[v] 42)).sep (rowsA encT 5 1 v txt)).sep (stoA p lv m S)).ho w->Calls Tryz.prog 112 #[.pointer (some ⟨p,0,none⟩),.int .i64 (id:Nat),.pointer (some ⟨bt,0,none⟩)] w fun e w'=>∃ v':Value,e=.returned .nilIface∧St w ((blk bt (.cells #[v] 42)).sep (rowsA encT 5 1 v txt)).fp [blk bt (.cells #[v'] 42),rowsA encT 5 1 v' (txt++(S.tr id).txt)] w'):=zh fun w h hs=>spell_c hS h1 h2 hl w h hs
 generalize ((blk bt (.cells #[v] 42)).sep (rowsA encT 5 1 v txt)).fp=N at H HK ⊢;obtain ⟨tl,htl⟩:∃ k,txt.length=k:=⟨_,rfl⟩
 obtain ⟨ad,c,rfl,hmx⟩:=rowsA_shape (H.get (A:=rowsA encT 5 1 v txt) pk);rw [htl] at H hl hmx HSP;have HL:Hid (txt.length=tl∧tl+(S.tr id).txt.length<=1048576):=zh ⟨htl,hl⟩;clear hS h1 h2 hl h hs hb htl;go_enter Tryz.func111,Tryz.ntmps111;go_wp2_with (first|refine sL ?_|(refine sS ?_;clear H;intros;rename_i H));with_reducible refine zm (HSP.out _ (St.ho (H.pick2 (A:=blk bt (.cells #[.slice ad tl c] 42)) (B:=rowsA encT 5 1 (.slice ad tl c) txt) pk pk).join _ List.mem_cons_self) ((H.pick2 (A:=blk bt (.cells #[.slice ad tl c] 42)) (B:=rowsA encT 5 1 (.slice ad tl c) txt) pk pk).join.sepK HK .here pk)) ?_
 rintro e9 wc ⟨v2,rfl,hb⟩;replace H:=(H.pick2 (A:=blk bt (.cells #[.slice ad tl c] 42)) (B:=rowsA encT 5 1 (.slice ad tl c) txt) pk pk).join.call hb;clear hb HSP;simp only [List.cons_append,List.nil_append] at H;obtain ⟨ad2,c2,rfl,hmx2⟩:=rowsA_shape (H.get (A:=rowsA encT 5 1 v2 (txt++(S.tr id).txt)) pk);obtain ⟨n2,hn2⟩:∃ k,(txt++(S.tr id).txt).length=k:=⟨_,rfl⟩
 rw [hn2] at H hmx2;have hn3:tl<=n2:=(by rw [← hn2,List.length_append,HL.out.1];omega);clear hn2 hmx;go_wp2_with (first|refine sL ?_|(refine sS ?_;clear H;intros;rename_i H));all_goals
  go_loopg [23] 0 (fun _ v wr=>v=.int .i64 0∧St w N [blk bt (.cells #[.slice ad2 n2 c2] 42),rowsA encT 5 1 (.slice ad2 n2 c2) (txt++(S.tr id).txt)] wr);case atStart=>exact ⟨rfl,H⟩
  case round =>
   clear H;obtain ⟨rfl,H⟩:=hrel;go_wp2_with (first|refine sL ?_|(refine sS ?_;clear H;intros;rename_i H));go_ret;exact ⟨_,rfl,H⟩
def PtRel (w:World) (N:List Nat) (b9 bt id n:Nat) (v:Value) (txt res:List Nat) (k:Nat) (v11:Value) (wr:World):Prop :=
 (k=1∧v11=.slice (some ⟨b9,0,none⟩) 1 1∧St w N [blk b9 (.cells #[.int .i64 (id:Nat),.int .i64 0,.int .i64 (n:Nat),.int .i64 1] 230),blk bt (.cells #[v] 42),rowsA encT 5 1 v txt] wr)∨(k=0∧v11=.slice (some ⟨b9,0,none⟩) 0 1∧∃ v':Value,St w N [blk bt (.cells #[v'] 42),rowsA encT 5 1 v' res] wr)
theorem parts_c {p m bt bs id n:Nat} {lv v:Value} {S:Sto} {txt res:List Nat} (hS:S.Ok) (hc:(n=0∧res=txt)∨(1<=id∧id<=S.list.length∧n=(S.tr id).len∧res=txt++(S.tr id).txt)) (hnb:n<=65536) (htb:txt.length<=65536) (w:World) (h:((blk bt (.cells #[v] 42)).sep (rowsA encT 5 1 v txt)).ho w) (hs:(((blk bt (.cells #[v] 42)).sep (rowsA encT 5 1 v txt)).sep (stoA p lv m S)).ho w) (hb:(((blk bt (.cells #[v] 42)).sep (rowsA encT 5 1 v txt)).sep (blk bs (.cells #[.pointer (some ⟨p,0,none⟩)] 59))).ho w) :
  Calls Tryz.prog 110 #[.pointer (some ⟨p,0,none⟩),.int .i64 (id:Nat),.int .i64 0,.int .i64 (n:Nat),.func (.func 111) #[] #[.pointer (some ⟨bt,0,none⟩),.pointer (some ⟨bs,0,none⟩)]] w fun e w'=>∃ v':Value,e=.returned .nilIface∧St w ((blk bt (.cells #[v] 42)).sep (rowsA encT 5 1 v txt)).fp [blk bt (.cells #[v'] 42),rowsA encT 5 1 v' res] w':=by
 have H:=(St.one h).sep;have hs9:=hs;have hb9:=hb;rw [sep_ho] at hs hb;have HK:Ks w ((blk bt (.cells #[v] 42)).sep (rowsA encT 5 1 v txt)).fp [stoA p lv m S,blk bs (.cells #[.pointer (some ⟨p,0,none⟩)] 59)]:=⟨fun A hA=>by
   simp at hA;rcases hA with rfl|rfl
   ·exact hs.2.1
   ·exact hb.2.1,fun A hA b hbA hm=>by
   simp at hA;rcases hA with rfl|rfl
   ·exact hs.2.2 b hm hbA
   ·exact hb.2.2 b hm hbA⟩
 have HV:Hid (1<=id->id<=S.list.length->n=(S.tr id).len->res=txt++(S.tr id).txt->∀ w,((blk bt (.cells #[v] 42)).sep (rowsA encT 5 1 v txt)).ho w->(((blk bt (.cells #[v] 42)).sep (rowsA encT 5 1 v txt)).sep (stoA p lv m S)).ho w->(((blk bt (.cells #[v] 42)).sep (rowsA encT 5 1 v txt)).sep (blk bs (.cells #[.pointer (some ⟨p,0,none⟩)] 59))).ho w->Calls Tryz.prog 111 #[.int .i64 (id:Nat),.int .i64 1,.pointer (some ⟨bt,0,none⟩),.pointer (some ⟨bs,0,none⟩)] w fun e w'=>∃ v':Value,e=.returned .nilIface∧St w ((blk bt (.cells #[v] 42)).sep (rowsA encT 5 1 v txt)).fp [blk bt (.cells #[v'] 42),rowsA encT 5 1 v' res] w'):=zh fun h1 h2 h3 h4 w h hs hb=>by
  have:=ex1_c (v:=v) (txt:=txt) hS h1 h2 (by rw [Tr.txt_len];omega) w h hs hb;rwa [← h4] at this
 generalize hN:((blk bt (.cells #[v] 42)).sep (rowsA encT 5 1 v txt)).fp=N at H HK ⊢;have HC:=zh hc;have HS:=zh hS;clear hS h hs hb hs9 hb9 hc htb;go_enter Tryz.func110,Tryz.ntmps110;go_wp2_with (first|refine sL ?_|(refine sS ?_;clear H;intros;rename_i H)|((with_reducible refine isSlice ?_);refine AtSlice.one H rfl rfl rfl rfl rfl rfl rfl rfl rfl ?_;clear H;intro b9 _ H;simp only [Act.put,puA,puB,puC]));go_loopg [11] 1 (fun k v11 wr=>PtRel w N b9 bt id n v txt res k v11 wr);case atStart=>exact .inl ⟨rfl,rfl,H⟩
 case round =>
  clear H;rcases hrel with ⟨rfl,rfl,H⟩|⟨rfl,rfl,v2,H⟩
  ·rcases HC.out with ⟨h0,hr⟩|⟨h1,h2,h3,hr⟩
   ·subst h0;have e0:(((0:Nat):Int)==0)=true:=(by simp);go_wp2_with (first|refine sL ?_|(refine sS ?_;clear H;intros;rename_i H));go_roundg 0;case measure=>omega
    case rel=>exact .inr ⟨rfl,rfl,v,by rw [hr];exact H.picks (.cons pk (.cons pk .nil))⟩
   ·obtain ⟨j,hj⟩:∃ j,id=j+1:=⟨id-1,by omega⟩
    obtain ⟨en,hen⟩:∃ a,S.list[j]?=some a:=⟨_,zg (by omega)⟩
    have hln:=tr_len HS.out j en hen;rw [← hj,← h3] at hln;have hn1:=pow2_len (t:=S.tr id) (by rw [hj];exact (tr_len HS.out j en hen).2);have hW:Hid (∀ w,(stoA p lv m S).ho w->Calls Tryz.prog 40 #[.pointer (some ⟨p,0,none⟩),.int .i64 (id:Nat)] w fun e w'=>e=.returned (.tuple #[.agg #[.int .i64 (n:Nat),.int .i64 en.w.lines,.int .i64 en.w.head,.int .i64 en.w.tail,.int .u64 en.w.val,.int .u64 en.w.scale],.nilIface])∧St w [] [] w'):=zh fun w h=>by
     have:=weight_c (i:=id) (x:=en) (by rw [hj];exact hen) w h;rw [hln.1];exact this
    have HVV:=zh (HV.out h1 h2 h3 hr);have e0:((n:Int)==0)=false:=(by simp;omega);have HNN:=zh hN;clear h1 h2 h3 hr hj hen hln hn1 HV;go_wp2_with (first|refine sL ?_|(refine sS ?_;clear H;intros;rename_i H)|(go_at_call 40;with_reducible refine zm (hW.out _ (H.known HK pk)) ?_;rintro e9 wc ⟨rfl,hb⟩;replace H:=H.grew hb.below;clear hb));with_reducible refine zm (HVV.out _ (St.ho (H.pick2 (A:=blk bt (.cells #[v] 42)) (B:=rowsA encT 5 1 v txt) pk pk).join _ List.mem_cons_self) ((H.pick2 (A:=blk bt (.cells #[v] 42)) (B:=rowsA encT 5 1 v txt) pk pk).join.sepK HK .here (B:=stoA p lv m S) pk) ((H.pick2 (A:=blk bt (.cells #[v] 42)) (B:=rowsA encT 5 1 v txt) pk pk).join.sepK HK .here (B:=blk bs (.cells #[.pointer (some ⟨p,0,none⟩)] 59)) pk)) ?_
    rintro e9 wc ⟨v2,rfl,hb⟩;replace H:=(H.pick2 (A:=blk bt (.cells #[v] 42)) (B:=rowsA encT 5 1 v txt) pk pk).join.call hb;clear hb HVV;simp only [List.cons_append,List.nil_append] at H;go_wp2_with (first|refine sL ?_|(refine sS ?_;clear H;intros;rename_i H));go_roundg 0;case measure=>omega
    case rel=>exact .inr ⟨rfl,rfl,v2,H.picks (.cons pk (.cons pk .nil))⟩
  ·go_wp2_with (first|refine sL ?_|(refine sS ?_;clear H;intros;rename_i H));go_ret;exact ⟨v2,rfl,H⟩
section
variable {ops:Array Oper} {Q:Exit->Act->World->Prop} {rest:List Oper} {a:Act} {w w0:World} {M:List Nat} {L R:List As} {o1:Oper} {dst:Option Tmp} {ty0:TypeId} {pos:String} {aft:Array Edge} {gd:Option (Nat×Bool)}
def AtMkRoom (P:Program) (ops:Array Oper) (Q:Exit->Act->World->Prop) (o:Oper) (_:TypeId) (_ _:Operand) (rest:List Oper) (a:Act) (w:World):Prop:=wpList P ops Q (o::rest) a w
theorem isMkRoom {P:Program} {t:TypeId} {x y:Operand} (h:AtMkRoom P ops Q ⟨dst,.makeSlice t x y,ty0,pos,aft,gd⟩ t x y rest a w):wpList P ops Q (⟨dst,.makeSlice t x y,ty0,pos,aft,gd⟩::rest) a w:=h
theorem AtMkRoom.room {α:Type} (enc:α->List Value) {t e:TypeId} {x y:Operand} (H:St w0 M L w) (hw:Region.wanted o1 (yielded ops a.tmps)=true) (ho:o1.op=.makeSlice t x y) (hx:a.eval x=.int .i64 0) (n:Nat) (hy:a.eval y=.int .i64 (n:Int)) (hte:sliceO t=some e) {z:Value} {bytes:Nat} (hi:infoO e=some (z,1,bytes)) (hz:z.cells=#[z]) (hk:∀ x,(enc x).length=1) (hn:n*bytes<=281474976710656) (h63:n<=16777216)
  (h:∀ b w',St w0 M (rowsA enc e 1 (.slice (some ⟨b,0,none⟩) 0 n) []::L) w'->wpList Tryz.prog ops Q rest (a.put o1.dst (.slice (some ⟨b,0,none⟩) 0 n)) w'):AtMkRoom Tryz.prog ops Q o1 t x y rest a w :=
 wpList_step fun _ hK=>by
  rw [if_pos hw];obtain ⟨i,h2,h3,h4,h5⟩:=infoO_ok hi;have hb3:(bytes:Int)*(n:Int)<=281474976710656:=by
   have h9:((n*bytes:Nat):Int)<=281474976710656:=(by omega);rw [Nat.mul_comm] at h9;rwa [Int.natCast_mul] at h9
  have hr:=run_makeSlice (P:=Tryz.prog) (w:=w) t e i z (sliceO_ok hte) h2 h3 .i64 .i64 0 n (by omega) (by omega) (by rw [h4];simp;omega) (by rw [h5];exact hb3) (by omega);rw [hz,h4] at hr;simp only [Int.toNat_natCast,Nat.mul_one,Int.toNat_zero] at hr;unfold Oper.wp execOp;simp only [ho,hx,hy,Sem.run_bind,hr,Result.andThen_ok,Sem.run_pure];refine hK _ _ (h _ _ ((H.alloc (.cells (madeCells #[z] n) e)).conv (by rw [rowsA_fp',blk_fp];rfl) fun hb=>?_));rw [blk_ho] at hb;rw [rowsA_ho];refine ⟨by simp [flatG],.inr ⟨_,n,madeCells #[z] n,rfl,Nat.zero_le _,hb,by first|(simp [size_madeCells];done)|(simp only [List.length_nil];omega)|exact Nat.zero_le _,by unfold maxLen;omega,by first|(rw [size_madeCells,Nat.mul_one];done)|(rw [size_madeCells];done)|(simp [size_madeCells];done),by simp [flatG]⟩⟩
end
theorem extract_c {p m id n:Nat} {lv:Value} {S:Sto} {res:List Nat} (hS:S.Ok) (hc:(id=0∧n=0∧res=[])∨(1<=id∧id<=S.list.length∧n=(S.tr id).len∧res=(S.tr id).txt)) (hnb:n<=65536) (w:World) (hs:(stoA p lv m S).ho w) :
  Calls Tryz.prog 78 #[.pointer (some ⟨p,0,none⟩),.int .i64 (id:Nat),.int .i64 0,.int .i64 (n:Nat)] w fun e w'=>∃ v':Value,e=.returned (.tuple #[v',.nilIface])∧St w [] [rowsA encT 5 1 v' res] w':=by
 have H:=St.nil w [];have HK:=Ks.one hs;obtain ⟨en,hen,hln⟩:∃ en,enAt S id=some en∧en.w.len=n:=by
  rcases hc with ⟨rfl,rfl,_⟩|⟨h1,h2,h3,_⟩
  ·exact ⟨_,rfl,rfl⟩
  ·obtain ⟨j,rfl⟩:∃ j,id=j+1:=⟨id-1,by omega⟩
   obtain ⟨en,hen⟩:∃ a,S.list[j]?=some a:=⟨_,zg (by omega)⟩
   exact ⟨en,hen,by rw [h3,(tr_len hS j en hen).1]⟩
 have hW:Hid (∀ w,(stoA p lv m S).ho w->Calls Tryz.prog 40 #[.pointer (some ⟨p,0,none⟩),.int .i64 (id:Nat)] w fun e w'=>e=.returned (.tuple #[.agg #[.int .i64 (n:Nat),.int .i64 en.w.lines,.int .i64 en.w.head,.int .i64 en.w.tail,.int .u64 en.w.val,.int .u64 en.w.scale],.nilIface])∧St w [] [] w'):=zh fun w h=>by
  have:=weight_c hen w h;rw [← hln];exact this
 have HR:Hid (∀ w,Calls Tryz.prog 89 #[.int .i64 0,.int .i64 (n:Nat),.int .i64 (n:Nat)] w fun e w'=>e=.returned .nilIface∧w'=w):=zh fun w=>range_c 0 n n w (by omega) true (by simp)
 have HP:Hid (∀ (bt bs:Nat) (v:Value) w,((blk bt (.cells #[v] 42)).sep (rowsA encT 5 1 v ([]:List Nat))).ho w->(((blk bt (.cells #[v] 42)).sep (rowsA encT 5 1 v ([]:List Nat))).sep (stoA p lv m S)).ho w->(((blk bt (.cells #[v] 42)).sep (rowsA encT 5 1 v ([]:List Nat))).sep (blk bs (.cells #[.pointer (some ⟨p,0,none⟩)] 59))).ho w->Calls Tryz.prog 110 #[.pointer (some ⟨p,0,none⟩),.int .i64 (id:Nat),.int .i64 0,.int .i64 (n:Nat),.func (.func 111) #[] #[.pointer (some ⟨bt,0,none⟩),.pointer (some ⟨bs,0,none⟩)]] w fun e w'=>∃ v':Value,e=.returned .nilIface∧St w ((blk bt (.cells #[v] 42)).sep (rowsA encT 5 1 v ([]:List Nat))).fp [blk bt (.cells #[v'] 42),rowsA encT 5 1 v' res] w'):=zh fun bt bs v w h hs hb=>parts_c hS (by
  rcases hc with ⟨_,h2,h3⟩|⟨h1,h2,h3,h4⟩
  ·exact .inl ⟨h2,h3⟩
  ·exact .inr ⟨h1,h2,h3,by simpa using h4⟩) hnb (by simp) w h hs hb
 have hmf:∀ (fn:Fn) (first cap:Array Value) (w:World),(Instr.makeFunc fn first cap).run Tryz.prog w=.ok (.func fn first cap) w:=fun _ _ _ _=>rfl
 have d1:decide ((65536:Int)<(n:Int))=false:=(by simp;omega);have d1n:decide (65536<n)=false:=(by simp;omega);clear hS hc hen hln hs;go_enter Tryz.func78,Tryz.ntmps78;go_wp2_with (first|refine sL ?_|(refine sS ?_;clear H;intros;rename_i H)|(go_at_call 40;with_reducible refine zm (hW.out _ (H.known HK pk)) ?_;rintro e9 wc ⟨rfl,hb⟩;replace H:=H.grew hb.below;clear hb)|(go_at_call 89;with_reducible refine same (HR.out _) ?_)|((with_reducible refine isMkRoom ?_);refine AtMkRoom.room encT H rfl rfl rfl n rfl rfl rfl rfl encT_len (by omega) (by omega) ?_;clear H;intro b5 _ H;simp only [Act.put,puA,puB,puC]));rename_i bs _ _ _ _ _ bt _ _ _ _ _ _;have HQ:=zh (HP.out bt bs (.slice (some ⟨b5,0,none⟩) 0 n));with_reducible refine zm (HQ.out _ (St.ho (H.pick2 (A:=blk _ (.cells #[.slice (some ⟨b5,0,none⟩) 0 n] 42)) (B:=rowsA encT 5 1 (.slice (some ⟨b5,0,none⟩) 0 n) []) pk pk).join _ List.mem_cons_self) ((H.pick2 (A:=blk _ (.cells #[.slice (some ⟨b5,0,none⟩) 0 n] 42)) (B:=rowsA encT 5 1 (.slice (some ⟨b5,0,none⟩) 0 n) []) pk pk).join.sepK HK .here (B:=stoA p lv m S) pk) (St.sepO (H.pick2 (A:=blk _ (.cells #[.slice (some ⟨b5,0,none⟩) 0 n] 42)) (B:=rowsA encT 5 1 (.slice (some ⟨b5,0,none⟩) 0 n) []) pk pk).join .here (B:=blk bs (.cells #[.pointer (some ⟨p,0,none⟩)] 59)) pk)) ?_
 rintro e9 wc ⟨v2,rfl,hb⟩;replace H:=(H.pick2 (A:=blk _ (.cells #[.slice (some ⟨b5,0,none⟩) 0 n] 42)) (B:=rowsA encT 5 1 (.slice (some ⟨b5,0,none⟩) 0 n) []) pk pk).join.call hb;clear hb HQ;simp only [List.cons_append,List.nil_append] at H;go_wp2_with (first|refine sL ?_|(refine sS ?_;clear H;intros;rename_i H));go_ret2;exact ⟨v2,rfl,H.picks (.cons pk .nil)⟩
end
section
open Go.RowKit Go.Maps
def IdL (S:Sto):List Nat->List (List Tr)->Prop
 |[],[]=>True
 |a::l,t::u=>IdIs S a t∧IdL S l u
 |_,_=>False
theorem IdL.len {S:Sto}:∀ {l:List Nat} {u:List (List Tr)},IdL S l u->l.length=u.length
 |[],[],_=>rfl
 |a::l,t::u,h=>by simp [IdL.len h.2]
 |[],_::_,h=>h.elim
 |_::_,[],h=>h.elim
theorem IdL.get {S:Sto}:∀ {l:List Nat} {u:List (List Tr)} {i:Nat} {a:Nat},IdL S l u->l[i]?=some a->∃ t,u[i]?=some t∧IdIs S a t
 |[],[],i,a,_,h=>by simp at h
 |b::l,t::u,0,a,h,e=>by
  simp only [List.getElem?_cons_zero,Option.some.injEq] at e;subst e;exact ⟨t,rfl,h.1⟩
 |b::l,t::u,i+1,a,h,e=>by
  simp only [List.getElem?_cons_succ] at e ⊢;exact IdL.get h.2 e
 |[],_::_,_,_,h,_=>h.elim
 |_::_,[],_,_,h,_=>h.elim
theorem IdL.le {S S':Sto} (hS:S.Ok) (hl:S.Le S'):∀ {l:List Nat} {u:List (List Tr)},IdL S l u->IdL S' l u
 |[],[],_=>trivial
 |a::l,t::u,h=>⟨h.1.le hS hl,IdL.le hS hl h.2⟩
 |[],_::_,h=>h.elim
 |_::_,[],h=>h.elim
theorem IdL.append {S:Sto}:∀ {l l':List Nat} {u u':List (List Tr)},IdL S l u->IdL S l' u'->IdL S (l++l') (u++u')
 |[],_,[],_,_,h=>h
 |a::l,_,t::u,_,h,k=>⟨h.1,IdL.append h.2 k⟩
 |[],_,_::_,_,h,_=>h.elim
 |_::_,_,[],_,h,_=>h.elim
theorem IdL.snoc {S:Sto} {l:List Nat} {u:List (List Tr)} {a:Nat} {t:List Tr} (h:IdL S l u) (ha:IdIs S a t):IdL S (l++[a]) (u++[t]):=h.append ⟨ha,trivial⟩
def halveL:List (List Tr)->List (List Tr)
 |a::b::r=>(a++b)::halveL r
 |l=>l
theorem halveL_flat:∀ l:List (List Tr),(halveL l).flatten=l.flatten
 |[]=>by simp [halveL]
 |[a]=>by simp [halveL]
 |a::b::r=>by rw [halveL,List.flatten_cons,halveL_flat r];simp
theorem halveL_len:∀ l:List (List Tr),(halveL l).length=(l.length+1)/2
 |[]=>by simp [halveL]
 |[a]=>by simp [halveL]
 |a::b::r=>by rw [halveL,List.length_cons,halveL_len r];simp only [List.length_cons];omega
theorem halveL_get:∀ {l:List (List Tr)} {j:Nat} {a b:List Tr},l[2*j]?=some a->l[2*j+1]?=some b->(halveL l)[j]?=some (a++b)
 |[],j,a,b,h,_=>by simp at h
 |[x],j,a,b,_,h=>by
  have:=gelt h;simp at this
 |x::y::r,0,a,b,h,k=>by
  simp at h k;subst h k;simp [halveL]
 |x::y::r,j+1,a,b,h,k=>by
  rw [halveL,List.getElem?_cons_succ];refine halveL_get ?_ ?_
  ·rw [← h,show 2*(j+1)=2*j+1+1 by omega];simp
  ·rw [← k,show 2*(j+1)+1=(2*j+1)+1+1 by omega];simp
theorem halveL_last:∀ {l:List (List Tr)} {j:Nat} {a:List Tr},l.length=2*j+1->l[2*j]?=some a->(halveL l)[j]?=some a
 |[],j,a,h,_=>by simp at h
 |[x],j,a,h,k=>by
  have:j=0:=by simp at h;omega
  subst this;simpa [halveL] using k
 |x::y::r,0,a,h,_=>by simp at h
 |x::y::r,j+1,a,h,k=>by
  rw [halveL,List.getElem?_cons_succ];refine halveL_last (by simp only [List.length_cons] at h;omega) ?_;rw [← k,show 2*(j+1)=2*j+1+1 by omega];simp
def totL (l:List (List Tr)):Nat:=l.flatten.length
theorem totL_snoc (l:List (List Tr)) (t:List Tr):totL (l++[t])=totL l+t.length:=by unfold totL;simp
theorem totL_take (l:List (List Tr)) (i:Nat):totL (l.take i)<=totL l:=by
 unfold totL;have h:(l.take i).flatten++(l.drop i).flatten=l.flatten:=(by rw [← List.flatten_append,List.take_append_drop]);rw [← h,List.length_append];omega
theorem totL_halve (l:List (List Tr)):totL (halveL l)=totL l:=by unfold totL;rw [halveL_flat]
theorem totL_take_succ {l:List (List Tr)} {i:Nat} {t:List Tr} (h:l[i]?=some t):totL (l.take (i+1))=totL (l.take i)+t.length:=by rw [List.take_add_one,h];exact totL_snoc _ _
end
section
theorem step_cut {m:Nat} {a:Tr} (h:Canon a) {A C B:List Tr} (e:a.lay (m+1)=A++C++B) (hC:C.flatMap (Tr.lay m)≠[]):stepP (m+1) (C.flatMap (Tr.lay m))=C:=by
 have e1:a.lay (m+1)=A++(C++B):=(by rw [e];simp);have hd:∀ y,(C.flatMap (Tr.lay m)).head?=some y->((C++B).flatMap (Tr.lay m)).head?=some y:=fun y hy=>by
  rw [List.flatMap_append];cases hq:C.flatMap (Tr.lay m) with
  |nil=>exact absurd hq hC
  |cons z l=>rw [hq] at hy;simpa using hy
 by_cases he:m%2=0
 ·obtain ⟨_,c2,c3⟩:=cut_runs he h e1;obtain ⟨_,_,d3⟩:=cut_runs he h e;have h1:=d3 [] (fun x y _ hy=>by simp at hy);have h2:=c3 (C.flatMap (Tr.lay m)) (fun x y hx hy=>c2 x y hx (hd y hy));rw [List.flatMap_append,List.append_nil,h2] at h1;have h3:runs ([]:List Tr)=[]:=rfl;rw [h3,List.append_nil] at h1;rw [step_odd he];exact List.append_cancel_left h1
 ·have ho:m%2=1:=(by omega);obtain ⟨_,c2,c3⟩:=cut_pairs ho h e1;obtain ⟨_,_,d3⟩:=cut_pairs ho h e;have h1:=d3 [] (fun x y _ _ hy=>by simp at hy);have h2:=c3 (C.flatMap (Tr.lay m)) (fun x y hx hl hy=>c2 x y hx hl (hd y hy));rw [List.flatMap_append,List.append_nil,h2] at h1;have h3:pairsF (fits (m+1)) ([]:List Tr)=[]:=(by simp [pairsF]);rw [h3,List.append_nil] at h1;rw [step_even ho];exact List.append_cancel_left h1
theorem Canon.kid {a c:Tr} (h:Canon a) {j:Nat} (hj:(kids a)[j]?=some c):Canon c:=by
 have hc:=h.gd.kid (List.mem_of_getElem? hj);have hk:kids a=(kids a).take j++c::(kids a).drop (j+1):=by
  have hlt:=gelt hj;rw [zg hlt] at hj;injection hj with hj
  conv=>lhs;rw [← List.take_append_drop j (kids a),List.drop_eq_getElem_cons hlt,hj]
 have hlay:∀ m,m<a.lv->a.lay m=((kids a).take j).flatMap (Tr.lay m)++c.lay m++((kids a).drop (j+1)).flatMap (Tr.lay m):=fun m hm=>by
  rw [lay_high hm];conv=>lhs;rw [hk]
  rw [List.flatMap_append,List.flatMap_cons];simp
 refine ⟨fun t ht=>h.leaves t (by rw [hlay 0 (by omega)];simp [ht]),fun m=>?_⟩;induction m with
 |zero=>rfl
 |succ m ih =>
  show stepP (m+1) (seqP (c.lay 0) m)=c.lay (m+1)
  rw [ih];by_cases hm:c.lv<=m
  ·rw [lay_low hm,lay_low (Nat.le_succ_of_le hm),step_one]
  ·have h1:=step_cut h (m:=m) (hlay (m+1) (by omega));rw [lay_lay (Nat.le_succ m) c] at h1;refine h1 fun e=>?_
   have:=lay_pos (m:=m) hc.1.2;rw [e] at this;simp at this
theorem copy_part {α:Type} (l:List α) (k q r n:Nat) (hr:r+n<=l.length) (hq:q<k):(((List.replicate k l).flatten).drop (q*l.length+r)).take n=(l.drop r).take n:=by
 obtain ⟨d,rfl⟩:∃ d,k=q+(d+1):=⟨k-q-1,by omega⟩
 rw [← List.replicate_append_replicate,List.flatten_append,List.replicate_succ,List.flatten_cons];have h1:((List.replicate q l).flatten).length=q*l.length:=(by simp);rw [List.drop_append,h1,List.drop_of_length_le (by omega),List.nil_append,show q*l.length+r-q*l.length=r by omega,List.drop_append_of_le_length (by omega),List.take_append_of_le_length (by simp;omega)]
theorem part_left {α:Type} (a b:List α) (f n:Nat) (h:f+n<=a.length):((a++b).drop f).take n=(a.drop f).take n:=by
 rw [List.drop_append_of_le_length (by omega),List.take_append_of_le_length (by simp;omega)]
theorem part_right {α:Type} (a b:List α) (f n:Nat) (h:a.length<=f):((a++b).drop f).take n=(b.drop (f-a.length)).take n:=by
 rw [List.drop_append,List.drop_of_length_le h,List.nil_append]
theorem pair_lay0 {l r:Tr} (h:(Tr.pair l r).Gd):(Tr.pair l r).lay 0=l.lay 0++r.lay 0:=by
 rw [lay_high (by have:=(h.kid (c:=l) (by simp [kids])).2;omega)];simp [kids]
theorem pow_lay0 {s:Tr} {k:Nat} (h:(Tr.pow s k).Gd):(Tr.pow s k).lay 0=(List.replicate k (s.lay 0)).flatten:=by
 have hk:2<=k:=h.2.2;rw [lay_high (by have:=(h.kid (c:=s) (List.mem_replicate.2 ⟨by omega,rfl⟩)).2;omega)];simp [kids,List.flatMap_replicate]
end
section
open Go.RowKit Go.Maps
attribute [local go_sem] InGr
theorem weight_any {X:Px} {id:Nat} {s:List Tr} (hX:PxOk X) (hd:IdIs X.S id s):∃ a2 a3 a4 a5 a6:Nat,∀ (X1:Px) (w:World),X.Ext X1->X1.S=X.S->(pA X1).ho w->Calls Tryz.prog 40 #[.pointer (some ⟨X.s,0,none⟩),.int .i64 id] w fun e w'=>e=.returned (.tuple #[.agg #[.int .i64 (s.length:Nat),.int .i64 a2,.int .i64 a3,.int .i64 a4,.int .u64 a5,.int .u64 a6],.nilIface])∧St w [] [] w':=by
 rcases hd with ⟨rfl,rfl⟩|⟨T,h1,h2,rfl⟩
 ·refine ⟨En.unit.w.lines,En.unit.w.head,En.unit.w.tail,En.unit.w.val,En.unit.w.scale,fun X1 w q1 q2 h=>?_⟩;have:=weight_c (i:=0) rfl w (pA_sto h);rw [q1.s] at this;exact this
 ·obtain ⟨i,x,rfl,hx,ht⟩:=den_get h1;have hl:=(tr_len hX.ok i x hx).1;rw [ht] at hl;refine ⟨x.w.lines,x.w.head,x.w.tail,x.w.val,x.w.scale,fun X1 w q1 q2 h=>?_⟩;have:=weight_c (i:=i+1) (S:=X1.S) (x:=x) (by rw [q2];exact hx) w (pA_sto h);rw [q1.s] at this;rw [len_lay0 h2.gd,hl];exact this
theorem check_c {X:Px} {x:Nat} {s:List Tr} (hX:PxOk X) (hd:IdIs X.S x s) (w:World) (h:PH X w) :
  Calls Tryz.prog 88 #[.pointer (some ⟨X.p,0,none⟩),.int .i64 x] w (PPost X (.tuple #[.int .i64 (s.length:Nat),.nilIface]) (pA X).fp w):=by
 have h:((pA X).sep deA).ho w:=h;rw [sep_ho] at h;obtain ⟨k1,k2,hdd⟩:=h;have H:=St.one k1;have HK:Ks w (pA X).fp [deA]:=⟨by simpa using k2,by simpa using fun b hb hm=>hdd b hm hb⟩
 generalize (pA X).fp=N at *;clear k1 k2 hdd;obtain ⟨a2,a3,a4,a5,a6,hw⟩:=weight_any hX hd;obtain ⟨l,_,htop⟩:=top_any hX hd;have HW:Hid (∀ w,(pA X).ho w->Calls Tryz.prog 40 #[.pointer (some ⟨X.s,0,none⟩),.int .i64 x] w fun e w'=>e=.returned (.tuple #[.agg #[.int .i64 (s.length:Nat),.int .i64 a2,.int .i64 a3,.int .i64 a4,.int .u64 a5,.int .u64 a6],.nilIface])∧St w [] [] w'):=zh fun w h=>hw X w (.refl _) rfl h
 have HS:Hid (∀ w,(pA X).ho w->Calls Tryz.prog 53 #[.pointer (some ⟨X.p,0,none⟩)] w fun e w'=>e=.returned (.pointer (some ⟨X.s,0,none⟩))∧w'=w):=zh fun w h=>store_p w h
 have HT:Hid (∀ w,((pA X).sep deA).ho w->Calls Tryz.prog 91 #[.pointer (some ⟨X.p,0,none⟩),.int .i64 x] w (PPost X (.tuple #[.int .i64 (l:Nat),.nilIface]) (pA X).fp w)):=zh fun w h=>htop X w (.refl _) hX rfl h
 obtain ⟨n,hn⟩:∃ n,s.length=n:=⟨_,rfl⟩
 rw [hn] at HW ⊢;clear hX hd hw htop hn;go_enter Tryz.func88,Tryz.ntmps88;go_wp2_with (first|refine sL ?_|(refine sS ?_;clear H;intros;rename_i H)|(go_at_call 53;with_reducible refine same (HS.out _ (H.get pk)) ?_)|(go_at_call 40;with_reducible refine zm (HW.out _ (H.get pk)) ?_;rintro e9 wc ⟨rfl,hb⟩;replace H:=H.grew hb.below;clear hb)|(go_at_call 91;with_reducible refine zm (HT.out _ (H.sepK HK pk pk)) ?_;rintro e9 wc ⟨X2,y1,y2,y3,rfl,hb⟩;have HY:=zh (za y1 (za y2 y3));clear y1 y2 y3;replace H:=zn ((H.pick pk).call hb);clear hb));go_ret2;exact ⟨X2,HY.out.1,HY.out.2.1,HY.out.2.2,rfl,H.picks (.cons pk .nil)⟩
theorem inner_c {X:Px} {x from_ n:Nat} {s:List Tr} (hX:PxOk X) (hd:IdIs X.S x s) (hf:from_+n<=s.length) (hl:s.length<=1048576) (hroom:X.S.list.length+2*s.length<=X.S.most) (w:World) (h:PH X w) :
  Calls Tryz.prog 121 #[.pointer (some ⟨X.p,0,none⟩),.int .i64 x,.int .i64 (from_:Nat),.int .i64 (n:Nat)] w fun e w'=>∃ (X':Px) (id:Nat),e=.returned (.tuple #[.int .i64 id,.nilIface])∧X.Ext X'∧PxOk X'∧IdIs X'.S id ((s.drop from_).take n)∧X'.S.list.length<=X.S.list.length+2*s.length∧St w (pA X).fp [pA X'] w':=by
 have h:((pA X).sep deA).ho w:=h;rw [sep_ho] at h;obtain ⟨k1,k2,hdd⟩:=h;have H:=St.one k1;have HK:Ks w (pA X).fp [deA]:=⟨by simpa using k2,by simpa using fun b hb hm=>hdd b hm hb⟩
 generalize (pA X).fp=N at *;clear k1 k2 hdd;have HX:=zh hX;have h1:=fun w h=>splice_c (X:=X) (a:=0) (i:=0) (sa:=[]) (b:=x) (j:=from_) (sb:=s) hX (.inl ⟨rfl,rfl⟩) hd (Nat.zero_le _) (by omega) (by simp;omega) (by simp;omega) w h
 have H1:Hid (∀ w,((pA X).sep deA).ho w->Calls Tryz.prog 123 #[.pointer (some ⟨X.p,0,none⟩),.int .i64 0,.int .i64 0,.int .i64 x,.int .i64 (from_:Nat)] w fun e w'=>∃ (X':Px) (id:Nat),e=.returned (.tuple #[.int .i64 id,.nilIface])∧X.Ext X'∧PxOk X'∧IdIs X'.S id (s.drop from_)∧X'.S.list.length<=X.S.list.length+(s.drop from_).length∧St w (pA X).fp [pA X'] w'):=zh fun w h=>h1 w h
 have H2:Hid (∀ (X2:Px) (id2:Nat),X.Ext X2->PxOk X2->IdIs X2.S id2 (s.drop from_)->X2.S.list.length<=X.S.list.length+(s.drop from_).length->∀ w,((pA X2).sep deA).ho w->Calls Tryz.prog 123 #[.pointer (some ⟨X.p,0,none⟩),.int .i64 id2,.int .i64 (n:Nat),.int .i64 0,.int .i64 0] w fun e w'=>∃ (X':Px) (id:Nat),e=.returned (.tuple #[.int .i64 id,.nilIface])∧X2.Ext X'∧PxOk X'∧IdIs X'.S id ((s.drop from_).take n)∧X'.S.list.length<=X2.S.list.length+((s.drop from_).take n).length∧St w (pA X2).fp [pA X'] w'):=zh fun X2 id2 q1 q2 q3 q4 w h=>by
  have hm:X2.S.most=X.S.most:=q1.le.1;simp only [List.length_drop] at q4;have:=splice_c (X:=X2) (a:=id2) (i:=n) (sa:=s.drop from_) (b:=0) (j:=0) (sb:=[]) q2 q3 (.inl ⟨rfl,rfl⟩) (by simp;omega) (Nat.zero_le _) (by simp;omega) (by simp;omega) w h;rw [q1.p] at this;simp only [List.drop_nil,List.append_nil] at this;exact this
 have HC:Hid ((s.drop from_).length+((s.drop from_).take n).length<=2*s.length):=zh (by simp;omega);clear hX hd hf hl hroom h1;go_enter Tryz.func121,Tryz.ntmps121;go_wp2_with (first|refine sL ?_|(refine sS ?_;clear H;intros;rename_i H)|(first|(go_at_call 123;with_reducible refine zm (H1.out _ (H.sepK HK pk pk)) ?_;rintro e9 wc ⟨X2,id2,rfl,y1,y2,y3,y4,hb⟩;have HY:=zh (za y1 (za y2 (za y3 y4)));clear y1 y2 y3 y4;replace H:=zn ((H.pick pk).call hb);clear hb)|(go_at_call 123;with_reducible refine zm (H2.out X2 id2 HY.out.1 HY.out.2.1 HY.out.2.2.1 HY.out.2.2.2 _ (H.sepK HK pk pk)) ?_;rintro e9 wc ⟨X3,id3,rfl,y1,y2,y3,y4,hb⟩;have HZ:=zh (za y1 (za y2 (za y3 y4)));clear y1 y2 y3 y4;replace H:=zn ((H.pick pk).call hb);clear hb)));go_ret2;exact ⟨X3,id3,rfl,HY.out.1.trans HZ.out.1,HZ.out.2.1,HZ.out.2.2.1,by have h1:=HY.out.2.2.2;have h2:=HZ.out.2.2.2;have h3:=HC.out;omega,H.picks (.cons pk .nil)⟩
def SecRel (X:Px) (s:List Tr) (tg:List Tr) (n:Nat) (N:List Nat) (w:World) (m:Nat) (v1 v2:Value) (wr:World):Prop :=
 ∃ (cur frm:Nat) (T:Tr),m=T.lv∧v1=.int .i64 cur∧v2=.int .i64 frm∧(Den X.S cur T∧Canon T∧(T.lay 0).length<=s.length∧frm+n<=(T.lay 0).length∧((T.lay 0).drop frm).take n=tg)∧St w N [pA X] wr
theorem section_c {X:Px} {x from_ n:Nat} {s:List Tr} (hX:PxOk X) (hd:IdIs X.S x s) (hf:from_+n<=s.length) (hl:s.length<=1048576) (hroom:X.S.list.length+2*s.length<=X.S.most) (w:World) (h:PH X w) :
  Calls Tryz.prog 90 #[.pointer (some ⟨X.p,0,none⟩),.int .i64 x,.int .i64 (from_:Nat),.int .i64 (n:Nat)] w fun e w'=>∃ (X':Px) (id:Nat),e=.returned (.tuple #[.int .i64 id,.nilIface])∧X.Ext X'∧PxOk X'∧IdIs X'.S id ((s.drop from_).take n)∧X'.S.list.length<=X.S.list.length+2*s.length∧St w (pA X).fp [pA X'] w':=by
 have h:((pA X).sep deA).ho w:=h;rw [sep_ho] at h;obtain ⟨k1,k2,hdd⟩:=h;have H:=St.one k1;have HK:Ks w (pA X).fp [deA]:=⟨by simpa using k2,by simpa using fun b hb hm=>hdd b hm hb⟩
 generalize (pA X).fp=N at *;clear k1 k2 hdd;have HX:=zh hX;rcases Nat.eq_zero_or_pos n with rfl|hn0
 ·clear hX hd hf hl hroom;go_enter Tryz.func90,Tryz.ntmps90;go_wp2_with (first|refine sL ?_|(refine sS ?_;clear H;intros;rename_i H));go_ret2;exact ⟨X,0,rfl,.refl _,HX.out,.inl ⟨by simp,rfl⟩,by omega,H.picks (.cons pk .nil)⟩
 ·obtain ⟨tg,htg⟩:∃ tg,(s.drop from_).take n=tg:=⟨_,rfl⟩
  have HTG:=zh htg;have HL:=zh (za hl hroom);have hnb:n<=1048576:=(by omega);have d0:((n:Int)==0)=false:=(by simp;omega);have hT:∃ T,Den X.S x T∧Canon T∧T.lay 0=s:=by
   rcases hd with ⟨rfl,_⟩|h
   ·simp at hf;omega
   ·exact h
  obtain ⟨T0,t1,t2,t3⟩:=hT;have HIN0:Hid (Den X.S x T0∧Canon T0∧(T0.lay 0).length<=s.length∧from_+n<=(T0.lay 0).length∧((T0.lay 0).drop from_).take n=tg):=zh ⟨t1,t2,by rw [t3];exact Nat.le_refl _,by rw [t3];exact hf,by rw [t3];exact htg⟩;have HS:Hid (∀ w,(pA X).ho w->Calls Tryz.prog 53 #[.pointer (some ⟨X.p,0,none⟩)] w fun e w'=>e=.returned (.pointer (some ⟨X.s,0,none⟩))∧w'=w):=zh fun w h=>store_p w h
  have HN0:=zh hn0;clear hX hd hf hl hroom t1 t2 t3 htg hn0;go_enter Tryz.func90,Tryz.ntmps90;go_wp2_with (first|refine sL ?_|(refine sS ?_;clear H;intros;rename_i H)|(go_at_call 53;with_reducible refine same (HS.out _ (H.get pk)) ?_));go_loopg [1,2] T0.lv (fun m v1 v2 wr=>SecRel X s tg n N w m v1 v2 wr);case atStart=>exact ⟨x,from_,T0,rfl,rfl,rfl,HIN0.out,H.picks (.cons pk .nil)⟩
  case round =>
   clear H HIN0;obtain ⟨cur,frm,T,rfl,rfl,rfl,hrel,H⟩:=hrel;obtain ⟨hdn,hcan,hle,hfn,htt⟩:=id hrel;have hfb:frm<=1048576:=(by have:=HL.out.1;omega);obtain ⟨i,en,hci,hx,ht⟩:=den_get hdn;have hg:=hcan.gd;rcases Nat.eq_zero_or_pos (kids T).length with hk0|hk0
   ·have hlf:∃ b,T=.leaf b:=by
     cases T with
     |leaf b=>exact ⟨b,rfl⟩
     |pair l r=>simp [kids] at hk0
     |pow s k=>have h2:2<=k:=hg.2.2;simp [kids] at hk0;omega
    obtain ⟨b,rfl⟩:=hlf;have hen:en.r=⟨1,b,0,0,0⟩:=by
     cases rule_of HX.out.ok hx with
     |letter b' hb hr hw ht'=>rw [ht] at ht';injection ht' with ht';rw [ht'];exact hr
     |pair l r y z _ _ _ _ _ _ _ ht'=>rw [ht] at ht';cases ht'
     |pow l k y _ _ _ _ _ _ ht'=>rw [ht] at ht';cases ht'
    have HRU:Hid (∀ w,(pA X).ho w->Calls Tryz.prog 68 #[.pointer (some ⟨X.s,0,none⟩),.int .i64 cur] w fun e w'=>e=.returned (.tuple #[.agg #[.int .i64 1,.int .u8 b,.int .i64 0,.int .i64 0,.int .i64 0],.nilIface])∧St w [] [] w'):=zh fun w h=>by have:=rule_c hx (cur:Int) (by rw [hci];exact Int.natCast_succ i) w (pA_sto h);rw [hen] at this;exact this
    have HFN:Hid (IdIs X.S cur tg):=zh (.inr ⟨_,hdn,hcan,by
     have e1:(Tr.leaf b).lay 0=[.leaf b]:=rfl;rw [e1] at hfn htt ⊢;simp only [List.length_cons,List.length_nil] at hfn;have:=HN0.out;obtain rfl:frm=0:=by omega
     obtain rfl:n=1:=by omega
     rw [← htt];rfl⟩)
    clear hrel hx hen ht hci hdn hcan hle hfn htt hg hk0;go_wp2_with (first|refine sL ?_|(refine sS ?_;clear H;intros;rename_i H)|(go_at_call 68;with_reducible refine zm (HRU.out _ (H.get pk)) ?_;rintro e9 wc ⟨rfl,hb⟩;replace H:=H.grew hb.below;clear hb));go_ret2;exact ⟨X,cur,rfl,.refl _,HX.out,by rw [HTG.out];exact HFN.out,by omega,H.picks (.cons pk .nil)⟩
   ·rcases (kids_rule HX.out.ok hx ht hk0).2 with ⟨l,r,u,v,hen,hte,hdu,hdv⟩|⟨l,u,k,hen,hte,hk,hdu⟩
    ·subst hte;have cu:=hcan.kid (j:=0) (c:=u) rfl;have cv:=hcan.kid (j:=1) (c:=v) rfl;have elay:=pair_lay0 hg;obtain ⟨a2,a3,a4,a5,a6,hw⟩:=weight_any HX.out (.inr ⟨u,hdu,cu,rfl⟩);obtain ⟨lf,hlf⟩:∃ lf,(u.lay 0).length=lf:=⟨_,rfl⟩
     have hlb:lf<=1048576:=(by rw [elay] at hle;simp at hle;have:=HL.out.1;omega);have HWL:Hid (∀ w,(pA X).ho w->Calls Tryz.prog 40 #[.pointer (some ⟨X.s,0,none⟩),.int .i64 l] w fun e w'=>e=.returned (.tuple #[.agg #[.int .i64 (lf:Nat),.int .i64 a2,.int .i64 a3,.int .i64 a4,.int .u64 a5,.int .u64 a6],.nilIface])∧St w [] [] w'):=zh fun w h=>by have:=hw X w (.refl _) rfl h;rwa [hlf] at this
     have HRU:Hid (∀ w,(pA X).ho w->Calls Tryz.prog 68 #[.pointer (some ⟨X.s,0,none⟩),.int .i64 cur] w fun e w'=>e=.returned (.tuple #[.agg #[.int .i64 2,.int .u8 0,.int .i64 l,.int .i64 r,.int .i64 0],.nilIface])∧St w [] [] w'):=zh fun w h=>by have:=rule_c hx (cur:Int) (by rw [hci];exact Int.natCast_succ i) w (pA_sto h);rw [hen] at this;exact this
     obtain ⟨fe,hfe⟩:∃ fe,frm+n=fe:=⟨_,rfl⟩
     have i1:(frm:Int)+(n:Int)=(fe:Nat):=(by omega);have hfeb:fe<=1048576:=(by have:=HL.out.1;omega);by_cases c1:fe<=lf
     ·have d1:decide ((fe:Int)<=(lf:Int))=true:=(by simp;omega);have d2:decide (fe<=lf)=true:=(by simp;omega);have HLV:Hid (u.lv<(Tr.pair u v).lv):=zh (hg.kid (c:=u) (by simp [kids])).2;have HNX:Hid (Den X.S l u∧Canon u∧(u.lay 0).length<=s.length∧frm+n<=(u.lay 0).length∧((u.lay 0).drop frm).take n=tg):=zh ⟨hdu,cu,by rw [elay] at hle;simp at hle;omega,by omega,by rw [← htt,elay,part_left _ _ _ _ (by omega)]⟩;clear hrel hx hen ht hci hdn hcan hle hfn htt hg hk0 hdu hdv cu cv elay hw hlf c1;go_wp2_with (first|refine sL ?_|(refine sS ?_;clear H;intros;rename_i H)|(go_at_call 68;with_reducible refine zm (HRU.out _ (H.get pk)) ?_;rintro e9 wc ⟨rfl,hb⟩;replace H:=H.grew hb.below;clear hb)|(go_at_call 40;with_reducible refine zm (HWL.out _ (H.get pk)) ?_;rintro e9 wc ⟨rfl,hb⟩;replace H:=H.grew hb.below;clear hb)|(go_at_call 53;with_reducible refine same (HS.out _ (H.get pk)) ?_));go_roundg (u).lv;case measure=>exact HLV.out
      case rel=>exact ⟨l,frm,u,rfl,rfl,rfl,HNX.out,H.picks (.cons pk .nil)⟩
     ·have d1:decide ((fe:Int)<=(lf:Int))=false:=(by simp;omega);have d2:decide (fe<=lf)=false:=(by simp;omega);by_cases c2:lf<=frm
      ·have d3:decide ((lf:Int)<=(frm:Int))=true:=(by simp;omega);have d4:decide (lf<=frm)=true:=(by simp;omega);obtain ⟨f2,hf2⟩:∃ f2,frm-lf=f2:=⟨_,rfl⟩
       have i2:(frm:Int)-(lf:Int)=(f2:Nat):=(by omega);have hf2b:f2<=1048576:=(by omega);have HLV:Hid (v.lv<(Tr.pair u v).lv):=zh (hg.kid (c:=v) (by simp [kids])).2;have HNX:Hid (Den X.S r v∧Canon v∧(v.lay 0).length<=s.length∧f2+n<=(v.lay 0).length∧((v.lay 0).drop f2).take n=tg):=zh ⟨hdv,cv,by rw [elay] at hle;simp at hle;omega,by rw [elay] at hfn;simp at hfn;omega,by rw [← htt,elay,part_right _ _ _ _ (by omega),hlf,hf2]⟩;clear hrel hx hen ht hci hdn hcan hle hfn htt hg hk0 hdu hdv cu cv elay hw hlf c1 c2 hf2;go_wp2_with (first|refine sL ?_|(refine sS ?_;clear H;intros;rename_i H)|(go_at_call 68;with_reducible refine zm (HRU.out _ (H.get pk)) ?_;rintro e9 wc ⟨rfl,hb⟩;replace H:=H.grew hb.below;clear hb)|(go_at_call 40;with_reducible refine zm (HWL.out _ (H.get pk)) ?_;rintro e9 wc ⟨rfl,hb⟩;replace H:=H.grew hb.below;clear hb)|(go_at_call 53;with_reducible refine same (HS.out _ (H.get pk)) ?_));go_roundg (v).lv;case measure=>exact HLV.out
       case rel=>exact ⟨r,f2,v,rfl,rfl,rfl,HNX.out,H.picks (.cons pk .nil)⟩
      ·have d3:decide ((lf:Int)<=(frm:Int))=false:=(by simp;omega);have d4:decide (lf<=frm)=false:=(by simp;omega);generalize hTT:Tr.pair u v=T at *;have HIC:Hid (∀ w,((pA X).sep deA).ho w->Calls Tryz.prog 121 #[.pointer (some ⟨X.p,0,none⟩),.int .i64 cur,.int .i64 (frm:Nat),.int .i64 (n:Nat)] w fun e w'=>∃ (X':Px) (id:Nat),e=.returned (.tuple #[.int .i64 id,.nilIface])∧X.Ext X'∧PxOk X'∧IdIs X'.S id (tg)∧X'.S.list.length<=X.S.list.length+2*s.length∧St w (pA X).fp [pA X'] w'):=zh fun w h=>by
        refine (inner_c HX.out (.inr ⟨T,hrel.1,hrel.2.1,rfl⟩) hrel.2.2.2.1 (by have:=HL.out.1;have:=hrel.2.2.1;omega) (by have:=HL.out.2;have:=hrel.2.2.1;omega) w h).mono ?_;rintro e w' ⟨X',id,rfl,q1,q2,q3,q4,q5⟩;exact ⟨X',id,rfl,q1,q2,by rw [← hrel.2.2.2.2];exact q3,by have:=hrel.2.2.1;omega,q5⟩
       clear hrel hx hen ht hci hdn hcan hle hfn htt hg hk0 hdu hdv cu cv elay hw hlf c1 c2 hTT;go_wp2_with (first|refine sL ?_|(refine sS ?_;clear H;intros;rename_i H)|(go_at_call 68;with_reducible refine zm (HRU.out _ (H.get pk)) ?_;rintro e9 wc ⟨rfl,hb⟩;replace H:=H.grew hb.below;clear hb)|(go_at_call 40;with_reducible refine zm (HWL.out _ (H.get pk)) ?_;rintro e9 wc ⟨rfl,hb⟩;replace H:=H.grew hb.below;clear hb)|(go_at_call 53;with_reducible refine same (HS.out _ (H.get pk)) ?_)|(go_at_call 121;with_reducible refine zm (HIC.out _ (H.sepK HK pk pk)) ?_;rintro e9 wc ⟨X2,id2,rfl,y1,y2,y3,y4,hb⟩;have HY:=zh (za y1 (za y2 (za y3 y4)));clear y1 y2 y3 y4;replace H:=zn ((H.pick pk).call hb);clear hb));go_ret2;exact ⟨X2,id2,rfl,HY.out.1,HY.out.2.1,by rw [HTG.out];exact HY.out.2.2.1,HY.out.2.2.2,H.picks (.cons pk .nil)⟩
    ·subst hte;have cu:=hcan.kid (j:=0) (c:=u) (by have h2:2<=k:=hg.2.2;simp only [kids];rw [List.getElem?_replicate,if_pos (by omega)]);have elay:=pow_lay0 hg;obtain ⟨a2,a3,a4,a5,a6,hw⟩:=weight_any HX.out (.inr ⟨u,hdu,cu,rfl⟩);have hup:=canon_pos cu;have hmem:u∈kids (Tr.pow u k):=List.mem_replicate.2 ⟨by have h2:2<=k:=hg.2.2;omega,rfl⟩;obtain ⟨lf,hlf⟩:∃ lf,(u.lay 0).length=lf:=⟨_,rfl⟩
     have hkl:((List.replicate k (u.lay 0)).flatten).length=k*lf:=(by simp [hlf]);have hkl2:lf<=k*lf:=Nat.le_mul_of_pos_left _ (by have h2:2<=k:=hg.2.2;omega);have hlb:lf<=1048576:=(by rw [elay,hkl] at hle;have:=HL.out.1;omega);have HWL:Hid (∀ w,(pA X).ho w->Calls Tryz.prog 40 #[.pointer (some ⟨X.s,0,none⟩),.int .i64 l] w fun e w'=>e=.returned (.tuple #[.agg #[.int .i64 (lf:Nat),.int .i64 a2,.int .i64 a3,.int .i64 a4,.int .u64 a5,.int .u64 a6],.nilIface])∧St w [] [] w'):=zh fun w h=>by have:=hw X w (.refl _) rfl h;rwa [hlf] at this
     have HRU:Hid (∀ w,(pA X).ho w->Calls Tryz.prog 68 #[.pointer (some ⟨X.s,0,none⟩),.int .i64 cur] w fun e w'=>e=.returned (.tuple #[.agg #[.int .i64 3,.int .u8 0,.int .i64 l,.int .i64 0,.int .i64 k],.nilIface])∧St w [] [] w'):=zh fun w h=>by have:=rule_c hx (cur:Int) (by rw [hci];exact Int.natCast_succ i) w (pA_sto h);rw [hen] at this;exact this
     obtain ⟨q,hq⟩:∃ q,frm/lf=q:=⟨_,rfl⟩
     obtain ⟨rr,hrr⟩:∃ rr,frm%lf=rr:=⟨_,rfl⟩
     have hdm:=Nat.div_add_mod frm lf;rw [hq,hrr,Nat.mul_comm] at hdm;have hrl:=Nat.mod_lt frm (show 0<lf by omega);rw [hrr] at hrl;have i0:(frm:Int).tmod (lf:Int)=(rr:Nat):=(by rw [← hrr];rfl);have i0z:((lf:Int)==0)=false:=(by simp;omega);have i0n:¬ (lf:Int)=0:=(by omega);have i0m:¬ lf=0:=(by omega);obtain ⟨fe,hfe⟩:∃ fe,rr+n=fe:=⟨_,rfl⟩
     have i1:(rr:Int)+(n:Int)=(fe:Nat):=(by omega);have hfeb:fe<=2097152:=(by omega);have hrrb:rr<=1048576:=(by omega);by_cases c1:fe<=lf
     ·have d1:decide ((fe:Int)<=(lf:Int))=true:=(by simp;omega);have d2:decide (fe<=lf)=true:=(by simp;omega);have HLV:Hid (u.lv<(Tr.pow u k).lv):=zh (hg.kid (c:=u) hmem).2;have HNX:Hid (Den X.S l u∧Canon u∧(u.lay 0).length<=s.length∧rr+n<=(u.lay 0).length∧((u.lay 0).drop rr).take n=tg):=zh ⟨hdu,cu,by rw [elay,hkl] at hle;omega,by omega,by
       have hqk:q<k:=by
        refine Nat.lt_of_not_le fun h9=>?_
        have h8:=Nat.mul_le_mul_right lf h9;rw [elay,hkl] at hfn;have:=HN0.out;omega
       have h7:=copy_part (u.lay 0) k q rr n (by omega) hqk;rw [hlf,hdm] at h7;rw [← htt,elay,h7]⟩
      clear hrel hx hen ht hci hdn hcan hle hfn htt hg hk0 hdu hk cu elay hw hlf c1 hup hmem hkl hkl2 hq hrr hdm hrl hfe;go_wp2_with (first|refine sL ?_|(refine sS ?_;clear H;intros;rename_i H)|(go_at_call 68;with_reducible refine zm (HRU.out _ (H.get pk)) ?_;rintro e9 wc ⟨rfl,hb⟩;replace H:=H.grew hb.below;clear hb)|(go_at_call 40;with_reducible refine zm (HWL.out _ (H.get pk)) ?_;rintro e9 wc ⟨rfl,hb⟩;replace H:=H.grew hb.below;clear hb)|(go_at_call 53;with_reducible refine same (HS.out _ (H.get pk)) ?_));refine wp_region_h H 7 [] [] (by kernel_rfl) (by kernel_rfl) ?_;apply Exists.intro;refine ⟨fun w1 hw1 HX=>?_,fun bs wr Hr=>?_⟩
      ·refine sG ?_;repeat (first|go_big_quiet_skip|refine sQ ?_|fail|go_big_quiet_step (fail))
       exact wpQuiet_nil rfl
      clear H;have H:=Hr;clear Hr;replace H:=sH H;refine sT ?_;go_wp2_with (first|refine sL ?_|(refine sS ?_;clear H;intros;rename_i H));go_roundg (u).lv;case measure=>exact HLV.out
      case rel=>exact ⟨l,rr,u,rfl,rfl,rfl,HNX.out,H.picks (.cons pk .nil)⟩
     ·have d1:decide ((fe:Int)<=(lf:Int))=false:=(by simp;omega);have d2:decide (fe<=lf)=false:=(by simp;omega);generalize hTT:Tr.pow u k=T at *;have HIC:Hid (∀ w,((pA X).sep deA).ho w->Calls Tryz.prog 121 #[.pointer (some ⟨X.p,0,none⟩),.int .i64 cur,.int .i64 (frm:Nat),.int .i64 (n:Nat)] w fun e w'=>∃ (X':Px) (id:Nat),e=.returned (.tuple #[.int .i64 id,.nilIface])∧X.Ext X'∧PxOk X'∧IdIs X'.S id (tg)∧X'.S.list.length<=X.S.list.length+2*s.length∧St w (pA X).fp [pA X'] w'):=zh fun w h=>by
       refine (inner_c HX.out (.inr ⟨T,hrel.1,hrel.2.1,rfl⟩) hrel.2.2.2.1 (by have:=HL.out.1;have:=hrel.2.2.1;omega) (by have:=HL.out.2;have:=hrel.2.2.1;omega) w h).mono ?_;rintro e w' ⟨X',id,rfl,q1,q2,q3,q4,q5⟩;exact ⟨X',id,rfl,q1,q2,by rw [← hrel.2.2.2.2];exact q3,by have:=hrel.2.2.1;omega,q5⟩
      clear hrel hx hen ht hci hdn hcan hle hfn htt hg hk0 hdu hk cu elay hw hlf c1 hup hmem hkl hkl2 hq hrr hdm hrl hfe hTT;go_wp2_with (first|refine sL ?_|(refine sS ?_;clear H;intros;rename_i H)|(go_at_call 68;with_reducible refine zm (HRU.out _ (H.get pk)) ?_;rintro e9 wc ⟨rfl,hb⟩;replace H:=H.grew hb.below;clear hb)|(go_at_call 40;with_reducible refine zm (HWL.out _ (H.get pk)) ?_;rintro e9 wc ⟨rfl,hb⟩;replace H:=H.grew hb.below;clear hb)|(go_at_call 53;with_reducible refine same (HS.out _ (H.get pk)) ?_)|(go_at_call 121;with_reducible refine zm (HIC.out _ (H.sepK HK pk pk)) ?_;rintro e9 wc ⟨X2,id2,rfl,y1,y2,y3,y4,hb⟩;have HY:=zh (za y1 (za y2 (za y3 y4)));clear y1 y2 y3 y4;replace H:=zn ((H.pick pk).call hb);clear hb));go_ret2;exact ⟨X2,id2,rfl,HY.out.1,HY.out.2.1,by rw [HTG.out];exact HY.out.2.2.1,HY.out.2.2.2,H.picks (.cons pk .nil)⟩
end
section
open Go.RowKit Go.Maps
attribute [local go_sem] InGr
theorem range_ok (a b n:Nat) (h:a+b<=n) (hn:n<=1152921504606846976) (w:World) :
  Calls Tryz.prog 89 #[.int .i64 a,.int .i64 b,.int .i64 n] w fun e w'=>e=.returned .nilIface∧w'=w:=by
 have HV:Hid (Calls Tryz.prog 95 #[.int .i64 n] w fun e w'=>e=.returned (.bool true)∧w'=w):=zh (valid_c n true (by symm;rw [decide_eq_true_eq];omega) w);have H:=St.nil w [];have HK:=Ks.nil w [];have d1:decide ((a:Int)<0)=false:=(by simp);have d2:decide ((b:Int)<0)=false:=(by simp);have d3:decide (n<a)=false:=(by simp;omega);have d4:decide ((n:Int)-a<b)=false:=(by simp;omega);go_enter Tryz.func89,Tryz.ntmps89;go_wp2_with (first|refine sL ?_|(go_at_call 95;with_reducible refine same (HV.out) ?_));go_ret;exact ⟨rfl,rfl⟩
theorem range_no (a b:Int) (n:Nat) (h:¬ (0<=a∧0<=b∧a+b<=n)) (hn:n<=1152921504606846976) (w:World) :
  Calls Tryz.prog 89 #[.int .i64 a,.int .i64 b,.int .i64 n] w fun e w'=>e=.returned (EV 1)∧w'=w:=by
 have HV:Hid (Calls Tryz.prog 95 #[.int .i64 n] w fun e w'=>e=.returned (.bool true)∧w'=w):=zh (valid_c n true (by symm;rw [decide_eq_true_eq];omega) w);have H:=St.nil w [];have HK:=Ks.nil w [];by_cases h1:a<0
 ·have d1:decide (a<0)=true:=(by simpa using h1);clear h;go_enter Tryz.func89,Tryz.ntmps89;go_wp2_with (first|refine sL ?_|(go_at_call 95;with_reducible refine same (HV.out) ?_));go_ret;exact ⟨rfl,rfl⟩
 ·have d1:decide (a<0)=false:=(by simpa using h1);by_cases h2:b<0
  ·have d2:decide (b<0)=true:=(by simpa using h2);clear h;go_enter Tryz.func89,Tryz.ntmps89;go_wp2_with (first|refine sL ?_|(go_at_call 95;with_reducible refine same (HV.out) ?_));go_ret;exact ⟨rfl,rfl⟩
  ·have d2:decide (b<0)=false:=(by simpa using h2);by_cases h3:(n:Int)<a
   ·have d3:decide ((n:Int)<a)=true:=(by simpa using h3);clear h;go_enter Tryz.func89,Tryz.ntmps89;go_wp2_with (first|refine sL ?_|(go_at_call 95;with_reducible refine same (HV.out) ?_));go_ret;exact ⟨rfl,rfl⟩
   ·have d3:decide ((n:Int)<a)=false:=(by simpa using h3);have h4:(n:Int)-a<b:=(by omega);have d4:decide ((n:Int)-a<b)=true:=(by simpa using h4);have hw:=IntWalk.i64_in ((n:Int)-a) (by omega);clear h;go_enter Tryz.func89,Tryz.ntmps89;go_wp2_with (first|refine sL ?_|(go_at_call 95;with_reducible refine same (HV.out) ?_));go_ret;exact ⟨rfl,rfl⟩
theorem Section_ok {X:Px} {x from_ n:Nat} {s:List Tr} (hX:PxOk X) (hd:IdIs X.S x s) (hf:from_+n<=s.length) (hl:s.length<=1048576) (hroom:X.S.list.length+2*s.length<=X.S.most) (w:World) (h:PH X w) :
  Calls Tryz.prog 56 #[.pointer (some ⟨X.p,0,none⟩),.int .i64 x,.int .i64 (from_:Nat),.int .i64 (n:Nat)] w fun e w'=>∃ (X':Px) (id:Nat),e=.returned (.tuple #[.int .i64 id,.nilIface])∧X.Ext X'∧PxOk X'∧IdIs X'.S id ((s.drop from_).take n)∧X'.S.list.length<=X.S.list.length+2*s.length∧St w (pA X).fp [pA X'] w':=by
 have h:((pA X).sep deA).ho w:=h;rw [sep_ho] at h;obtain ⟨k1,k2,hdd⟩:=h;have H:=St.one k1;have HK:Ks w (pA X).fp [deA]:=⟨by simpa using k2,by simpa using fun b hb hm=>hdd b hm hb⟩
 generalize (pA X).fp=N at *;clear k1 k2 hdd;obtain ⟨ls,hls⟩:∃ n,s.length=n:=⟨_,rfl⟩
 have HCK:Hid (∀ w,((pA X).sep deA).ho w->Calls Tryz.prog 88 #[.pointer (some ⟨X.p,0,none⟩),.int .i64 x] w (PPost X (.tuple #[.int .i64 (ls:Nat),.nilIface]) (pA X).fp w)):=zh fun w h=>by have:=check_c hX hd w h;rwa [hls] at this
 have HRG:Hid (∀ w,Calls Tryz.prog 89 #[.int .i64 (from_:Nat),.int .i64 (n:Nat),.int .i64 (ls:Nat)] w fun e w'=>e=.returned .nilIface∧w'=w):=zh fun w=>range_ok from_ n ls (by omega) (by omega) w
 have H2:Hid (∀ X2:Px,X.Ext X2->PxOk X2->X2.S=X.S->∀ w,((pA X2).sep deA).ho w->Calls Tryz.prog 90 #[.pointer (some ⟨X.p,0,none⟩),.int .i64 x,.int .i64 (from_:Nat),.int .i64 (n:Nat)] w fun e w'=>∃ (X':Px) (id:Nat),e=.returned (.tuple #[.int .i64 id,.nilIface])∧X2.Ext X'∧PxOk X'∧IdIs X'.S id ((s.drop from_).take n)∧X'.S.list.length<=X2.S.list.length+2*s.length∧St w (pA X2).fp [pA X'] w'):=zh fun X2 q1 q2 q3 w h=>by
  have hm:X2.S.most=X.S.most:=q1.le.1;have hln:X2.S.list.length=X.S.list.length:=(by rw [q3]);have:=section_c q2 (by rw [q3];exact hd) hf hl (by omega) w h;rw [q1.p] at this;exact this
 have HCN:Hid (2*s.length<=2*s.length):=zh (Nat.le_refl _);clear hX hd hf hl hroom hls;go_enter Tryz.func56,Tryz.ntmps56;go_wp2_with (first|refine sL ?_|(refine sS ?_;clear H;intros;rename_i H)|(go_at_call 88;with_reducible refine zm (HCK.out _ (H.sepK HK pk pk)) ?_;rintro e9 wc ⟨X2,y1,y2,y3,rfl,hb⟩;have HY:=zh (za y1 (za y2 y3));clear y1 y2 y3;replace H:=zn ((H.pick pk).call hb);clear hb)|(go_at_call 89;with_reducible refine same (HRG.out _) ?_)|(go_at_call 90;with_reducible refine zm (H2.out X2 HY.out.1 HY.out.2.1 HY.out.2.2 _ (H.sepK HK pk pk)) ?_;rintro e9 wc ⟨X3,id3,rfl,y1,y2,y3,y4,hb⟩;have HZ:=zh (za y1 (za y2 (za y3 y4)));clear y1 y2 y3 y4;replace H:=zn ((H.pick pk).call hb);clear hb));go_ret2;exact ⟨X3,id3,rfl,HY.out.1.trans HZ.out.1,HZ.out.2.1,HZ.out.2.2.1,by have h1:=HZ.out.2.2.2;have h2:=HCN.out;rw [HY.out.2.2] at h1;omega,H.picks (.cons pk .nil)⟩
end
section
open Go.RowKit Go.Maps
attribute [local go_sem] InGr
theorem run_append_in {α:Type} {enc:α->List Value} {t e ty:TypeId} (hte:sliceO t=some e) {z:Value} {k bytes:Nat} (hi:infoO e=some (z,k,bytes)) (hz:z.cells.size=k) (hk0:0<k) (hb0:0<bytes) {v:Value} {xs:List α} {w:World} (hrow:(rowsA enc e k v xs).ho w) {P:PoolT} {u:Value} {ys:List α} (hu:RowIn P enc k u ys) (hp:(poolA P).ho w) (hk:∀ x,(enc x).length=k) (h1:∀ x,∀ u∈enc x,u.oneCell'=true) (hb:(xs.length+ys.length)*bytes<=140737488355328) (hy:0<ys.length) :
  ∃ v' w',(Builtin.append_ #[t,t] ty #[v,u]).run Tryz.prog w=.ok v' w'∧St w (rowsA enc e k v xs).fp [rowsA enc e k v' (xs++ys)] w':=by
 obtain ⟨i,h2,h3,h4,h5⟩:=infoO_ok hi;unfold rowsA at hrow ⊢;obtain ⟨ad,c,rfl,hmax,hpm⟩:=hu;obtain ⟨g,o,rfl,hm⟩:=hpm hy;have hr:=pool_rng hp hm;obtain ⟨v',w',r1,r2⟩:=run_append_st (P:=Tryz.prog) t ty e i z k bytes (sliceO_ok hte) h2 h3 h4 h5 hz hk0 v xs.length (flatG enc xs) hrow ⟨g,o,none⟩ ys.length c (flatG enc ys) (flatG_len enc k hk ys) (fun j q hj=>by rw [Addr.add_mid];exact hr j q hj) (flatG_one h1 ys) hb hb0;refine ⟨v',w',r1,?_⟩;rw [List.length_append,show flatG enc (xs++ys)=flatG enc xs++flatG enc ys by simp [flatG]];exact r2
section
variable {ops:Array Oper} {Q:Exit->Act->World->Prop} {rest:List Oper} {a:Act} {w w0:World} {M:List Nat} {L R:List As} {o1:Oper}
theorem AtSlice.zero {α:Type} (enc:α->List Value) {t e:TypeId} (H:St w0 M L w) (hw:Region.wanted o1 (yielded ops a.tmps)=true) (ho:o1.op=.buildSlice t 0 #[]) (hte:sliceO t=some e) {z:Value} {k bytes:Nat} (hi:infoO e=some (z,k,bytes)) (hk:∀ x,(enc x).length=k)
  (h:∀ b w',St w0 M (rowsA enc e k (.slice (some ⟨b,0,none⟩) 0 0) []::L) w'->wpList Tryz.prog ops Q rest (a.put o1.dst (.slice (some ⟨b,0,none⟩) 0 0)) w'):AtSlice Tryz.prog ops Q o1 t 0 #[] rest a w :=
 wpList_step fun _ hK=>by
  rw [if_pos hw];unfold Oper.wp execOp;simp only [ho,List.map_toArray,List.map_nil,Sem.run_bind,run_slice0 hte hi,Result.andThen_ok,Sem.run_pure];exact hK _ _ (h _ _ ((H.alloc (.cells #[] e)).conv (by rw [rowsA_fp',blk_fp];rfl) fun hb=>rowsA_of_blk (xs:=[]) (by rw [blk_ho] at hb;exact hb) (by simp [maxLen]) (by simp [flatG]) hk))
theorem AtAppend.pool {α:Type} {enc:α->List Value} {t e:TypeId} {x y:Operand} (H:St w0 M L w) (hw:Region.wanted o1 (yielded ops a.tmps)=true) (ho:o1.op=.call ⟨.builtin .append,#[x,y],#[t,t]⟩) (hte:sliceO t=some e) {z:Value} {k bytes:Nat} (hi:infoO e=some (z,k,bytes))
  (hz:z.cells.size=k) (hk0:0<k) (hb0:0<bytes) {v:Value} (hx:evalO a x=some v) {xs:List α} (hp:Pick L (rowsA enc e k v xs) R) {P:PoolT} {u:Value} (hy:evalO a y=some u) {ys:List α} (hu:RowIn P enc k u ys) (hpo:(poolA P).ho w) (hk:∀ x,(enc x).length=k) (h1:∀ x,∀ u∈enc x,u.oneCell'=true) (hb:(xs.length+ys.length)*bytes<=140737488355328) (hy0:0<ys.length)
  (h:∀ ad cp w',St w0 M (rowsA enc e k (.slice ad (xs.length+ys.length) cp) (xs++ys)::R) w'->wpList Tryz.prog ops Q rest (a.put o1.dst (.slice ad (xs.length+ys.length) cp)) w'):AtAppend Tryz.prog ops Q o1 t x y rest a w :=
 wpList_step fun _ hK=>by
  rw [if_pos hw];have H':=H.pick hp;obtain ⟨v',w',hr,hst⟩:=run_append_in (ty:=o1.type) hte hi hz hk0 hb0 (H'.ho _ List.mem_cons_self) hu hpo hk h1 hb hy0;unfold Oper.wp execOp;simp only [ho,resolve,invoke,builtin,Sem.run_bind,Sem.run_pure,Result.andThen_ok,List.map_toArray,List.map_cons,List.map_nil,evalO_eq hx,evalO_eq hy,hr];obtain ⟨ad,cp,rfl,_⟩:=rowsA_shape (hst.ho _ List.mem_cons_self);have hst2:=H'.call hst;simp only [List.length_append] at hst2 ⊢;exact hK _ _ (h ad cp w' hst2)
end
theorem nil_leaves (text:List Nat):Leaves (text.map Tr.leaf):=fun t ht=>by
 obtain ⟨b,_,rfl⟩:=List.mem_map.1 ht;exact ⟨b,rfl⟩
theorem of_zero {X:Px} {ad:Option Addr} {c:Nat} (w:World) (h:(pA X).ho w):Calls Tryz.prog 22 #[.pointer (some ⟨X.p,0,none⟩),.slice ad 0 c] w fun e w'=>e=.returned (.tuple #[.int .i64 0,.nilIface])∧w'=w:=by
 have HC0:=zh (pA_c0 h);clear h;go_enter Tryz.func22,Tryz.ntmps22;go_wp2_with (first|refine sL ?_|(refine sS ?_;clear H;intros;rename_i H)|((with_reducible refine isLoad ?_);refine AtLoad.cel rfl rfl rfl rfl HC0.out ?_;simp only [Act.put,puA,puB,puC]));go_ret2;exact ⟨rfl,rfl⟩
theorem of_any {X:Px} {P:PoolT} {text:List Nat} {v:Value} (hX:PxOk X) (hr:RowIn P encT 1 v text) (hb:∀ x∈text,x<256) (hlen:text.length<=65536) (hroom:X.S.list.length+2*text.length<X.S.most) (w:World) (hd:((pA X).sep deA).ho w) (hp:((pA X).sep (poolA P)).ho w) :
  Calls Tryz.prog 22 #[.pointer (some ⟨X.p,0,none⟩),v] w fun e w'=>∃ (X':Px) (id:Nat),e=.returned (.tuple #[.int .i64 id,.nilIface])∧X.Ext X'∧PxOk X'∧IdIs X'.S id (text.map Tr.leaf)∧X'.S.list.length<=X.S.list.length+2*text.length∧St w (pA X).fp [pA X'] w':=by
 rcases Nat.eq_zero_or_pos text.length with h0|h0
 ·obtain rfl:=List.eq_nil_of_length_eq_zero h0;obtain ⟨ad,c,rfl,_⟩:=hr;rw [sep_ho] at hd;refine (of_zero w hd.1).mono ?_;rintro e w' ⟨rfl,rfl⟩;exact ⟨X,0,rfl,.refl _,hX,.inl ⟨rfl,rfl⟩,by omega,St.one hd.1⟩
 ·obtain ⟨T,t1,t2,t3⟩:=canon_exists (nil_leaves text) (fun e=>by simp at e;rw [e] at h0;simp at h0) (by simp;omega);refine (of_p hX hr hb h0 hlen t1 t2 t3 w hd hp).mono ?_;rintro e w' ⟨X',q1,q2,q3,q4,q5⟩;rcases q4 with ⟨id,rfl,q6⟩|⟨_,q6⟩
  ·exact ⟨X',id,rfl,q1,q2,.inr ⟨T,q6,t1,t2⟩,q3,q5⟩
  ·have h9:X'.S.most=X.S.most:=q1.le.1;omega
end
end Go.Proofs.YtgnppnokkdghcaaGreatDoor
