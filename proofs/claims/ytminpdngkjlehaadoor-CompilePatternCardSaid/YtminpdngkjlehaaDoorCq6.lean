/-
  Part 6 of the texts behind the statements of this seat: walks and laws Lu, Ma, Mb, Mc, Md, Mf. Conditions: as each states.
-/
import Derived.Test.YtminpdngkjlehaaDoorCq5
import Derived.BigQuiet
import Derived.Deep.QuietTactic
set_option linter.unusedSimpArgs false
set_option linter.unusedVariables false
set_option maxRecDepth 100000
set_option maxHeartbeats 80000000
open Bool renaming eq_iff_iff→q5
open Go.Proofs.Tryd renaming func54→xl,func55→ye,func74→w9,func85→wD,func86→wa,func99→yI,ntmps54→x4,ntmps55→qX,ntmps74→xF,ntmps85→wg,ntmps86→xG,ntmps99→yu,prog→z6
open List renaming cons_append→z7,drop_eq_getElem_cons→wR,drop_eq_nil_of_le→Zl,drop_succ_cons→wO,drop_zero→y8,getElem?_eq_none_iff→yh,getElem?_eq_some_iff→zy,length_cons→yZ,length_drop→vW,map_cons→qU,map_nil→k6,mem_cons_self→zS,mem_of_getElem?→zc,nil_append→z8,take_of_length_le→zM,take_zero→jG
open Nat renaming le_refl→zp,lt_or_ge→zD,zero_add→qA,zero_le→zH
namespace Go.Proofs.YtminpdngkjlehaaDoor
section
open Go.RowKit Go.Maps
attribute [local go_sem] qM
theorem Ji {bp b n:Nat} {s:ByteArray} {L:List Nat} (hs:StrL s L) (hn:L.length=n) (hl:n<=262144) (w:World) (h:(blk bp (.cells #[.string s,.int .i64 (n:Nat)] 58)).ho w) :
  Calls z6 40 #[.pointer (some ⟨bp,0,none⟩),.int .u8 (b:Nat)] w fun e w'=>e=.returned (.bool false)∧St w [] [] w':=by
 have H:=St.nil w [];have HK:Ks w [] [blk bp (.cells #[.string s,.int .i64 (n:Nat)] 58)]:=Ks.one h;have hsz:=hs.size;rw [hn] at hsz;have e1:decide ((n:Int)<(n:Int))=false:=(by simp);have e1n:decide (n<n)=false:=(by simp);clear hs h hn;go_enter Tryd.func40,Tryd.ntmps40;go_wp2_with (first|refine sL ?_|(refine sS ?_;clear H;intros;rename_i H));refine zr H 23 [] [] (by kernel_rfl) (by kernel_rfl) ?_;apply Exists.intro;refine ⟨fun w1 hw1 HX=>?_,fun bs wr Hr=>?_⟩
 ·refine sG ?_;repeat (first|go_big_quiet_skip|refine sQ ?_|fail|go_big_quiet_step (fail))
  exact wpQuiet_nil rfl
 clear H;have H:=Hr;clear Hr;replace H:=sH H;refine sT ?_;go_wp2_with (first|refine sL ?_|(refine sS ?_;clear H;intros;rename_i H));go_ret;exact ⟨rfl,H⟩
theorem Kb {bp a b c:Nat} {s:ByteArray} {L:List Nat} (hs:StrL s L) (hl:L.length<=262144) (hc:L[a]?=some c) (hcb:c≠b) (w:World) (h:(blk bp (.cells #[.string s,.int .i64 (a:Nat)] 58)).ho w) :
  Calls z6 40 #[.pointer (some ⟨bp,0,none⟩),.int .u8 (b:Nat)] w fun e w'=>e=.returned (.bool false)∧St w [] [] w':=by
 have H:=St.nil w [];have HK:Ks w [] [blk bp (.cells #[.string s,.int .i64 (a:Nat)] 58)]:=Ks.one h;have hix:=hs.idx a c hc;have hsz:=hs.size;have hal:=zP hc;obtain ⟨n,hn⟩:∃ z,L.length=z:=⟨_,rfl⟩
 rw [hn] at hsz hal hl;have e1:decide ((a:Int)<(n:Int))=true:=(by simp;omega);have e1n:decide (a<n)=true:=(by simp;omega);have e2:((c:Int)==(b:Int))=false:=(by simp;omega);clear hs hc h hn hcb;go_enter Tryd.func40,Tryd.ntmps40;go_wp2_with (first|refine sL ?_|(refine sS ?_;clear H;intros;rename_i H));refine zr H 23 [] [] (by kernel_rfl) (by kernel_rfl) ?_;apply Exists.intro;refine ⟨fun w1 hw1 HX=>?_,fun bs wr Hr=>?_⟩
 ·refine sG ?_;repeat (first|go_big_quiet_skip|refine sQ ?_|fail|go_big_quiet_step (fail))
  exact wpQuiet_nil rfl
 clear H;have H:=Hr;clear Hr;replace H:=sH H;refine sT ?_;go_wp2_with (first|refine sL ?_|(refine sS ?_;clear H;intros;rename_i H));go_ret;exact ⟨rfl,H⟩
theorem vy {bp a b:Nat} {s:ByteArray} {L:List Nat} (hs:StrL s L) (hl:L.length<=262144) (ha:a<=L.length) (hb:L[a]?≠some b) (w:World) (h:(blk bp (.cells #[.string s,.int .i64 (a:Nat)] 58)).ho w) :
  Calls z6 40 #[.pointer (some ⟨bp,0,none⟩),.int .u8 (b:Nat)] w fun e w'=>e=.returned (.bool false)∧St w [] [] w':=by
 rcases zD a L.length with h1|h1
 ·have hc:L[a]?=some (L[a]'h1):=zg h1;exact Kb hs hl hc (fun e=>hb (by rw [hc,e])) w h
 ·obtain rfl:a=L.length:=by omega
  exact Ji hs rfl hl w h
theorem Ze {bp a c:Nat} {s:ByteArray} {L:List Nat} (hs:StrL s L) (hl:L.length<=262144) (hc:L[a]?=some c) (w:World) (h:(blk bp (.cells #[.string s,.int .i64 (a:Nat)] 58)).ho w) :
  Calls z6 72 #[.pointer (some ⟨bp,0,none⟩)] w fun e w'=>e=.returned (.int .u8 (c:Nat))∧St w [bp] [blk bp (.cells #[.string s,.int .i64 ((a+1:Nat):Int)] 58)] w':=by
 have H:=St.one h;rw [qi] at H;have HK:Ks w [bp] []:=Ks.nil w _;have hix:=hs.idx a c hc;have hsz:=hs.size;have hal:=zP hc;obtain ⟨n,hn⟩:∃ z,L.length=z:=⟨_,rfl⟩
 rw [hn] at hsz hal hl;have e1:((a:Int)==(n:Int))=false:=(by simp;omega);clear hs hc h hn;go_enter Tryd.func72,Tryd.ntmps72;go_wp2_with (first|refine sL ?_|(refine sS ?_;clear H;intros;rename_i H));refine zr H 10 [] [] (by kernel_rfl) (by kernel_rfl) ?_;apply Exists.intro;refine ⟨fun w1 hw1 HX=>?_,fun bs wr Hr=>?_⟩
 ·refine sG ?_;repeat (first|go_big_quiet_skip|refine sQ ?_|fail|go_big_quiet_step (fail))
  exact wpQuiet_nil rfl
 clear H;have H:=Hr;clear Hr;replace H:=sH H;refine sT ?_;go_wp2_with (first|refine sL ?_|(refine sS ?_;clear H;intros;rename_i H));refine zr H 9 [] [] (by kernel_rfl) (by kernel_rfl) ?_;apply Exists.intro;refine ⟨fun w1 hw1 HX=>?_,fun bs wr Hr=>?_⟩
 ·refine sG ?_;repeat (first|go_big_quiet_skip|refine sQ ?_|fail|go_big_quiet_step (fail))
  exact wpQuiet_nil rfl
 clear H;have H:=Hr;clear Hr;replace H:=sH H;refine sT ?_;go_wp2_with (first|refine sL ?_|(refine sS ?_;clear H;intros;rename_i H));go_ret;exact ⟨rfl,H⟩
def b4 (b k:Nat):Nat:=ofL [b] k
theorem one_c {b:Nat} (hb:b<256) (w:World) :
  Calls z6 73 #[.int .u8 (b:Nat)] w fun e w'=>e=.returned (.agg #[.int .i64 2,.int .u64 (b4 b 0:Nat),.int .u64 (b4 b 1:Nat),.int .u64 (b4 b 2:Nat),.int .u64 (b4 b 3:Nat),.int .i64 0,.int .i64 0,.slice none 0 0])∧St w [] [] w':=by
 have H:=St.nil w [];have HK:Ks w [] []:=Ks.nil w _;obtain ⟨o0,ho0⟩:∃ z,b4 b 0=z:=⟨_,rfl⟩
 obtain ⟨o1,ho1⟩:∃ z,b4 b 1=z:=⟨_,rfl⟩
 obtain ⟨o2,ho2⟩:∃ z,b4 b 2=z:=⟨_,rfl⟩
 obtain ⟨o3,ho3⟩:∃ z,b4 b 3=z:=⟨_,rfl⟩
 have hAV:AV (ofL [b])=#[.int .u64 (o0:Nat),.int .u64 (o1:Nat),.int .u64 (o2:Nat),.int .u64 (o3:Nat)]:=(by rw [wh];unfold b4 at ho0 ho1 ho2 ho3;rw [ho0,ho1,ho2,ho3]);have HOF:Hid (∀ g w,(blk g (.cells #[.int .u8 (b:Nat)] 5)).ho w->Calls z6 84 #[.slice (some ⟨g,0,none⟩) 1 1] w fun e w'=>e=.returned (.agg #[.int .u64 (o0:Nat),.int .u64 (o1:Nat),.int .u64 (o2:Nat),.int .u64 (o3:Nat)])∧Below w.heap.size w w'):=zh fun g w h=>by
  have hg:=h;rw [yB] at hg;have:=of_c [b] (by simpa using hb) (by simp) g 0 1 w (zh fun i hi=>by
   have hi0:i=0:=(by simpa using hi);subst hi0;exact cell_of_row w g 0 _ _ (0,0) hg) (lt_of_block hg)
  rw [hAV] at this;exact this
 rw [ho0,ho1,ho2,ho3];clear ho0 ho1 ho2 ho3 hAV;go_enter Tryd.func73,Tryd.ntmps73;go_wp2_with (first|refine sL ?_|(refine sS ?_;clear H;intros;rename_i H)|((with_reducible refine ym ?_);refine AtSlice.one H rfl rfl rfl rfl rfl rfl rfl rfl rfl ?_;clear H;intro b9 _ H;simp only [Act.put,puA,puB,puC])|(go_at_call 84;refine (HOF.out _ _ (H.get pk)).mono ?_;rintro e wc ⟨rfl,hb⟩;replace H:=H.grew hb;clear hb));refine bodyPost_ret (qy rfl H rfl pk rfl) rfl ?_;exact ⟨rfl,H.nix⟩
def Y6 (b:Nat):Prop:=b<256∧b≠92∧b≠46∧b≠91∧b≠40∧Lib.indexByte [92,46,91,93,40,41,123,125,124,42,43,63] b.toUInt8 = -1∧b≠124∧b≠41∧b≠42∧b≠43∧b≠63∧b≠123
theorem term_c {bp a c:Nat} {s:ByteArray} {L:List Nat} (hs:StrL s L) (hl:L.length<=262144) (hc:L[a]?=some c) (hp:Y6 c) (w:World) (h:(blk bp (.cells #[.string s,.int .i64 (a:Nat)] 58)).ho w) :
  Calls z6 54 #[.pointer (some ⟨bp,0,none⟩)] w fun e w'=>e=.returned (.agg #[.int .i64 2,.int .u64 (b4 c 0:Nat),.int .u64 (b4 c 1:Nat),.int .u64 (b4 c 2:Nat),.int .u64 (b4 c 3:Nat),.int .i64 0,.int .i64 0,.slice none 0 0])∧St w [bp] [blk bp (.cells #[.string s,.int .i64 ((a+1:Nat):Int)] 58)] w':=by
 have H:=St.one h;rw [qi] at H;have HK:Ks w [bp] []:=Ks.nil w _;have HNX:=zh (fun w h=>Ze (bp:=bp) hs hl hc w h);obtain ⟨p0,p1,p2,p3,p4,p5,_⟩:=hp;have HON:=zh (fun w=>one_c p0 w);have HIB:Hid (∀ w,Calls z6 77 #[.string ⟨#[92,46,91,93,40,41,123,125,124,42,43,63]⟩,.int .u8 (c:Nat)] w fun e w'=>e=.returned (.int .i64 (-1))∧w'=w):=zh fun w=>by
  have:=Tryd.strings_IndexByte ⟨#[92,46,91,93,40,41,123,125,124,42,43,63]⟩ (c:Int) w;rw [Int.toNat_natCast] at this;have e:Lib.indexByte (ByteArray.mk #[92,46,91,93,40,41,123,125,124,42,43,63]).data.toList c.toUInt8 = -1:=p5;rw [e] at this;exact this
 have q1:((c:Int)==92)=false:=(by simp;omega);have q2:((c:Int)==46)=false:=(by simp;omega);have q3:((c:Int)==91)=false:=(by simp;omega);have q4:((c:Int)==40)=false:=(by simp;omega);clear h hc hs p0 p1 p2 p3 p4 p5;go_enter xl,x4;go_wp2_with (first|refine sL ?_|(refine sS ?_;clear H;intros;rename_i H));refine zm (HNX.out _ (H.get pk)) ?_;rintro e wc ⟨rfl,hb⟩;rw [← qi bp (.cells #[.string s,.int .i64 (a:Nat)] 58)] at hb;replace H:=(H.pick pk).call hb;simp only [z7,z8] at H;clear hb;go_wp2_with (first|refine sL ?_|(refine sS ?_;clear H;intros;rename_i H)|(go_at_call 77;with_reducible refine zm (HIB.out _) ?_;rintro e wc ⟨rfl,rfl⟩)|(go_at_call 73;with_reducible refine zm (HON.out _) ?_;rintro e wc ⟨rfl,hb⟩;replace H:=H.grew hb.below;clear hb));refine bodyPost_ret (qy rfl H rfl pk rfl) rfl ?_;exact ⟨rfl,H.picks (.cons pk .nil)⟩
theorem Jw {bp a:Nat} {s:ByteArray} {L:List Nat} (hs:StrL s L) (hl:L.length<=262144) (ha:a<=L.length) (h1:∀ b,b=42∨b=43∨b=63∨b=123->L[a]?≠some b) (w:World) (h:(blk bp (.cells #[.string s,.int .i64 (a:Nat)] 58)).ho w) :
  Calls z6 55 #[.pointer (some ⟨bp,0,none⟩)] w fun e w'=>e=.returned (.tuple #[.int .i64 0,.int .i64 0,.bool false])∧St w [] [] w':=by
 have H:=St.nil w [];have HK:Ks w [] [blk bp (.cells #[.string s,.int .i64 (a:Nat)] 58)]:=Ks.one h;have HS:Hid (∀ b:Nat,b=42∨b=43∨b=63∨b=123->∀ w,(blk bp (.cells #[.string s,.int .i64 (a:Nat)] 58)).ho w->Calls z6 40 #[.pointer (some ⟨bp,0,none⟩),.int .u8 (b:Nat)] w fun e w'=>e=.returned (.bool false)∧St w [] [] w'):=zh fun b hb w h=>vy hs hl ha (h1 b hb) w h
 have H1:=zh (HS.out 42 (by simp));have H2:=zh (HS.out 43 (by simp));have H3:=zh (HS.out 63 (by simp));have H4:=zh (HS.out 123 (by simp));clear hs h1 h HS;go_enter ye,qX;go_wp2_with (first|refine sL ?_|(refine sS ?_;clear H;intros;rename_i H)|(go_at_call 40;with_reducible refine zm (H1.out _ (H.known HK pk)) ?_;rintro e wc ⟨rfl,hb⟩;replace H:=H.grew hb.below;clear hb)|(go_at_call 40;with_reducible refine zm (H2.out _ (H.known HK pk)) ?_;rintro e wc ⟨rfl,hb⟩;replace H:=H.grew hb.below;clear hb)|(go_at_call 40;with_reducible refine zm (H3.out _ (H.known HK pk)) ?_;rintro e wc ⟨rfl,hb⟩;replace H:=H.grew hb.below;clear hb)|(go_at_call 40;with_reducible refine zm (H4.out _ (H.known HK pk)) ?_;rintro e wc ⟨rfl,hb⟩;replace H:=H.grew hb.below;clear hb));refine bodyPost_ret (results_tmp3 rfl _ _ _) rfl ?_;exact ⟨rfl,H⟩
end
section
open Go.RowKit Go.Maps
attribute [local go_sem] qM
theorem run_panic_i {P:Program} (t:TypeId) (v:Value) (w:World):(Instr.panic (.iface t v)).run P w=.halt (.panic (.iface t v)) w:=rfl
attribute [local go_sem] run_panic_i
theorem zJ {P:Program} {fn:Func} {Q:Ending->World->Prop} {ps:List PanicEntry} {a:Act} {w:World} (hd:a.defers=[]) (h:Q (.panicked ps) w):bodyPost P fn Q (.panic ps) a w:=by
 simp [bodyPost,hd];exact h
def xS:Ending:=.panicked [{ v:=.iface 61 (.agg #[]),recovered:=false }]
abbrev paB (bp:Nat) (s:ByteArray) (a:Nat):As:=blk bp (.cells #[.string s,.int .i64 (a:Nat)] 58)
theorem vr {bp a:Nat} {s:ByteArray} {L:List Nat} (hs:StrL s L) (hl:L.length<=262144) (ha:a=L.length) (w:World) (h:(paB bp s a).ho w) :
  Calls z6 72 #[.pointer (some ⟨bp,0,none⟩)] w fun e w'=>e=xS∧St w [bp] [] w':=by
 have H:=St.one h;rw [qi] at H;have HK:Ks w [bp] []:=Ks.nil w _;have hsz:=hs.size;obtain ⟨n,hn⟩:∃ z,L.length=z:=⟨_,rfl⟩
 rw [hn] at hsz ha hl;subst ha;have e1:((a:Int)==(a:Int))=true:=(by simp);clear hs h hn;go_enter Tryd.func72,Tryd.ntmps72;go_wp2_with (first|refine sL ?_|(refine sS ?_;clear H;intros;rename_i H));refine zr H 10 [] [] (by kernel_rfl) (by kernel_rfl) ?_;apply Exists.intro;refine ⟨fun w1 hw1 HX=>?_,fun bs wr Hr=>?_⟩
 ·refine sG ?_;repeat (first|go_big_quiet_skip|refine sQ ?_|fail|go_big_quiet_step (fail))
  exact wpQuiet_nil rfl
 clear H;have H:=Hr;clear Hr;replace H:=sH H;refine sT ?_;go_wp2_with (first|refine sL ?_|(refine sS ?_;clear H;intros;rename_i H));refine zJ rfl ?_;exact ⟨rfl,H.nix⟩
def Vr (c:Nat):Option Nat:=if 48<=c∧c<=57 then some (c-48) else if 97<=c∧c<=102 then some (c-87) else if 65<=c∧c<=70 then some (c-55) else none
def PoB (w:World) (bp:Nat) (s:ByteArray) (o:Option (Nat×Nat)) (e:Ending) (w':World):Prop :=
 match o with
 |none=>e=xS∧St w [bp] [] w'
 |some (c,a)=>e=.returned (.int .u8 (c:Nat))∧St w [bp] [paB bp s a] w'
def Yl (L:List Nat) (a:Nat):Option (Nat×Nat):=match L[a]? with
 |none=>none
 |some c=>match Vr c with|none=>none|some d=>some (d,a+1)
theorem St.at1 {w0 w w':World} {M:List Nat} {L R R':List As} {bp:Nat} {o:Obj} (h:St w0 M L w) (hp:Pick L (blk bp o) R) (hb:St w [bp] R' w'):St w0 M (R'++R) w':=by
 rw [← qi bp o] at hb;exact (h.pick hp).call hb
theorem dig_c {bp a:Nat} {s:ByteArray} {L:List Nat} (hs:StrL s L) (hl:L.length<=262144) (ha:a<=L.length) (w:World) (h:(paB bp s a).ho w) :
  Calls z6 85 #[.pointer (some ⟨bp,0,none⟩)] w (PoB w bp s (Yl L a)):=by
 have H:=St.one h;rw [qi] at H;have HK:Ks w [bp] []:=Ks.nil w _;cases hc:L[a]? with
 |none =>
  have hae:a=L.length:=by
   have:=yh.1 hc;omega
  have hd:Yl L a=none:=(by unfold Yl;rw [hc]);rw [hd];have HN:=zh (fun w h=>vr (bp:=bp) hs hl hae w h);clear h hs hc hae hl ha hd;go_enter wD,wg;go_wp2_with (first|refine sL ?_|(refine sS ?_;clear H;intros;rename_i H));refine zm (HN.out _ (H.get pk)) ?_;rintro e wc ⟨rfl,hb⟩;replace H:=H.at1 (bp:=bp) pk hb;simp only [xS];refine zJ rfl ?_;exact ⟨rfl,H.nix⟩
 |some c =>
  have hcl:=hs.lt c (zc hc);have hd:Yl L a=match Vr c with|none=>none|some d=>some (d,a+1):=by unfold Yl;rw [hc]
  rw [hd];have HN:=zh (fun w h=>Ze (bp:=bp) hs hl hc w h);clear h hs hc hl ha hd;obtain ⟨D,hD⟩:∃ z,Vr c=z:=⟨_,rfl⟩
  rw [hD];unfold Vr at hD;have HD:=zh hD;clear hD;by_cases r0:c<=47
  ·have e0:decide ((48:Int)<=(c:Int))=false:=(by simp;omega);have g0:decide ((c:Int)<=(57:Int))=true:=(by simp;omega);have e1:decide ((97:Int)<=(c:Int))=false:=(by simp;omega);have g1:decide ((c:Int)<=(102:Int))=true:=(by simp;omega);have e2:decide ((65:Int)<=(c:Int))=false:=(by simp;omega);have g2:decide ((c:Int)<=(70:Int))=true:=(by simp;omega);have hd:D=none:=(by rw [← HD.out,if_neg (by omega),if_neg (by omega),if_neg (by omega)]);subst hd;go_enter wD,wg;go_wp2_with (first|refine sL ?_|(refine sS ?_;clear H;intros;rename_i H));refine zm (HN.out _ (H.get pk)) ?_;rintro e wc ⟨rfl,hb⟩;replace H:=H.at1 (bp:=bp) pk hb;clear hb;go_wp2_with (first|refine sL ?_|(refine sS ?_;clear H;intros;rename_i H));refine zJ rfl ?_;exact ⟨rfl,H.nix⟩
  ·skip
   by_cases r1:c<=57
   ·have e0:decide ((48:Int)<=(c:Int))=true:=(by simp;omega);have g0:decide ((c:Int)<=(57:Int))=true:=(by simp;omega);have e1:decide ((97:Int)<=(c:Int))=false:=(by simp;omega);have g1:decide ((c:Int)<=(102:Int))=true:=(by simp;omega);have e2:decide ((65:Int)<=(c:Int))=false:=(by simp;omega);have g2:decide ((c:Int)<=(70:Int))=true:=(by simp;omega);have hd:D=some (c-48):=(by rw [← HD.out];rw [if_pos (by omega)]);subst hd;go_enter wD,wg;go_wp2_with (first|refine sL ?_|(refine sS ?_;clear H;intros;rename_i H));refine zm (HN.out _ (H.get pk)) ?_;rintro e wc ⟨rfl,hb⟩;replace H:=H.at1 (bp:=bp) pk hb;clear hb;go_wp2_with (first|refine sL ?_|(refine sS ?_;clear H;intros;rename_i H));go_ret;exact ⟨by show Ending.returned (.int .u8 ((c:Int)-48))=_;rw [show (c:Int)-48=((c-48:Nat):Int) by omega],H⟩
   ·skip
    by_cases r2:c<=64
    ·have e0:decide ((48:Int)<=(c:Int))=true:=(by simp;omega);have g0:decide ((c:Int)<=(57:Int))=false:=(by simp;omega);have e1:decide ((97:Int)<=(c:Int))=false:=(by simp;omega);have g1:decide ((c:Int)<=(102:Int))=true:=(by simp;omega);have e2:decide ((65:Int)<=(c:Int))=false:=(by simp;omega);have g2:decide ((c:Int)<=(70:Int))=true:=(by simp;omega);have hd:D=none:=(by rw [← HD.out,if_neg (by omega),if_neg (by omega),if_neg (by omega)]);subst hd;go_enter wD,wg;go_wp2_with (first|refine sL ?_|(refine sS ?_;clear H;intros;rename_i H));refine zm (HN.out _ (H.get pk)) ?_;rintro e wc ⟨rfl,hb⟩;replace H:=H.at1 (bp:=bp) pk hb;clear hb;go_wp2_with (first|refine sL ?_|(refine sS ?_;clear H;intros;rename_i H));refine zJ rfl ?_;exact ⟨rfl,H.nix⟩
    ·skip
     by_cases r3:c<=70
     ·have e0:decide ((48:Int)<=(c:Int))=true:=(by simp;omega);have g0:decide ((c:Int)<=(57:Int))=false:=(by simp;omega);have e1:decide ((97:Int)<=(c:Int))=false:=(by simp;omega);have g1:decide ((c:Int)<=(102:Int))=true:=(by simp;omega);have e2:decide ((65:Int)<=(c:Int))=true:=(by simp;omega);have g2:decide ((c:Int)<=(70:Int))=true:=(by simp;omega);have hd:D=some (c-55):=(by rw [← HD.out];rw [if_neg (by omega),if_neg (by omega),if_pos (by omega)]);subst hd;go_enter wD,wg;go_wp2_with (first|refine sL ?_|(refine sS ?_;clear H;intros;rename_i H));refine zm (HN.out _ (H.get pk)) ?_;rintro e wc ⟨rfl,hb⟩;replace H:=H.at1 (bp:=bp) pk hb;clear hb;go_wp2_with (first|refine sL ?_|(refine sS ?_;clear H;intros;rename_i H));go_ret;exact ⟨by show Ending.returned (.int .u8 ((c:Int)-65+10))=_;rw [show (c:Int)-65+10=((c-55:Nat):Int) by omega],H⟩
     ·skip
      by_cases r4:c<=96
      ·have e0:decide ((48:Int)<=(c:Int))=true:=(by simp;omega);have g0:decide ((c:Int)<=(57:Int))=false:=(by simp;omega);have e1:decide ((97:Int)<=(c:Int))=false:=(by simp;omega);have g1:decide ((c:Int)<=(102:Int))=true:=(by simp;omega);have e2:decide ((65:Int)<=(c:Int))=true:=(by simp;omega);have g2:decide ((c:Int)<=(70:Int))=false:=(by simp;omega);have hd:D=none:=(by rw [← HD.out,if_neg (by omega),if_neg (by omega),if_neg (by omega)]);subst hd;go_enter wD,wg;go_wp2_with (first|refine sL ?_|(refine sS ?_;clear H;intros;rename_i H));refine zm (HN.out _ (H.get pk)) ?_;rintro e wc ⟨rfl,hb⟩;replace H:=H.at1 (bp:=bp) pk hb;clear hb;go_wp2_with (first|refine sL ?_|(refine sS ?_;clear H;intros;rename_i H));refine zJ rfl ?_;exact ⟨rfl,H.nix⟩
      ·skip
       by_cases r5:c<=102
       ·have e0:decide ((48:Int)<=(c:Int))=true:=(by simp;omega);have g0:decide ((c:Int)<=(57:Int))=false:=(by simp;omega);have e1:decide ((97:Int)<=(c:Int))=true:=(by simp;omega);have g1:decide ((c:Int)<=(102:Int))=true:=(by simp;omega);have e2:decide ((65:Int)<=(c:Int))=true:=(by simp;omega);have g2:decide ((c:Int)<=(70:Int))=false:=(by simp;omega);have hd:D=some (c-87):=(by rw [← HD.out];rw [if_neg (by omega),if_pos (by omega)]);subst hd;go_enter wD,wg;go_wp2_with (first|refine sL ?_|(refine sS ?_;clear H;intros;rename_i H));refine zm (HN.out _ (H.get pk)) ?_;rintro e wc ⟨rfl,hb⟩;replace H:=H.at1 (bp:=bp) pk hb;clear hb;go_wp2_with (first|refine sL ?_|(refine sS ?_;clear H;intros;rename_i H));go_ret;exact ⟨by show Ending.returned (.int .u8 ((c:Int)-97+10))=_;rw [show (c:Int)-97+10=((c-87:Nat):Int) by omega],H⟩
       ·skip
        have e0:decide ((48:Int)<=(c:Int))=true:=(by simp;omega);have g0:decide ((c:Int)<=(57:Int))=false:=(by simp;omega);have e1:decide ((97:Int)<=(c:Int))=true:=(by simp;omega);have g1:decide ((c:Int)<=(102:Int))=false:=(by simp;omega);have e2:decide ((65:Int)<=(c:Int))=true:=(by simp;omega);have g2:decide ((c:Int)<=(70:Int))=false:=(by simp;omega);have hd:D=none:=(by rw [← HD.out,if_neg (by omega),if_neg (by omega),if_neg (by omega)]);subst hd;go_enter wD,wg;go_wp2_with (first|refine sL ?_|(refine sS ?_;clear H;intros;rename_i H));refine zm (HN.out _ (H.get pk)) ?_;rintro e wc ⟨rfl,hb⟩;replace H:=H.at1 (bp:=bp) pk hb;clear hb;go_wp2_with (first|refine sL ?_|(refine sS ?_;clear H;intros;rename_i H));refine zJ rfl ?_;exact ⟨rfl,H.nix⟩
def Qa (c:Nat):Bool:=(decide (33<=c)&&decide (c<=47)) || (decide (58<=c)&&decide (c<=64)) || (decide (91<=c)&&decide (c<=96)) || (decide (123<=c)&&decide (c<=126))
theorem pun_c {c:Nat} (hcl:c<256) (w:World) :
  Calls z6 86 #[.int .u8 (c:Nat)] w fun e w'=>e=.returned (.bool (Qa c))∧St w [] [] w':=by
 have H:=St.nil w [];have HK:Ks w [] []:=Ks.nil w _;obtain ⟨D,hD⟩:∃ z,Qa c=z:=⟨_,rfl⟩
 rw [hD];have HD:=zh hD;clear hD;by_cases r0:c<=32
 ·have e0:decide ((33:Int)<=(c:Int))=false:=(by simp;omega);have g0:decide ((c:Int)<=(47:Int))=true:=(by simp;omega);have e1:decide ((58:Int)<=(c:Int))=false:=(by simp;omega);have g1:decide ((c:Int)<=(64:Int))=true:=(by simp;omega);have e2:decide ((91:Int)<=(c:Int))=false:=(by simp;omega);have g2:decide ((c:Int)<=(96:Int))=true:=(by simp;omega);have e3:decide ((123:Int)<=(c:Int))=false:=(by simp;omega);have g3:decide ((c:Int)<=(126:Int))=true:=(by simp;omega);have hd:D=false:=(by rw [← HD.out];unfold Qa;simp;omega);subst hd;go_enter wa,xG;go_wp2_with (first|refine sL ?_|(refine sS ?_;clear H;intros;rename_i H));go_ret;exact ⟨rfl,H⟩
 ·skip
  by_cases r1:c<=47
  ·have e0:decide ((33:Int)<=(c:Int))=true:=(by simp;omega);have g0:decide ((c:Int)<=(47:Int))=true:=(by simp;omega);have e1:decide ((58:Int)<=(c:Int))=false:=(by simp;omega);have g1:decide ((c:Int)<=(64:Int))=true:=(by simp;omega);have e2:decide ((91:Int)<=(c:Int))=false:=(by simp;omega);have g2:decide ((c:Int)<=(96:Int))=true:=(by simp;omega);have e3:decide ((123:Int)<=(c:Int))=false:=(by simp;omega);have g3:decide ((c:Int)<=(126:Int))=true:=(by simp;omega);have hd:D=true:=(by rw [← HD.out];unfold Qa;simp;omega);subst hd;go_enter wa,xG;go_wp2_with (first|refine sL ?_|(refine sS ?_;clear H;intros;rename_i H));go_ret;exact ⟨rfl,H⟩
  ·skip
   by_cases r2:c<=57
   ·have e0:decide ((33:Int)<=(c:Int))=true:=(by simp;omega);have g0:decide ((c:Int)<=(47:Int))=false:=(by simp;omega);have e1:decide ((58:Int)<=(c:Int))=false:=(by simp;omega);have g1:decide ((c:Int)<=(64:Int))=true:=(by simp;omega);have e2:decide ((91:Int)<=(c:Int))=false:=(by simp;omega);have g2:decide ((c:Int)<=(96:Int))=true:=(by simp;omega);have e3:decide ((123:Int)<=(c:Int))=false:=(by simp;omega);have g3:decide ((c:Int)<=(126:Int))=true:=(by simp;omega);have hd:D=false:=(by rw [← HD.out];unfold Qa;simp;omega);subst hd;go_enter wa,xG;go_wp2_with (first|refine sL ?_|(refine sS ?_;clear H;intros;rename_i H));go_ret;exact ⟨rfl,H⟩
   ·skip
    by_cases r3:c<=64
    ·have e0:decide ((33:Int)<=(c:Int))=true:=(by simp;omega);have g0:decide ((c:Int)<=(47:Int))=false:=(by simp;omega);have e1:decide ((58:Int)<=(c:Int))=true:=(by simp;omega);have g1:decide ((c:Int)<=(64:Int))=true:=(by simp;omega);have e2:decide ((91:Int)<=(c:Int))=false:=(by simp;omega);have g2:decide ((c:Int)<=(96:Int))=true:=(by simp;omega);have e3:decide ((123:Int)<=(c:Int))=false:=(by simp;omega);have g3:decide ((c:Int)<=(126:Int))=true:=(by simp;omega);have hd:D=true:=(by rw [← HD.out];unfold Qa;simp;omega);subst hd;go_enter wa,xG;go_wp2_with (first|refine sL ?_|(refine sS ?_;clear H;intros;rename_i H));go_ret;exact ⟨rfl,H⟩
    ·skip
     by_cases r4:c<=90
     ·have e0:decide ((33:Int)<=(c:Int))=true:=(by simp;omega);have g0:decide ((c:Int)<=(47:Int))=false:=(by simp;omega);have e1:decide ((58:Int)<=(c:Int))=true:=(by simp;omega);have g1:decide ((c:Int)<=(64:Int))=false:=(by simp;omega);have e2:decide ((91:Int)<=(c:Int))=false:=(by simp;omega);have g2:decide ((c:Int)<=(96:Int))=true:=(by simp;omega);have e3:decide ((123:Int)<=(c:Int))=false:=(by simp;omega);have g3:decide ((c:Int)<=(126:Int))=true:=(by simp;omega);have hd:D=false:=(by rw [← HD.out];unfold Qa;simp;omega);subst hd;go_enter wa,xG;go_wp2_with (first|refine sL ?_|(refine sS ?_;clear H;intros;rename_i H));go_ret;exact ⟨rfl,H⟩
     ·skip
      by_cases r5:c<=96
      ·have e0:decide ((33:Int)<=(c:Int))=true:=(by simp;omega);have g0:decide ((c:Int)<=(47:Int))=false:=(by simp;omega);have e1:decide ((58:Int)<=(c:Int))=true:=(by simp;omega);have g1:decide ((c:Int)<=(64:Int))=false:=(by simp;omega);have e2:decide ((91:Int)<=(c:Int))=true:=(by simp;omega);have g2:decide ((c:Int)<=(96:Int))=true:=(by simp;omega);have e3:decide ((123:Int)<=(c:Int))=false:=(by simp;omega);have g3:decide ((c:Int)<=(126:Int))=true:=(by simp;omega);have hd:D=true:=(by rw [← HD.out];unfold Qa;simp;omega);subst hd;go_enter wa,xG;go_wp2_with (first|refine sL ?_|(refine sS ?_;clear H;intros;rename_i H));go_ret;exact ⟨rfl,H⟩
      ·skip
       by_cases r6:c<=122
       ·have e0:decide ((33:Int)<=(c:Int))=true:=(by simp;omega);have g0:decide ((c:Int)<=(47:Int))=false:=(by simp;omega);have e1:decide ((58:Int)<=(c:Int))=true:=(by simp;omega);have g1:decide ((c:Int)<=(64:Int))=false:=(by simp;omega);have e2:decide ((91:Int)<=(c:Int))=true:=(by simp;omega);have g2:decide ((c:Int)<=(96:Int))=false:=(by simp;omega);have e3:decide ((123:Int)<=(c:Int))=false:=(by simp;omega);have g3:decide ((c:Int)<=(126:Int))=true:=(by simp;omega);have hd:D=false:=(by rw [← HD.out];unfold Qa;simp;omega);subst hd;go_enter wa,xG;go_wp2_with (first|refine sL ?_|(refine sS ?_;clear H;intros;rename_i H));go_ret;exact ⟨rfl,H⟩
       ·skip
        by_cases r7:c<=126
        ·have e0:decide ((33:Int)<=(c:Int))=true:=(by simp;omega);have g0:decide ((c:Int)<=(47:Int))=false:=(by simp;omega);have e1:decide ((58:Int)<=(c:Int))=true:=(by simp;omega);have g1:decide ((c:Int)<=(64:Int))=false:=(by simp;omega);have e2:decide ((91:Int)<=(c:Int))=true:=(by simp;omega);have g2:decide ((c:Int)<=(96:Int))=false:=(by simp;omega);have e3:decide ((123:Int)<=(c:Int))=true:=(by simp;omega);have g3:decide ((c:Int)<=(126:Int))=true:=(by simp;omega);have hd:D=true:=(by rw [← HD.out];unfold Qa;simp;omega);subst hd;go_enter wa,xG;go_wp2_with (first|refine sL ?_|(refine sS ?_;clear H;intros;rename_i H));go_ret;exact ⟨rfl,H⟩
        ·skip
         have e0:decide ((33:Int)<=(c:Int))=true:=(by simp;omega);have g0:decide ((c:Int)<=(47:Int))=false:=(by simp;omega);have e1:decide ((58:Int)<=(c:Int))=true:=(by simp;omega);have g1:decide ((c:Int)<=(64:Int))=false:=(by simp;omega);have e2:decide ((91:Int)<=(c:Int))=true:=(by simp;omega);have g2:decide ((c:Int)<=(96:Int))=false:=(by simp;omega);have e3:decide ((123:Int)<=(c:Int))=true:=(by simp;omega);have g3:decide ((c:Int)<=(126:Int))=false:=(by simp;omega);have hd:D=false:=(by rw [← HD.out];unfold Qa;simp;omega);subst hd;go_enter wa,xG;go_wp2_with (first|refine sL ?_|(refine sS ?_;clear H;intros;rename_i H));go_ret;exact ⟨rfl,H⟩
end
section
open Go.RowKit Go.Maps
attribute [local go_sem] qM run_panic_i
theorem hexP_lt {c d:Nat} (h:Vr c=some d):d<16:=by
 unfold Vr at h;split at h
 ·injection h with h;omega
 ·split at h
  ·injection h with h;omega
  ·split at h
   ·injection h with h;omega
   ·cases h
theorem vE {L:List Nat} {a d a2:Nat} (h:Yl L a=some (d,a2)):d<16∧a2=a+1∧a<L.length:=by
 unfold Yl at h;split at h
 ·cases h
 ·rename_i c hc;split at h
  ·cases h
  ·rename_i d' hd;injection h with h
   injection h with h1 h2
   subst h1 h2;exact ⟨hexP_lt hd,rfl,zP hc⟩
theorem or_16':∀ h l:Fin 16,bits BinOp.or IntKind.u8 ((h.val:Int)*16) (l.val:Int)=((h.val*16+l.val:Nat):Int):=by decide +kernel
theorem or_16 {h l:Nat} (h1:h<16) (h2:l<16):bits BinOp.or IntKind.u8 ((h:Int)*16) (l:Int)=((h*16+l:Nat):Int):=or_16' ⟨h,h1⟩ ⟨l,h2⟩
def XT (L:List Nat) (a:Nat):Option (Nat×Nat):=match L[a]? with
 |none=>none
 |some b=>if b=110 then some (10,a+1) else if b=116 then some (9,a+1) else if b=114 then some (13,a+1) else if b=120 then
   (match Yl L (a+1) with
   |none=>none
   |some (h,a2)=>match Yl L a2 with
    |none=>none
    |some (l,a3)=>some (h*16+l,a3))
  else if Qa b then some (b,a+1) else none
theorem esc_c {bp a:Nat} {s:ByteArray} {L:List Nat} (hs:StrL s L) (hl:L.length<=262144) (ha:a<=L.length) (w:World) (h:(paB bp s a).ho w) :
  Calls z6 74 #[.pointer (some ⟨bp,0,none⟩)] w (PoB w bp s (XT L a)):=by
 have H:=St.one h;rw [qi] at H;have HK:Ks w [bp] []:=Ks.nil w _;cases hc:L[a]? with
 |none =>
  have hae:a=L.length:=by
   have:=yh.1 hc;omega
  have hd:XT L a=none:=(by unfold XT;rw [hc]);rw [hd];have HN:=zh (fun w h=>vr (bp:=bp) hs hl hae w h);clear h hs hc hae hl ha hd;go_enter w9,xF;go_wp2_with (first|refine sL ?_|(refine sS ?_;clear H;intros;rename_i H));refine zm (HN.out _ (H.get pk)) ?_;rintro e wc ⟨rfl,hb⟩;replace H:=H.at1 (bp:=bp) pk hb;simp only [xS];refine zJ rfl ?_;exact ⟨rfl,H.nix⟩
 |some c =>
  have hcl:=hs.lt c (zc hc);have hal:=zP hc;obtain ⟨D,hD⟩:∃ z,XT L a=z:=⟨_,rfl⟩
  rw [hD];unfold XT at hD;rw [hc] at hD;simp only at hD;have HD:=zh hD;have HN:=zh (fun w h=>Ze (bp:=bp) hs hl hc w h);have HP:=zh (fun w=>pun_c hcl w);have HG1:=zh (fun w h=>dig_c (bp:=bp) (a:=a+1) hs hl (by omega) w h);have HG2:=zh (fun a2 (h2:a2<=L.length) w h=>dig_c (bp:=bp) (a:=a2) hs hl h2 w h);obtain ⟨nl,hnl⟩:∃ z,L.length=z:=⟨_,rfl⟩
  clear h hs hc hl ha hD;by_cases r1:c=110
  ·have e1:((c:Int)==110)=true:=(by simp;omega);have hd:D=some (10,a+1):=(by rw [← HD.out,if_pos r1]);subst hd;go_enter w9,xF;go_wp2_with (first|refine sL ?_|(refine sS ?_;clear H;intros;rename_i H));refine zm (HN.out _ (H.get pk)) ?_;rintro e wc ⟨rfl,hb⟩;replace H:=H.at1 (bp:=bp) pk hb;clear hb;go_wp2_with (first|refine sL ?_|(refine sS ?_;clear H;intros;rename_i H));go_ret;exact ⟨rfl,H⟩
  have e1:((c:Int)==110)=false:=(by simp;omega);by_cases r2:c=116
  ·have e2:((c:Int)==116)=true:=(by simp;omega);have hd:D=some (9,a+1):=(by rw [← HD.out,if_neg r1,if_pos r2]);subst hd;go_enter w9,xF;go_wp2_with (first|refine sL ?_|(refine sS ?_;clear H;intros;rename_i H));refine zm (HN.out _ (H.get pk)) ?_;rintro e wc ⟨rfl,hb⟩;replace H:=H.at1 (bp:=bp) pk hb;clear hb;go_wp2_with (first|refine sL ?_|(refine sS ?_;clear H;intros;rename_i H));go_ret;exact ⟨rfl,H⟩
  have e2:((c:Int)==116)=false:=(by simp;omega);by_cases r3:c=114
  ·have e3:((c:Int)==114)=true:=(by simp;omega);have hd:D=some (13,a+1):=(by rw [← HD.out,if_neg r1,if_neg r2,if_pos r3]);subst hd;go_enter w9,xF;go_wp2_with (first|refine sL ?_|(refine sS ?_;clear H;intros;rename_i H));refine zm (HN.out _ (H.get pk)) ?_;rintro e wc ⟨rfl,hb⟩;replace H:=H.at1 (bp:=bp) pk hb;clear hb;go_wp2_with (first|refine sL ?_|(refine sS ?_;clear H;intros;rename_i H));go_ret;exact ⟨rfl,H⟩
  have e3:((c:Int)==114)=false:=(by simp;omega);by_cases r4:c=120
  ·have e4:((c:Int)==120)=true:=(by simp;omega);rw [if_neg r1,if_neg r2,if_neg r3,if_pos r4] at HD;cases hg:Yl L (a+1) with
   |none =>
    have hd:D=none:=(by rw [← HD.out,hg]);subst hd;rw [hg] at HG1;clear hg;go_enter w9,xF;go_wp2_with (first|refine sL ?_|(refine sS ?_;clear H;intros;rename_i H));refine zm (HN.out _ (H.get pk)) ?_;rintro e wc ⟨rfl,hb⟩;replace H:=H.at1 (bp:=bp) pk hb;clear hb;go_wp2_with (first|refine sL ?_|(refine sS ?_;clear H;intros;rename_i H));refine zm (HG1.out _ (H.get pk)) ?_;rintro e wc ⟨rfl,hb⟩;replace H:=H.at1 (bp:=bp) pk hb;simp only [xS];refine zJ rfl ?_;exact ⟨rfl,H.nix⟩
   |some q =>
    obtain ⟨hh,a2⟩:=q;obtain ⟨h16,ha2,hal2⟩:=vE hg;have HG3:=zh (HG2.out a2 (by omega));rw [hg] at HG1;cases hg2:Yl L a2 with
    |none =>
     have hd:D=none:=(by rw [← HD.out,hg];simp only;rw [hg2]);subst hd;rw [hg2] at HG3;clear hg hg2;go_enter w9,xF;go_wp2_with (first|refine sL ?_|(refine sS ?_;clear H;intros;rename_i H));refine zm (HN.out _ (H.get pk)) ?_;rintro e wc ⟨rfl,hb⟩;replace H:=H.at1 (bp:=bp) pk hb;clear hb;go_wp2_with (first|refine sL ?_|(refine sS ?_;clear H;intros;rename_i H));refine zm (HG1.out _ (H.get pk)) ?_;rintro e wc ⟨rfl,hb⟩;replace H:=H.at1 (bp:=bp) pk hb;clear hb;go_wp2_with (first|refine sL ?_|(refine sS ?_;clear H;intros;rename_i H));refine zm (HG3.out _ (H.get pk)) ?_;rintro e wc ⟨rfl,hb⟩;replace H:=H.at1 (bp:=bp) pk hb;simp only [xS];refine zJ rfl ?_;exact ⟨rfl,H.nix⟩
    |some q =>
     obtain ⟨ll,a3⟩:=q;obtain ⟨l16,ha3,_⟩:=vE hg2;have hd:D=some (hh*16+ll,a3):=(by rw [← HD.out,hg];simp only;rw [hg2]);subst hd;rw [hg2] at HG3;clear hg hg2;go_enter w9,xF;go_wp2_with (first|refine sL ?_|(refine sS ?_;clear H;intros;rename_i H));refine zm (HN.out _ (H.get pk)) ?_;rintro e wc ⟨rfl,hb⟩;replace H:=H.at1 (bp:=bp) pk hb;clear hb;go_wp2_with (first|refine sL ?_|(refine sS ?_;clear H;intros;rename_i H));refine zm (HG1.out _ (H.get pk)) ?_;rintro e wc ⟨rfl,hb⟩;replace H:=H.at1 (bp:=bp) pk hb;clear hb;go_wp2_with (first|refine sL ?_|(refine sS ?_;clear H;intros;rename_i H));refine zm (HG3.out _ (H.get pk)) ?_;rintro e wc ⟨rfl,hb⟩;replace H:=H.at1 (bp:=bp) pk hb;clear hb;go_wp2_with (first|refine sL ?_|(refine sS ?_;clear H;intros;rename_i H));go_ret;exact ⟨by show Ending.returned (.int .u8 (bits BinOp.or IntKind.u8 ((hh:Int)*16) (ll:Int)))=_;rw [or_16 h16 l16],H⟩
  have e4:((c:Int)==120)=false:=(by simp;omega);rw [if_neg r1,if_neg r2,if_neg r3,if_neg r4] at HD;cases hp:Qa c with
  |true =>
   have hd:D=some (c,a+1):=(by rw [← HD.out,hp];rfl);subst hd;rw [hp] at HP;go_enter w9,xF;go_wp2_with (first|refine sL ?_|(refine sS ?_;clear H;intros;rename_i H));refine zm (HN.out _ (H.get pk)) ?_;rintro e wc ⟨rfl,hb⟩;replace H:=H.at1 (bp:=bp) pk hb;clear hb;go_wp2_with (first|refine sL ?_|(refine sS ?_;clear H;intros;rename_i H)|(go_at_call 86;with_reducible refine zm (HP.out _) ?_;rintro e wc ⟨rfl,hb⟩;replace H:=H.grew hb.below;clear hb));go_ret;exact ⟨rfl,H⟩
  |false =>
   have hd:D=none:=(by rw [← HD.out,hp];rfl);subst hd;rw [hp] at HP;go_enter w9,xF;go_wp2_with (first|refine sL ?_|(refine sS ?_;clear H;intros;rename_i H));refine zm (HN.out _ (H.get pk)) ?_;rintro e wc ⟨rfl,hb⟩;replace H:=H.at1 (bp:=bp) pk hb;clear hb;go_wp2_with (first|refine sL ?_|(refine sS ?_;clear H;intros;rename_i H)|(go_at_call 86;with_reducible refine zm (HP.out _) ?_;rintro e wc ⟨rfl,hb⟩;replace H:=H.grew hb.below;clear hb));refine zJ rfl ?_;exact ⟨rfl,H.nix⟩
end
section
open Go.RowKit Go.Maps
attribute [local go_sem] qM run_panic_i
def XX:List Nat->Nat->Nat->Option (Nat×Nat)
 |[],a,n=>some (n,a)
 |c::t,a,n=>if 48<=c∧c<=57 then (if 64<n*10+(c-48) then none else XX t (a+1) (n*10+(c-48))) else some (n,a)
def Yy (L:List Nat) (a:Nat):Option (Nat×Nat):=match XX (L.drop a) a 0 with
 |none=>none
 |some (n,b)=>if b=a∨(L[a]?=some 48∧a+1<b) then none else some (n,b)
theorem jz {L:List Nat} {b c:Nat} (h:L[b]?=some c):L.drop b=c::L.drop (b+1):=by
 obtain ⟨h1,h2⟩:=zy.1 h;rw [wR h1,h2]
def PoI (w:World) (bp:Nat) (s:ByteArray) (o:Option (Nat×Nat)) (e:Ending) (w':World):Prop :=
 match o with
 |none=>e=xS∧St w [bp] [] w'
 |some (n,a)=>e=.returned (.int .i64 (n:Nat))∧St w [bp] [paB bp s a] w'
def NbRel (w:World) (bp a nl:Nat) (s:ByteArray) (L:List Nat) (G:Option (Nat×Nat)) (mm:Nat) (v4:Value) (wr:World):Prop :=
 ∃ b n:Nat,mm=nl-b∧a<=b∧b<=nl∧n<=64∧v4=.int .i64 (n:Nat)∧XX (L.drop b) b n=G∧St w [bp] [paB bp s b] wr
theorem num_c {bp a:Nat} {s:ByteArray} {L:List Nat} (hs:StrL s L) (hl:L.length<=262144) (ha:a<=L.length) (w:World) (h:(paB bp s a).ho w) :
  Calls z6 78 #[.pointer (some ⟨bp,0,none⟩)] w (PoI w bp s (Yy L a)):=by
 have H:=St.one h;rw [qi] at H;have HK:Ks w [bp] []:=Ks.nil w _;obtain ⟨G,hG⟩:∃ z,XX (L.drop a) a 0=z:=⟨_,rfl⟩
 obtain ⟨D,hD⟩:∃ z,Yy L a=z:=⟨_,rfl⟩
 rw [hD];unfold Yy at hD;rw [hG] at hD;obtain ⟨nl,hnl⟩:∃ z,L.length=z:=⟨_,rfl⟩
 have hsz:=hs.size;rw [hnl] at hsz hl ha;have HL:=zh (za hs (za hnl hD));have HG:=zh hG;clear h hs hnl hD hG;go_enter Tryd.func78,Tryd.ntmps78;go_wp2_with (first|refine sL ?_|(refine sS ?_;clear H;intros;rename_i H));go_loopg [4] (nl-a) (fun mm v4 wr=>NbRel w bp a nl s L G mm v4 wr);case atStart=>exact ⟨a,0,rfl,zp _,ha,zH _,rfl,HG.out,H⟩
 case round =>
  clear H HG;obtain ⟨b,n,rfl,hab,hbn,hn64,rfl,hG,H⟩:=hrel;cases hc:L[b]? with
  |none =>
   have hbe:b=nl:=by
    have h1:=yh.1 hc;rw [HL.out.2.1] at h1;omega
   subst hbe;have e1:decide ((b:Int)<(b:Int))=false:=(by simp);have e1n:decide (b<b)=false:=(by simp);have hGN:some (n,b)=G:=by
    have h0:L.drop b=[]:=Zl (by rw [HL.out.2.1];omega);rw [h0,XX] at hG;exact hG
   have HGN:=zh hGN;clear hGN hG hc;have HHD:=zh HL.out.2.2;rw [← HGN.out] at HHD;by_cases q1:b=a
   ·subst q1;have hd:D=none:=(by rw [← HHD.out];simp);subst hd;have e5:((b:Int)==(b:Int))=true:=(by simp);clear HHD;go_wp2_with (first|refine sL ?_|(refine sS ?_;clear H;intros;rename_i H));refine zr H 34 [] [] (by kernel_rfl) (by kernel_rfl) ?_;apply Exists.intro;refine ⟨fun w1 hw1 HX=>?_,fun bs wr Hr=>?_⟩
    ·refine sG ?_;repeat (first|go_big_quiet_skip|refine sQ ?_|fail|go_big_quiet_step (fail))
     exact wpQuiet_nil rfl
    clear H;have H:=Hr;clear Hr;replace H:=sH H;refine sT ?_;go_wp2_with (first|refine sL ?_|(refine sS ?_;clear H;intros;rename_i H));refine zJ rfl ?_;exact ⟨rfl,H.nix⟩
   have e5:((b:Int)==(a:Int))=false:=(by simp;omega);obtain ⟨c0,hc0⟩:∃ c0,L[a]?=some c0:=⟨_,zg (by rw [HL.out.2.1];omega)⟩
   have hix0:=HL.out.1.idx a c0 hc0;by_cases q2:c0=48
   ·subst q2;have e6:((48:Int)==48)=true:=(by simp);by_cases q3:a+1<b
    ·have e7:decide ((a:Int)+1<(b:Int))=true:=(by simp;omega);have hd:D=none:=(by rw [← HHD.out];simp [hc0,q3]);subst hd;clear HHD hc0;go_wp2_with (first|refine sL ?_|(refine sS ?_;clear H;intros;rename_i H));refine zr H 34 [] [] (by kernel_rfl) (by kernel_rfl) ?_;apply Exists.intro;refine ⟨fun w1 hw1 HX=>?_,fun bs wr Hr=>?_⟩
     ·refine sG ?_;repeat (first|go_big_quiet_skip|refine sQ ?_|fail|go_big_quiet_step (fail))
      exact wpQuiet_nil rfl
     clear H;have H:=Hr;clear Hr;replace H:=sH H;refine sT ?_;go_wp2_with (first|refine sL ?_|(refine sS ?_;clear H;intros;rename_i H));refine zJ rfl ?_;exact ⟨rfl,H.nix⟩
    ·have e7:decide ((a:Int)+1<(b:Int))=false:=(by simp;omega);have hd:D=some (n,b):=(by rw [← HHD.out];simp [q1,q3]);subst hd;clear HHD hc0;go_wp2_with (first|refine sL ?_|(refine sS ?_;clear H;intros;rename_i H));refine zr H 34 [] [] (by kernel_rfl) (by kernel_rfl) ?_;apply Exists.intro;refine ⟨fun w1 hw1 HX=>?_,fun bs wr Hr=>?_⟩
     ·refine sG ?_;repeat (first|go_big_quiet_skip|refine sQ ?_|fail|go_big_quiet_step (fail))
      exact wpQuiet_nil rfl
     clear H;have H:=Hr;clear Hr;replace H:=sH H;refine sT ?_;go_wp2_with (first|refine sL ?_|(refine sS ?_;clear H;intros;rename_i H));go_ret;exact ⟨rfl,H⟩
   ·have e6:((c0:Int)==48)=false:=(by simp;omega);have hd:D=some (n,b):=(by rw [← HHD.out];simp [q1,hc0,q2]);subst hd;clear HHD hc0;go_wp2_with (first|refine sL ?_|(refine sS ?_;clear H;intros;rename_i H));refine zr H 34 [] [] (by kernel_rfl) (by kernel_rfl) ?_;apply Exists.intro;refine ⟨fun w1 hw1 HX=>?_,fun bs wr Hr=>?_⟩
    ·refine sG ?_;repeat (first|go_big_quiet_skip|refine sQ ?_|fail|go_big_quiet_step (fail))
     exact wpQuiet_nil rfl
    clear H;have H:=Hr;clear Hr;replace H:=sH H;refine sT ?_;go_wp2_with (first|refine sL ?_|(refine sS ?_;clear H;intros;rename_i H));go_ret;exact ⟨rfl,H⟩
  |some c =>
   have hcl:=HL.out.1.lt c (zc hc);have hix:=HL.out.1.idx b c hc;have hbl:b<nl:=(by have:=zP hc;rw [HL.out.2.1] at this;exact this);have e1:decide ((b:Int)<(nl:Int))=true:=(by simp;omega);have e1n:decide (b<nl)=true:=(by simp;omega);rw [jz hc,XX] at hG;have HGN:=zh hG;have HN:=zh (fun w h=>Ze (bp:=bp) HL.out.1 (by rw [HL.out.2.1];exact hl) hc w h);clear hG hc;by_cases r1:48<=c
   ·have e2:decide ((48:Int)<=(c:Int))=true:=(by simp;omega);by_cases r2:c<=57
    ·have e3:decide ((c:Int)<=57)=true:=(by simp;omega);rw [if_pos ⟨r1,r2⟩] at HGN;by_cases r3:64<n*10+(c-48)
     ·rw [if_pos r3] at HGN;have e4:decide (64<(n:Int)*10+((c:Int)-48))=true:=(by simp;omega);have hd:D=none:=(by rw [← HL.out.2.2,← HGN.out]);subst hd;go_wp2_with (first|refine sL ?_|(refine sS ?_;clear H;intros;rename_i H));refine zr H 34 [] [] (by kernel_rfl) (by kernel_rfl) ?_;apply Exists.intro;refine ⟨fun w1 hw1 HX=>?_,fun bs wr Hr=>?_⟩
      ·refine sG ?_;repeat (first|go_big_quiet_skip|refine sQ ?_|fail|go_big_quiet_step (fail))
       exact wpQuiet_nil rfl
      clear H;have H:=Hr;clear Hr;replace H:=sH H;refine sT ?_;go_wp2_with (first|refine sL ?_|(refine sS ?_;clear H;intros;rename_i H));refine zm (HN.out _ (H.get pk)) ?_;rintro e wc ⟨rfl,hb⟩;replace H:=H.at1 (bp:=bp) pk hb;clear hb;go_wp2_with (first|refine sL ?_|(refine sS ?_;clear H;intros;rename_i H));refine zJ rfl ?_;exact ⟨rfl,H.nix⟩
     ·rw [if_neg r3] at HGN;have e4:decide (64<(n:Int)*10+((c:Int)-48))=false:=(by simp;omega);go_wp2_with (first|refine sL ?_|(refine sS ?_;clear H;intros;rename_i H));refine zr H 34 [] [] (by kernel_rfl) (by kernel_rfl) ?_;apply Exists.intro;refine ⟨fun w1 hw1 HX=>?_,fun bs wr Hr=>?_⟩
      ·refine sG ?_;repeat (first|go_big_quiet_skip|refine sQ ?_|fail|go_big_quiet_step (fail))
       exact wpQuiet_nil rfl
      clear H;have H:=Hr;clear Hr;replace H:=sH H;refine sT ?_;go_wp2_with (first|refine sL ?_|(refine sS ?_;clear H;intros;rename_i H));refine zm (HN.out _ (H.get pk)) ?_;rintro e wc ⟨rfl,hb⟩;replace H:=H.at1 (bp:=bp) pk hb;clear hb;go_wp2_with (first|refine sL ?_|(refine sS ?_;clear H;intros;rename_i H));go_roundg (nl-(b+1));case measure=>omega
      case rel=>exact ⟨b+1,n*10+(c-48),rfl,by omega,by omega,by omega,by rw [show (n:Int)*10+((c:Int)-48)=((n*10+(c-48):Nat):Int) by omega],HGN.out,H.picks (.cons pk .nil)⟩
    ·have e3:decide ((c:Int)<=57)=false:=(by simp;omega);rw [if_neg (fun h=>r2 h.2)] at HGN;have HHD:=zh HL.out.2.2;rw [← HGN.out] at HHD;by_cases q1:b=a
     ·subst q1;have hd:D=none:=(by rw [← HHD.out];simp);subst hd;have e5:((b:Int)==(b:Int))=true:=(by simp);clear HHD;go_wp2_with (first|refine sL ?_|(refine sS ?_;clear H;intros;rename_i H));refine zr H 34 [] [] (by kernel_rfl) (by kernel_rfl) ?_;apply Exists.intro;refine ⟨fun w1 hw1 HX=>?_,fun bs wr Hr=>?_⟩
      ·refine sG ?_;repeat (first|go_big_quiet_skip|refine sQ ?_|fail|go_big_quiet_step (fail))
       exact wpQuiet_nil rfl
      clear H;have H:=Hr;clear Hr;replace H:=sH H;refine sT ?_;go_wp2_with (first|refine sL ?_|(refine sS ?_;clear H;intros;rename_i H));refine zJ rfl ?_;exact ⟨rfl,H.nix⟩
     have e5:((b:Int)==(a:Int))=false:=(by simp;omega);obtain ⟨c0,hc0⟩:∃ c0,L[a]?=some c0:=⟨_,zg (by rw [HL.out.2.1];omega)⟩
     have hix0:=HL.out.1.idx a c0 hc0;by_cases q2:c0=48
     ·subst q2;have e6:((48:Int)==48)=true:=(by simp);by_cases q3:a+1<b
      ·have e7:decide ((a:Int)+1<(b:Int))=true:=(by simp;omega);have hd:D=none:=(by rw [← HHD.out];simp [hc0,q3]);subst hd;clear HHD hc0;go_wp2_with (first|refine sL ?_|(refine sS ?_;clear H;intros;rename_i H));refine zr H 34 [] [] (by kernel_rfl) (by kernel_rfl) ?_;apply Exists.intro;refine ⟨fun w1 hw1 HX=>?_,fun bs wr Hr=>?_⟩
       ·refine sG ?_;repeat (first|go_big_quiet_skip|refine sQ ?_|fail|go_big_quiet_step (fail))
        exact wpQuiet_nil rfl
       clear H;have H:=Hr;clear Hr;replace H:=sH H;refine sT ?_;go_wp2_with (first|refine sL ?_|(refine sS ?_;clear H;intros;rename_i H));refine zJ rfl ?_;exact ⟨rfl,H.nix⟩
      ·have e7:decide ((a:Int)+1<(b:Int))=false:=(by simp;omega);have hd:D=some (n,b):=(by rw [← HHD.out];simp [q1,q3]);subst hd;clear HHD hc0;go_wp2_with (first|refine sL ?_|(refine sS ?_;clear H;intros;rename_i H));refine zr H 34 [] [] (by kernel_rfl) (by kernel_rfl) ?_;apply Exists.intro;refine ⟨fun w1 hw1 HX=>?_,fun bs wr Hr=>?_⟩
       ·refine sG ?_;repeat (first|go_big_quiet_skip|refine sQ ?_|fail|go_big_quiet_step (fail))
        exact wpQuiet_nil rfl
       clear H;have H:=Hr;clear Hr;replace H:=sH H;refine sT ?_;go_wp2_with (first|refine sL ?_|(refine sS ?_;clear H;intros;rename_i H));go_ret;exact ⟨rfl,H⟩
     ·have e6:((c0:Int)==48)=false:=(by simp;omega);have hd:D=some (n,b):=(by rw [← HHD.out];simp [q1,hc0,q2]);subst hd;clear HHD hc0;go_wp2_with (first|refine sL ?_|(refine sS ?_;clear H;intros;rename_i H));refine zr H 34 [] [] (by kernel_rfl) (by kernel_rfl) ?_;apply Exists.intro;refine ⟨fun w1 hw1 HX=>?_,fun bs wr Hr=>?_⟩
      ·refine sG ?_;repeat (first|go_big_quiet_skip|refine sQ ?_|fail|go_big_quiet_step (fail))
       exact wpQuiet_nil rfl
      clear H;have H:=Hr;clear Hr;replace H:=sH H;refine sT ?_;go_wp2_with (first|refine sL ?_|(refine sS ?_;clear H;intros;rename_i H));go_ret;exact ⟨rfl,H⟩
   ·have e2:decide ((48:Int)<=(c:Int))=false:=(by simp;omega);rw [if_neg (fun h=>r1 h.1)] at HGN;have HHD:=zh HL.out.2.2;rw [← HGN.out] at HHD;by_cases q1:b=a
    ·subst q1;have hd:D=none:=(by rw [← HHD.out];simp);subst hd;have e5:((b:Int)==(b:Int))=true:=(by simp);clear HHD;go_wp2_with (first|refine sL ?_|(refine sS ?_;clear H;intros;rename_i H));refine zr H 34 [] [] (by kernel_rfl) (by kernel_rfl) ?_;apply Exists.intro;refine ⟨fun w1 hw1 HX=>?_,fun bs wr Hr=>?_⟩
     ·refine sG ?_;repeat (first|go_big_quiet_skip|refine sQ ?_|fail|go_big_quiet_step (fail))
      exact wpQuiet_nil rfl
     clear H;have H:=Hr;clear Hr;replace H:=sH H;refine sT ?_;go_wp2_with (first|refine sL ?_|(refine sS ?_;clear H;intros;rename_i H));refine zJ rfl ?_;exact ⟨rfl,H.nix⟩
    have e5:((b:Int)==(a:Int))=false:=(by simp;omega);obtain ⟨c0,hc0⟩:∃ c0,L[a]?=some c0:=⟨_,zg (by rw [HL.out.2.1];omega)⟩
    have hix0:=HL.out.1.idx a c0 hc0;by_cases q2:c0=48
    ·subst q2;have e6:((48:Int)==48)=true:=(by simp);by_cases q3:a+1<b
     ·have e7:decide ((a:Int)+1<(b:Int))=true:=(by simp;omega);have hd:D=none:=(by rw [← HHD.out];simp [hc0,q3]);subst hd;clear HHD hc0;go_wp2_with (first|refine sL ?_|(refine sS ?_;clear H;intros;rename_i H));refine zr H 34 [] [] (by kernel_rfl) (by kernel_rfl) ?_;apply Exists.intro;refine ⟨fun w1 hw1 HX=>?_,fun bs wr Hr=>?_⟩
      ·refine sG ?_;repeat (first|go_big_quiet_skip|refine sQ ?_|fail|go_big_quiet_step (fail))
       exact wpQuiet_nil rfl
      clear H;have H:=Hr;clear Hr;replace H:=sH H;refine sT ?_;go_wp2_with (first|refine sL ?_|(refine sS ?_;clear H;intros;rename_i H));refine zJ rfl ?_;exact ⟨rfl,H.nix⟩
     ·have e7:decide ((a:Int)+1<(b:Int))=false:=(by simp;omega);have hd:D=some (n,b):=(by rw [← HHD.out];simp [q1,q3]);subst hd;clear HHD hc0;go_wp2_with (first|refine sL ?_|(refine sS ?_;clear H;intros;rename_i H));refine zr H 34 [] [] (by kernel_rfl) (by kernel_rfl) ?_;apply Exists.intro;refine ⟨fun w1 hw1 HX=>?_,fun bs wr Hr=>?_⟩
      ·refine sG ?_;repeat (first|go_big_quiet_skip|refine sQ ?_|fail|go_big_quiet_step (fail))
       exact wpQuiet_nil rfl
      clear H;have H:=Hr;clear Hr;replace H:=sH H;refine sT ?_;go_wp2_with (first|refine sL ?_|(refine sS ?_;clear H;intros;rename_i H));go_ret;exact ⟨rfl,H⟩
    ·have e6:((c0:Int)==48)=false:=(by simp;omega);have hd:D=some (n,b):=(by rw [← HHD.out];simp [q1,hc0,q2]);subst hd;clear HHD hc0;go_wp2_with (first|refine sL ?_|(refine sS ?_;clear H;intros;rename_i H));refine zr H 34 [] [] (by kernel_rfl) (by kernel_rfl) ?_;apply Exists.intro;refine ⟨fun w1 hw1 HX=>?_,fun bs wr Hr=>?_⟩
     ·refine sG ?_;repeat (first|go_big_quiet_skip|refine sQ ?_|fail|go_big_quiet_step (fail))
      exact wpQuiet_nil rfl
     clear H;have H:=Hr;clear Hr;replace H:=sH H;refine sT ?_;go_wp2_with (first|refine sL ?_|(refine sS ?_;clear H;intros;rename_i H));go_ret;exact ⟨rfl,H⟩
end
section
open Go.RowKit Go.Maps
attribute [local go_sem] qM run_panic_i
theorem KU:∀ {t:List Nat} {a n m b:Nat},XX t a n=some (m,b)->n<=64->a<=b∧b<=a+t.length∧m<=64
 |[],a,n,m,b,h,hn=>by
  rw [XX] at h;injection h with h
  injection h with h1 h2
  subst h1 h2;exact ⟨zp _,by simp,hn⟩
 |c::t,a,n,m,b,h,hn=>by
  rw [XX] at h;split at h
  ·split at h
   ·cases h
   ·obtain ⟨h1,h2,h3⟩:=KU h (by omega);simp only [yZ];omega
  ·injection h with h
   injection h with h1 h2
   subst h1 h2;exact ⟨zp _,by simp,hn⟩
theorem vO {L:List Nat} {a n b:Nat} (h:Yy L a=some (n,b)) (ha:a<=L.length):a<=b∧b<=L.length∧n<=64:=by
 unfold Yy at h;split at h
 ·cases h
 ·rename_i n' b' hd;split at h
  ·cases h
  ·injection h with h
   injection h with h1 h2
   subst h1 h2;obtain ⟨g1,g2,g3⟩:=KU hd (by omega);rw [vW] at g2;omega
def Q1 (L:List Nat) (lo b:Nat):Option (Int×Nat) :=
 if L[b]?=some 44 then (if b+1<L.length∧L[b+1]?≠some 125 then (match Yy L (b+1) with|none=>none|some (h,c)=>some ((h:Int),c)) else some (-1,b+1)) else some ((lo:Int),b)
def XP (L:List Nat) (a:Nat):Option (Option (Nat×Int)×Nat) :=
 if L[a]?=some 42 then some (some (0,-1),a+1) else if L[a]?=some 43 then some (some (1,-1),a+1) else if L[a]?=some 63 then some (some (0,1),a+1) else if L[a]?≠some 123 then some (none,a) else
 match Yy L (a+1) with
 |none=>none
 |some (lo,b)=>match Q1 L lo b with
  |none=>none
  |some (hi,c)=>if L[c]?=some 125∧¬ (0<=hi∧hi<lo) then some (some (lo,hi),c+1) else none
def PoC (w:World) (bp:Nat) (s:ByteArray) (o:Option (Option (Nat×Int)×Nat)) (e:Ending) (w':World):Prop :=
 match o with
 |none=>e=xS∧St w [bp] [] w'
 |some (none,a)=>e=.returned (.tuple #[.int .i64 0,.int .i64 0,.bool false])∧St w [bp] [paB bp s a] w'
 |some (some (lo,hi),a)=>e=.returned (.tuple #[.int .i64 (lo:Nat),.int .i64 hi,.bool true])∧St w [bp] [paB bp s a] w'
theorem cnt_c {bp a:Nat} {s:ByteArray} {L:List Nat} (hs:StrL s L) (hl:L.length<=262144) (ha:a<=L.length) (w:World) (h:(paB bp s a).ho w) :
    Calls z6 55 #[.pointer (some ⟨bp,0,none⟩)] w (PoC w bp s (XP L a)):=by
  have H:=St.one h;rw [qi] at H;have HK:Ks w [bp] []:=Ks.nil w _;obtain ⟨D,hD⟩:∃ z,XP L a=z:=⟨_,rfl⟩
  rw [hD];unfold XP at hD;have HD:=zh hD;have HY:Hid (∀ (q ch:Nat),L[q]?=some ch->∀ w,(paB bp s q).ho w->Calls z6 40 #[.pointer (some ⟨bp,0,none⟩),.int .u8 (ch:Nat)] w fun e w'=>e=.returned (.bool true)∧St w [bp] [paB bp s (q+1)] w'):=zh fun q ch hq w h=>ZP hs hl hq w h
  have HN:Hid (∀ (q ch:Nat),q<=L.length->L[q]?≠some ch->∀ w,(paB bp s q).ho w->Calls z6 40 #[.pointer (some ⟨bp,0,none⟩),.int .u8 (ch:Nat)] w fun e w'=>e=.returned (.bool false)∧St w [] [] w'):=zh fun q ch hq hc w h=>vy hs hl hq hc w h
  have HM:Hid (∀ (q:Nat),q<=L.length->∀ w,(paB bp s q).ho w->Calls z6 78 #[.pointer (some ⟨bp,0,none⟩)] w (PoI w bp s (Yy L q))):=zh fun q hq w h=>num_c hs hl hq w h
  have HS:=zh (za hs hs.size);clear h hs hD;by_cases r42:L[a]?=some 42
  · have hd:D=some (some (0,-1),a+1):=(by rw [← HD.out,if_pos r42]);subst hd;have Y:=zh (HY.out a 42 r42);clear HY HN HM HD;(try clear hcH)
    (try clear hb1)
    (try clear hc9)
    (try clear r42)
    (try clear r43)
    (try clear r63)
    (try clear r123')
    (try clear r123)
    (try clear hal)
    (try clear r44)
    (try clear r125)
    (try clear r9)
    (try clear r6)
    (try clear r5)
    go_enter ye,qX;go_wp2_with (first|refine sL ?_|(refine sS ?_;clear H;intros;rename_i H));refine zm (Y.out _ (H.get (A:=paB bp s (a)) pk)) ?_;rintro e wc ⟨rfl,hb⟩;replace H:=H.at1 (bp:=bp) pk hb;simp only [z7,z8] at H;clear hb;go_wp2_with (first|refine sL ?_|(refine sS ?_;clear H;intros;rename_i H));refine bodyPost_ret (results_tmp3 rfl _ _ _) rfl ?_;exact ⟨rfl,H.picks (.cons pk .nil)⟩
  by_cases r43:L[a]?=some 43
  · have hd:D=some (some (1,-1),a+1):=(by rw [← HD.out,if_neg r42,if_pos r43]);subst hd;have Y:=zh (HY.out a 43 r43);have N42:=zh (HN.out a 42 ha r42);clear HY HN HM HD;(try clear hcH)
    (try clear hb1)
    (try clear hc9)
    (try clear r42)
    (try clear r43)
    (try clear r63)
    (try clear r123')
    (try clear r123)
    (try clear hal)
    (try clear r44)
    (try clear r125)
    (try clear r9)
    (try clear r6)
    (try clear r5)
    go_enter ye,qX;go_wp2_with (first|refine sL ?_|(refine sS ?_;clear H;intros;rename_i H)|(go_at_call 40;with_reducible refine zm (N42.out _ (H.get (A:=paB bp s (a)) pk)) ?_;rintro e wc ⟨rfl,hb⟩;replace H:=H.grew hb.below;clear hb));refine zm (Y.out _ (H.get (A:=paB bp s (a)) pk)) ?_;rintro e wc ⟨rfl,hb⟩;replace H:=H.at1 (bp:=bp) pk hb;simp only [z7,z8] at H;clear hb;go_wp2_with (first|refine sL ?_|(refine sS ?_;clear H;intros;rename_i H));refine bodyPost_ret (results_tmp3 rfl _ _ _) rfl ?_;exact ⟨rfl,H.picks (.cons pk .nil)⟩
  by_cases r63:L[a]?=some 63
  · have hd:D=some (some (0,1),a+1):=(by rw [← HD.out,if_neg r42,if_neg r43,if_pos r63]);subst hd;have Y:=zh (HY.out a 63 r63);have N42:=zh (HN.out a 42 ha r42);have N43:=zh (HN.out a 43 ha r43);clear HY HN HM HD;(try clear hcH)
    (try clear hb1)
    (try clear hc9)
    (try clear r42)
    (try clear r43)
    (try clear r63)
    (try clear r123')
    (try clear r123)
    (try clear hal)
    (try clear r44)
    (try clear r125)
    (try clear r9)
    (try clear r6)
    (try clear r5)
    go_enter ye,qX;go_wp2_with (first|refine sL ?_|(refine sS ?_;clear H;intros;rename_i H)|(go_at_call 40;with_reducible refine zm (N42.out _ (H.get (A:=paB bp s (a)) pk)) ?_;rintro e wc ⟨rfl,hb⟩;replace H:=H.grew hb.below;clear hb)|(go_at_call 40;with_reducible refine zm (N43.out _ (H.get (A:=paB bp s (a)) pk)) ?_;rintro e wc ⟨rfl,hb⟩;replace H:=H.grew hb.below;clear hb));refine zm (Y.out _ (H.get (A:=paB bp s (a)) pk)) ?_;rintro e wc ⟨rfl,hb⟩;replace H:=H.at1 (bp:=bp) pk hb;simp only [z7,z8] at H;clear hb;go_wp2_with (first|refine sL ?_|(refine sS ?_;clear H;intros;rename_i H));refine bodyPost_ret (results_tmp3 rfl _ _ _) rfl ?_;exact ⟨rfl,H.picks (.cons pk .nil)⟩
  by_cases r123:L[a]?≠some 123
  · have hd:D=some (none,a):=(by rw [← HD.out,if_neg r42,if_neg r43,if_neg r63,if_pos r123]);subst hd;have N42:=zh (HN.out a 42 ha r42);have N43:=zh (HN.out a 43 ha r43);have N63:=zh (HN.out a 63 ha r63);have N123:=zh (HN.out a 123 ha r123);clear HY HN HM HD;(try clear hcH)
    (try clear hb1)
    (try clear hc9)
    (try clear r42)
    (try clear r43)
    (try clear r63)
    (try clear r123')
    (try clear r123)
    (try clear hal)
    (try clear r44)
    (try clear r125)
    (try clear r9)
    (try clear r6)
    (try clear r5)
    go_enter ye,qX;go_wp2_with (first|refine sL ?_|(refine sS ?_;clear H;intros;rename_i H)|(go_at_call 40;with_reducible refine zm (N42.out _ (H.get (A:=paB bp s (a)) pk)) ?_;rintro e wc ⟨rfl,hb⟩;replace H:=H.grew hb.below;clear hb)|(go_at_call 40;with_reducible refine zm (N43.out _ (H.get (A:=paB bp s (a)) pk)) ?_;rintro e wc ⟨rfl,hb⟩;replace H:=H.grew hb.below;clear hb)|(go_at_call 40;with_reducible refine zm (N63.out _ (H.get (A:=paB bp s (a)) pk)) ?_;rintro e wc ⟨rfl,hb⟩;replace H:=H.grew hb.below;clear hb)|(go_at_call 40;with_reducible refine zm (N123.out _ (H.get (A:=paB bp s (a)) pk)) ?_;rintro e wc ⟨rfl,hb⟩;replace H:=H.grew hb.below;clear hb));refine bodyPost_ret (results_tmp3 rfl _ _ _) rfl ?_;exact ⟨rfl,H.picks (.cons pk .nil)⟩
  rw [if_neg r42,if_neg r43,if_neg r63,if_neg r123] at HD;have r123':L[a]?=some 123:=by
    cases hh:L[a]? with
    | none=>exact absurd (by rw [hh];simp) r123
    | some z => by_cases hz : z = 123
                · rw [hz]
                · exact absurd (by rw [hh];simp [hz]) r123
  have hal:=zP r123';have Y:=zh (HY.out a 123 r123');have N42:=zh (HN.out a 42 ha r42);have N43:=zh (HN.out a 43 ha r43);have N63:=zh (HN.out a 63 ha r63);have M1:=zh (HM.out (a+1) (by omega));cases g1:Yy L (a+1) with
  | none =>
    rw [g1] at HD M1;have hd:D=none:=HD.out.symm;subst hd;clear HY HN HM HD;(try clear hcH)
    (try clear hb1)
    (try clear hc9)
    (try clear r42)
    (try clear r43)
    (try clear r63)
    (try clear r123')
    (try clear r123)
    (try clear hal)
    (try clear r44)
    (try clear r125)
    (try clear r9)
    (try clear r6)
    (try clear r5)
    go_enter ye,qX;go_wp2_with (first|refine sL ?_|(refine sS ?_;clear H;intros;rename_i H)|(go_at_call 40;with_reducible refine zm (N42.out _ (H.get (A:=paB bp s (a)) pk)) ?_;rintro e wc ⟨rfl,hb⟩;replace H:=H.grew hb.below;clear hb)|(go_at_call 40;with_reducible refine zm (N43.out _ (H.get (A:=paB bp s (a)) pk)) ?_;rintro e wc ⟨rfl,hb⟩;replace H:=H.grew hb.below;clear hb)|(go_at_call 40;with_reducible refine zm (N63.out _ (H.get (A:=paB bp s (a)) pk)) ?_;rintro e wc ⟨rfl,hb⟩;replace H:=H.grew hb.below;clear hb));refine zm (Y.out _ (H.get (A:=paB bp s (a)) pk)) ?_;rintro e wc ⟨rfl,hb⟩;replace H:=H.at1 (bp:=bp) pk hb;simp only [z7,z8] at H;clear hb;go_wp2_with (first|refine sL ?_|(refine sS ?_;clear H;intros;rename_i H));refine zm (M1.out _ (H.get (A:=paB bp s (a+1)) pk)) ?_;rintro e wc ⟨rfl,hb⟩;replace H:=H.at1 (bp:=bp) pk hb;simp only [z7,z8] at H;clear hb;simp only [xS];refine zJ rfl ?_;exact ⟨rfl,H.nix⟩
  | some q =>
    obtain ⟨lo,b⟩:=q;obtain ⟨hab,hbl,hlo⟩:=vO g1 (by omega);rw [g1] at HD M1;simp only at HD;clear g1;by_cases r44:L[b]?=some 44
    · have hbl2:=zP r44;have Y44:=zh (HY.out b 44 r44);obtain ⟨nl,hnl⟩:∃ z,L.length=z:=⟨_,rfl⟩
      have hsz:=HS.out.2;rw [hnl] at hsz hl ha hal hbl hbl2;obtain ⟨b1,hb1⟩:∃ z,z=b+1:=⟨_,rfl⟩
      rw [← hb1] at Y44;by_cases r5:b1<nl
      · have e1:decide ((b1:Int)<(nl:Int))=true:=(by simp;omega);have e1n:decide (b1<nl)=true:=(by simp;omega);obtain ⟨c9,hc9⟩:∃ c,L[b1]?=some c:=⟨_,zg (by rw [hnl];exact r5)⟩
        have hix:=HS.out.1.idx b1 c9 hc9;by_cases r6:c9=125
        · subst r6;have e2:((125:Int) != 125)=false:=(by simp);have hcH:Q1 L lo b=some (-1,b1):=(by unfold Q1;rw [if_pos r44,← hb1,if_neg (fun h=>h.2 hc9)]);clear hc9;rw [hcH] at HD;simp only at HD;by_cases r125:L[b1]?=some 125
          · have Z:=zh (HY.out (b1) 125 r125);have hd:D=some (some (lo,-1),b1+1):=(by rw [← HD.out,if_pos ⟨r125,by omega⟩]);subst hd;clear HY HN HM HD;(try clear hcH)
            (try clear hb1)
            (try clear hc9)
            (try clear r42)
            (try clear r43)
            (try clear r63)
            (try clear r123')
            (try clear r123)
            (try clear hal)
            (try clear r44)
            (try clear r125)
            (try clear r9)
            (try clear r6)
            (try clear r5)
            go_enter ye,qX;go_wp2_with (first|refine sL ?_|(refine sS ?_;clear H;intros;rename_i H)|(go_at_call 40;with_reducible refine zm (N42.out _ (H.get (A:=paB bp s (a)) pk)) ?_;rintro e wc ⟨rfl,hb⟩;replace H:=H.grew hb.below;clear hb)|(go_at_call 40;with_reducible refine zm (N43.out _ (H.get (A:=paB bp s (a)) pk)) ?_;rintro e wc ⟨rfl,hb⟩;replace H:=H.grew hb.below;clear hb)|(go_at_call 40;with_reducible refine zm (N63.out _ (H.get (A:=paB bp s (a)) pk)) ?_;rintro e wc ⟨rfl,hb⟩;replace H:=H.grew hb.below;clear hb));refine zm (Y.out _ (H.get (A:=paB bp s (a)) pk)) ?_;rintro e wc ⟨rfl,hb⟩;replace H:=H.at1 (bp:=bp) pk hb;simp only [z7,z8] at H;clear hb;go_wp2_with (first|refine sL ?_|(refine sS ?_;clear H;intros;rename_i H));refine zm (M1.out _ (H.get (A:=paB bp s (a+1)) pk)) ?_;rintro e wc ⟨rfl,hb⟩;replace H:=H.at1 (bp:=bp) pk hb;simp only [z7,z8] at H;clear hb;go_wp2_with (first|refine sL ?_|(refine sS ?_;clear H;intros;rename_i H));refine zm (Y44.out _ (H.get (A:=paB bp s (b)) pk)) ?_;rintro e wc ⟨rfl,hb⟩;replace H:=H.at1 (bp:=bp) pk hb;simp only [z7,z8] at H;clear hb;go_wp2_with (first|refine sL ?_|(refine sS ?_;clear H;intros;rename_i H));refine zr H 22 [] [] (by kernel_rfl) (by kernel_rfl) ?_;apply Exists.intro;refine ⟨fun w1 hw1 HX=>?_,fun bs wr Hr=>?_⟩
            · refine sG ?_;repeat (first|go_big_quiet_skip|refine sQ ?_|fail|go_big_quiet_step (fail))
              exact wpQuiet_nil rfl
            clear H;have H:=Hr;clear Hr;replace H:=sH H;refine sT ?_;go_wp2_with (first|refine sL ?_|(refine sS ?_;clear H;intros;rename_i H));refine zm (Z.out _ (H.get (A:=paB bp s (b1)) pk)) ?_;rintro e wc ⟨rfl,hb⟩;replace H:=H.at1 (bp:=bp) pk hb;simp only [z7,z8] at H;clear hb;go_wp2_with (first|refine sL ?_|(refine sS ?_;clear H;intros;rename_i H));refine bodyPost_ret (results_tmp3 rfl _ _ _) rfl ?_;exact ⟨rfl,H.picks (.cons pk .nil)⟩
          · have Z:=zh (HN.out (b1) 125 (by omega) r125);have hd:D=none:=(by rw [← HD.out,if_neg (fun h=>r125 h.1)]);subst hd;clear HY HN HM HD;(try clear hcH)
            (try clear hb1)
            (try clear hc9)
            (try clear r42)
            (try clear r43)
            (try clear r63)
            (try clear r123')
            (try clear r123)
            (try clear hal)
            (try clear r44)
            (try clear r125)
            (try clear r9)
            (try clear r6)
            (try clear r5)
            go_enter ye,qX;go_wp2_with (first|refine sL ?_|(refine sS ?_;clear H;intros;rename_i H)|(go_at_call 40;with_reducible refine zm (N42.out _ (H.get (A:=paB bp s (a)) pk)) ?_;rintro e wc ⟨rfl,hb⟩;replace H:=H.grew hb.below;clear hb)|(go_at_call 40;with_reducible refine zm (N43.out _ (H.get (A:=paB bp s (a)) pk)) ?_;rintro e wc ⟨rfl,hb⟩;replace H:=H.grew hb.below;clear hb)|(go_at_call 40;with_reducible refine zm (N63.out _ (H.get (A:=paB bp s (a)) pk)) ?_;rintro e wc ⟨rfl,hb⟩;replace H:=H.grew hb.below;clear hb));refine zm (Y.out _ (H.get (A:=paB bp s (a)) pk)) ?_;rintro e wc ⟨rfl,hb⟩;replace H:=H.at1 (bp:=bp) pk hb;simp only [z7,z8] at H;clear hb;go_wp2_with (first|refine sL ?_|(refine sS ?_;clear H;intros;rename_i H));refine zm (M1.out _ (H.get (A:=paB bp s (a+1)) pk)) ?_;rintro e wc ⟨rfl,hb⟩;replace H:=H.at1 (bp:=bp) pk hb;simp only [z7,z8] at H;clear hb;go_wp2_with (first|refine sL ?_|(refine sS ?_;clear H;intros;rename_i H));refine zm (Y44.out _ (H.get (A:=paB bp s (b)) pk)) ?_;rintro e wc ⟨rfl,hb⟩;replace H:=H.at1 (bp:=bp) pk hb;simp only [z7,z8] at H;clear hb;go_wp2_with (first|refine sL ?_|(refine sS ?_;clear H;intros;rename_i H));refine zr H 22 [] [] (by kernel_rfl) (by kernel_rfl) ?_;apply Exists.intro;refine ⟨fun w1 hw1 HX=>?_,fun bs wr Hr=>?_⟩
            · refine sG ?_;repeat (first|go_big_quiet_skip|refine sQ ?_|fail|go_big_quiet_step (fail))
              exact wpQuiet_nil rfl
            clear H;have H:=Hr;clear Hr;replace H:=sH H;refine sT ?_;go_wp2_with (first|refine sL ?_|(refine sS ?_;clear H;intros;rename_i H));go_wp2_with (first|refine sL ?_|(refine sS ?_;clear H;intros;rename_i H)|(go_at_call 40;with_reducible refine zm (Z.out _ (H.get (A:=paB bp s (b1)) pk)) ?_;rintro e wc ⟨rfl,hb⟩;replace H:=H.grew hb.below;clear hb));refine zJ rfl ?_;exact ⟨rfl,H.nix⟩
        · have e2:((c9:Int) != 125)=true:=(by simp;omega);have M2:=zh (HM.out b1 (by omega));have hcH:Q1 L lo b=(match Yy L b1 with|none=>none|some (h,c)=>some ((h:Int),c)):=(by unfold Q1;rw [if_pos r44,← hb1,if_pos ⟨by omega,by rw [hc9];simp [r6]⟩]);clear hc9;cases g2:Yy L b1 with
          | none =>
            rw [g2] at hcH M2;simp only at hcH;rw [hcH] at HD;have hd:D=none:=HD.out.symm;subst hd;clear HY HN HM HD;(try clear hcH)
            (try clear hb1)
            (try clear hc9)
            (try clear r42)
            (try clear r43)
            (try clear r63)
            (try clear r123')
            (try clear r123)
            (try clear hal)
            (try clear r44)
            (try clear r125)
            (try clear r9)
            (try clear r6)
            (try clear r5)
            go_enter ye,qX;go_wp2_with (first|refine sL ?_|(refine sS ?_;clear H;intros;rename_i H)|(go_at_call 40;with_reducible refine zm (N42.out _ (H.get (A:=paB bp s (a)) pk)) ?_;rintro e wc ⟨rfl,hb⟩;replace H:=H.grew hb.below;clear hb)|(go_at_call 40;with_reducible refine zm (N43.out _ (H.get (A:=paB bp s (a)) pk)) ?_;rintro e wc ⟨rfl,hb⟩;replace H:=H.grew hb.below;clear hb)|(go_at_call 40;with_reducible refine zm (N63.out _ (H.get (A:=paB bp s (a)) pk)) ?_;rintro e wc ⟨rfl,hb⟩;replace H:=H.grew hb.below;clear hb));refine zm (Y.out _ (H.get (A:=paB bp s (a)) pk)) ?_;rintro e wc ⟨rfl,hb⟩;replace H:=H.at1 (bp:=bp) pk hb;simp only [z7,z8] at H;clear hb;go_wp2_with (first|refine sL ?_|(refine sS ?_;clear H;intros;rename_i H));refine zm (M1.out _ (H.get (A:=paB bp s (a+1)) pk)) ?_;rintro e wc ⟨rfl,hb⟩;replace H:=H.at1 (bp:=bp) pk hb;simp only [z7,z8] at H;clear hb;go_wp2_with (first|refine sL ?_|(refine sS ?_;clear H;intros;rename_i H));refine zm (Y44.out _ (H.get (A:=paB bp s (b)) pk)) ?_;rintro e wc ⟨rfl,hb⟩;replace H:=H.at1 (bp:=bp) pk hb;simp only [z7,z8] at H;clear hb;go_wp2_with (first|refine sL ?_|(refine sS ?_;clear H;intros;rename_i H));refine zr H 22 [] [] (by kernel_rfl) (by kernel_rfl) ?_;apply Exists.intro;refine ⟨fun w1 hw1 HX=>?_,fun bs wr Hr=>?_⟩
            · refine sG ?_;repeat (first|go_big_quiet_skip|refine sQ ?_|fail|go_big_quiet_step (fail))
              exact wpQuiet_nil rfl
            clear H;have H:=Hr;clear Hr;replace H:=sH H;refine sT ?_;go_wp2_with (first|refine sL ?_|(refine sS ?_;clear H;intros;rename_i H));refine zm (M2.out _ (H.get (A:=paB bp s (b1)) pk)) ?_;rintro e wc ⟨rfl,hb⟩;replace H:=H.at1 (bp:=bp) pk hb;simp only [z7,z8] at H;clear hb;simp only [xS];refine zJ rfl ?_;exact ⟨rfl,H.nix⟩
          | some q =>
            obtain ⟨hh,c⟩:=q;obtain ⟨hbc,hcl,hh64⟩:=vO g2 (by omega);rw [g2] at hcH M2;simp only at hcH;rw [hnl] at hcl;clear g2;rw [hcH] at HD;simp only at HD;by_cases r125:L[c]?=some 125
            · have Z:=zh (HY.out (c) 125 r125);have f8:decide ((0:Int)<=(hh:Int))=true:=(by simp);by_cases r9:hh<lo
              · have f9:decide ((hh:Int)<(lo:Int))=true:=(by simp;omega);have f9n:decide (hh<lo)=true:=(by simp;omega);have hd:D=none:=(by rw [← HD.out,if_neg (fun h=>h.2 ⟨by omega,by omega⟩)]);subst hd;clear HY HN HM HD;(try clear hcH)
                (try clear hb1)
                (try clear hc9)
                (try clear r42)
                (try clear r43)
                (try clear r63)
                (try clear r123')
                (try clear r123)
                (try clear hal)
                (try clear r44)
                (try clear r125)
                (try clear r9)
                (try clear r6)
                (try clear r5)
                go_enter ye,qX;go_wp2_with (first|refine sL ?_|(refine sS ?_;clear H;intros;rename_i H)|(go_at_call 40;with_reducible refine zm (N42.out _ (H.get (A:=paB bp s (a)) pk)) ?_;rintro e wc ⟨rfl,hb⟩;replace H:=H.grew hb.below;clear hb)|(go_at_call 40;with_reducible refine zm (N43.out _ (H.get (A:=paB bp s (a)) pk)) ?_;rintro e wc ⟨rfl,hb⟩;replace H:=H.grew hb.below;clear hb)|(go_at_call 40;with_reducible refine zm (N63.out _ (H.get (A:=paB bp s (a)) pk)) ?_;rintro e wc ⟨rfl,hb⟩;replace H:=H.grew hb.below;clear hb));refine zm (Y.out _ (H.get (A:=paB bp s (a)) pk)) ?_;rintro e wc ⟨rfl,hb⟩;replace H:=H.at1 (bp:=bp) pk hb;simp only [z7,z8] at H;clear hb;go_wp2_with (first|refine sL ?_|(refine sS ?_;clear H;intros;rename_i H));refine zm (M1.out _ (H.get (A:=paB bp s (a+1)) pk)) ?_;rintro e wc ⟨rfl,hb⟩;replace H:=H.at1 (bp:=bp) pk hb;simp only [z7,z8] at H;clear hb;go_wp2_with (first|refine sL ?_|(refine sS ?_;clear H;intros;rename_i H));refine zm (Y44.out _ (H.get (A:=paB bp s (b)) pk)) ?_;rintro e wc ⟨rfl,hb⟩;replace H:=H.at1 (bp:=bp) pk hb;simp only [z7,z8] at H;clear hb;go_wp2_with (first|refine sL ?_|(refine sS ?_;clear H;intros;rename_i H));refine zr H 22 [] [] (by kernel_rfl) (by kernel_rfl) ?_;apply Exists.intro;refine ⟨fun w1 hw1 HX=>?_,fun bs wr Hr=>?_⟩
                · refine sG ?_;repeat (first|go_big_quiet_skip|refine sQ ?_|fail|go_big_quiet_step (fail))
                  exact wpQuiet_nil rfl
                clear H;have H:=Hr;clear Hr;replace H:=sH H;refine sT ?_;go_wp2_with (first|refine sL ?_|(refine sS ?_;clear H;intros;rename_i H));refine zm (M2.out _ (H.get (A:=paB bp s (b1)) pk)) ?_;rintro e wc ⟨rfl,hb⟩;replace H:=H.at1 (bp:=bp) pk hb;simp only [z7,z8] at H;clear hb;go_wp2_with (first|refine sL ?_|(refine sS ?_;clear H;intros;rename_i H));refine zm (Z.out _ (H.get (A:=paB bp s (c)) pk)) ?_;rintro e wc ⟨rfl,hb⟩;replace H:=H.at1 (bp:=bp) pk hb;simp only [z7,z8] at H;clear hb;go_wp2_with (first|refine sL ?_|(refine sS ?_;clear H;intros;rename_i H));refine zJ rfl ?_;exact ⟨rfl,H.nix⟩
              · have f9:decide ((hh:Int)<(lo:Int))=false:=(by simp;omega);have f9n:decide (hh<lo)=false:=(by simp;omega);have hd:D=some (some (lo,(hh:Int)),c+1):=(by rw [← HD.out,if_pos ⟨r125,by omega⟩]);subst hd;clear HY HN HM HD;(try clear hcH)
                (try clear hb1)
                (try clear hc9)
                (try clear r42)
                (try clear r43)
                (try clear r63)
                (try clear r123')
                (try clear r123)
                (try clear hal)
                (try clear r44)
                (try clear r125)
                (try clear r9)
                (try clear r6)
                (try clear r5)
                go_enter ye,qX;go_wp2_with (first|refine sL ?_|(refine sS ?_;clear H;intros;rename_i H)|(go_at_call 40;with_reducible refine zm (N42.out _ (H.get (A:=paB bp s (a)) pk)) ?_;rintro e wc ⟨rfl,hb⟩;replace H:=H.grew hb.below;clear hb)|(go_at_call 40;with_reducible refine zm (N43.out _ (H.get (A:=paB bp s (a)) pk)) ?_;rintro e wc ⟨rfl,hb⟩;replace H:=H.grew hb.below;clear hb)|(go_at_call 40;with_reducible refine zm (N63.out _ (H.get (A:=paB bp s (a)) pk)) ?_;rintro e wc ⟨rfl,hb⟩;replace H:=H.grew hb.below;clear hb));refine zm (Y.out _ (H.get (A:=paB bp s (a)) pk)) ?_;rintro e wc ⟨rfl,hb⟩;replace H:=H.at1 (bp:=bp) pk hb;simp only [z7,z8] at H;clear hb;go_wp2_with (first|refine sL ?_|(refine sS ?_;clear H;intros;rename_i H));refine zm (M1.out _ (H.get (A:=paB bp s (a+1)) pk)) ?_;rintro e wc ⟨rfl,hb⟩;replace H:=H.at1 (bp:=bp) pk hb;simp only [z7,z8] at H;clear hb;go_wp2_with (first|refine sL ?_|(refine sS ?_;clear H;intros;rename_i H));refine zm (Y44.out _ (H.get (A:=paB bp s (b)) pk)) ?_;rintro e wc ⟨rfl,hb⟩;replace H:=H.at1 (bp:=bp) pk hb;simp only [z7,z8] at H;clear hb;go_wp2_with (first|refine sL ?_|(refine sS ?_;clear H;intros;rename_i H));refine zr H 22 [] [] (by kernel_rfl) (by kernel_rfl) ?_;apply Exists.intro;refine ⟨fun w1 hw1 HX=>?_,fun bs wr Hr=>?_⟩
                · refine sG ?_;repeat (first|go_big_quiet_skip|refine sQ ?_|fail|go_big_quiet_step (fail))
                  exact wpQuiet_nil rfl
                clear H;have H:=Hr;clear Hr;replace H:=sH H;refine sT ?_;go_wp2_with (first|refine sL ?_|(refine sS ?_;clear H;intros;rename_i H));refine zm (M2.out _ (H.get (A:=paB bp s (b1)) pk)) ?_;rintro e wc ⟨rfl,hb⟩;replace H:=H.at1 (bp:=bp) pk hb;simp only [z7,z8] at H;clear hb;go_wp2_with (first|refine sL ?_|(refine sS ?_;clear H;intros;rename_i H));refine zm (Z.out _ (H.get (A:=paB bp s (c)) pk)) ?_;rintro e wc ⟨rfl,hb⟩;replace H:=H.at1 (bp:=bp) pk hb;simp only [z7,z8] at H;clear hb;go_wp2_with (first|refine sL ?_|(refine sS ?_;clear H;intros;rename_i H));refine bodyPost_ret (results_tmp3 rfl _ _ _) rfl ?_;exact ⟨rfl,H.picks (.cons pk .nil)⟩
            · have Z:=zh (HN.out (c) 125 (by omega) r125);have hd:D=none:=(by rw [← HD.out,if_neg (fun h=>r125 h.1)]);subst hd;clear HY HN HM HD;(try clear hcH)
              (try clear hb1)
              (try clear hc9)
              (try clear r42)
              (try clear r43)
              (try clear r63)
              (try clear r123')
              (try clear r123)
              (try clear hal)
              (try clear r44)
              (try clear r125)
              (try clear r9)
              (try clear r6)
              (try clear r5)
              go_enter ye,qX;go_wp2_with (first|refine sL ?_|(refine sS ?_;clear H;intros;rename_i H)|(go_at_call 40;with_reducible refine zm (N42.out _ (H.get (A:=paB bp s (a)) pk)) ?_;rintro e wc ⟨rfl,hb⟩;replace H:=H.grew hb.below;clear hb)|(go_at_call 40;with_reducible refine zm (N43.out _ (H.get (A:=paB bp s (a)) pk)) ?_;rintro e wc ⟨rfl,hb⟩;replace H:=H.grew hb.below;clear hb)|(go_at_call 40;with_reducible refine zm (N63.out _ (H.get (A:=paB bp s (a)) pk)) ?_;rintro e wc ⟨rfl,hb⟩;replace H:=H.grew hb.below;clear hb));refine zm (Y.out _ (H.get (A:=paB bp s (a)) pk)) ?_;rintro e wc ⟨rfl,hb⟩;replace H:=H.at1 (bp:=bp) pk hb;simp only [z7,z8] at H;clear hb;go_wp2_with (first|refine sL ?_|(refine sS ?_;clear H;intros;rename_i H));refine zm (M1.out _ (H.get (A:=paB bp s (a+1)) pk)) ?_;rintro e wc ⟨rfl,hb⟩;replace H:=H.at1 (bp:=bp) pk hb;simp only [z7,z8] at H;clear hb;go_wp2_with (first|refine sL ?_|(refine sS ?_;clear H;intros;rename_i H));refine zm (Y44.out _ (H.get (A:=paB bp s (b)) pk)) ?_;rintro e wc ⟨rfl,hb⟩;replace H:=H.at1 (bp:=bp) pk hb;simp only [z7,z8] at H;clear hb;go_wp2_with (first|refine sL ?_|(refine sS ?_;clear H;intros;rename_i H));refine zr H 22 [] [] (by kernel_rfl) (by kernel_rfl) ?_;apply Exists.intro;refine ⟨fun w1 hw1 HX=>?_,fun bs wr Hr=>?_⟩
              · refine sG ?_;repeat (first|go_big_quiet_skip|refine sQ ?_|fail|go_big_quiet_step (fail))
                exact wpQuiet_nil rfl
              clear H;have H:=Hr;clear Hr;replace H:=sH H;refine sT ?_;go_wp2_with (first|refine sL ?_|(refine sS ?_;clear H;intros;rename_i H));refine zm (M2.out _ (H.get (A:=paB bp s (b1)) pk)) ?_;rintro e wc ⟨rfl,hb⟩;replace H:=H.at1 (bp:=bp) pk hb;simp only [z7,z8] at H;clear hb;go_wp2_with (first|refine sL ?_|(refine sS ?_;clear H;intros;rename_i H));go_wp2_with (first|refine sL ?_|(refine sS ?_;clear H;intros;rename_i H)|(go_at_call 40;with_reducible refine zm (Z.out _ (H.get (A:=paB bp s (c)) pk)) ?_;rintro e wc ⟨rfl,hb⟩;replace H:=H.grew hb.below;clear hb));refine zJ rfl ?_;exact ⟨rfl,H.nix⟩
      · have e1:decide ((b1:Int)<(nl:Int))=false:=(by simp;omega);have e1n:decide (b1<nl)=false:=(by simp;omega);have hcH:Q1 L lo b=some (-1,b1):=(by unfold Q1;rw [if_pos r44,← hb1,if_neg (fun h=>by have:=h.1;omega)]);rw [hcH] at HD;simp only at HD;by_cases r125:L[b1]?=some 125
        · have Z:=zh (HY.out (b1) 125 r125);have hd:D=some (some (lo,-1),b1+1):=(by rw [← HD.out,if_pos ⟨r125,by omega⟩]);subst hd;clear HY HN HM HD;(try clear hcH)
          (try clear hb1)
          (try clear hc9)
          (try clear r42)
          (try clear r43)
          (try clear r63)
          (try clear r123')
          (try clear r123)
          (try clear hal)
          (try clear r44)
          (try clear r125)
          (try clear r9)
          (try clear r6)
          (try clear r5)
          go_enter ye,qX;go_wp2_with (first|refine sL ?_|(refine sS ?_;clear H;intros;rename_i H)|(go_at_call 40;with_reducible refine zm (N42.out _ (H.get (A:=paB bp s (a)) pk)) ?_;rintro e wc ⟨rfl,hb⟩;replace H:=H.grew hb.below;clear hb)|(go_at_call 40;with_reducible refine zm (N43.out _ (H.get (A:=paB bp s (a)) pk)) ?_;rintro e wc ⟨rfl,hb⟩;replace H:=H.grew hb.below;clear hb)|(go_at_call 40;with_reducible refine zm (N63.out _ (H.get (A:=paB bp s (a)) pk)) ?_;rintro e wc ⟨rfl,hb⟩;replace H:=H.grew hb.below;clear hb));refine zm (Y.out _ (H.get (A:=paB bp s (a)) pk)) ?_;rintro e wc ⟨rfl,hb⟩;replace H:=H.at1 (bp:=bp) pk hb;simp only [z7,z8] at H;clear hb;go_wp2_with (first|refine sL ?_|(refine sS ?_;clear H;intros;rename_i H));refine zm (M1.out _ (H.get (A:=paB bp s (a+1)) pk)) ?_;rintro e wc ⟨rfl,hb⟩;replace H:=H.at1 (bp:=bp) pk hb;simp only [z7,z8] at H;clear hb;go_wp2_with (first|refine sL ?_|(refine sS ?_;clear H;intros;rename_i H));refine zm (Y44.out _ (H.get (A:=paB bp s (b)) pk)) ?_;rintro e wc ⟨rfl,hb⟩;replace H:=H.at1 (bp:=bp) pk hb;simp only [z7,z8] at H;clear hb;go_wp2_with (first|refine sL ?_|(refine sS ?_;clear H;intros;rename_i H));refine zr H 22 [] [] (by kernel_rfl) (by kernel_rfl) ?_;apply Exists.intro;refine ⟨fun w1 hw1 HX=>?_,fun bs wr Hr=>?_⟩
          · refine sG ?_;repeat (first|go_big_quiet_skip|refine sQ ?_|fail|go_big_quiet_step (fail))
            exact wpQuiet_nil rfl
          clear H;have H:=Hr;clear Hr;replace H:=sH H;refine sT ?_;go_wp2_with (first|refine sL ?_|(refine sS ?_;clear H;intros;rename_i H));refine zm (Z.out _ (H.get (A:=paB bp s (b1)) pk)) ?_;rintro e wc ⟨rfl,hb⟩;replace H:=H.at1 (bp:=bp) pk hb;simp only [z7,z8] at H;clear hb;go_wp2_with (first|refine sL ?_|(refine sS ?_;clear H;intros;rename_i H));refine bodyPost_ret (results_tmp3 rfl _ _ _) rfl ?_;exact ⟨rfl,H.picks (.cons pk .nil)⟩
        · have Z:=zh (HN.out (b1) 125 (by omega) r125);have hd:D=none:=(by rw [← HD.out,if_neg (fun h=>r125 h.1)]);subst hd;clear HY HN HM HD;(try clear hcH)
          (try clear hb1)
          (try clear hc9)
          (try clear r42)
          (try clear r43)
          (try clear r63)
          (try clear r123')
          (try clear r123)
          (try clear hal)
          (try clear r44)
          (try clear r125)
          (try clear r9)
          (try clear r6)
          (try clear r5)
          go_enter ye,qX;go_wp2_with (first|refine sL ?_|(refine sS ?_;clear H;intros;rename_i H)|(go_at_call 40;with_reducible refine zm (N42.out _ (H.get (A:=paB bp s (a)) pk)) ?_;rintro e wc ⟨rfl,hb⟩;replace H:=H.grew hb.below;clear hb)|(go_at_call 40;with_reducible refine zm (N43.out _ (H.get (A:=paB bp s (a)) pk)) ?_;rintro e wc ⟨rfl,hb⟩;replace H:=H.grew hb.below;clear hb)|(go_at_call 40;with_reducible refine zm (N63.out _ (H.get (A:=paB bp s (a)) pk)) ?_;rintro e wc ⟨rfl,hb⟩;replace H:=H.grew hb.below;clear hb));refine zm (Y.out _ (H.get (A:=paB bp s (a)) pk)) ?_;rintro e wc ⟨rfl,hb⟩;replace H:=H.at1 (bp:=bp) pk hb;simp only [z7,z8] at H;clear hb;go_wp2_with (first|refine sL ?_|(refine sS ?_;clear H;intros;rename_i H));refine zm (M1.out _ (H.get (A:=paB bp s (a+1)) pk)) ?_;rintro e wc ⟨rfl,hb⟩;replace H:=H.at1 (bp:=bp) pk hb;simp only [z7,z8] at H;clear hb;go_wp2_with (first|refine sL ?_|(refine sS ?_;clear H;intros;rename_i H));refine zm (Y44.out _ (H.get (A:=paB bp s (b)) pk)) ?_;rintro e wc ⟨rfl,hb⟩;replace H:=H.at1 (bp:=bp) pk hb;simp only [z7,z8] at H;clear hb;go_wp2_with (first|refine sL ?_|(refine sS ?_;clear H;intros;rename_i H));refine zr H 22 [] [] (by kernel_rfl) (by kernel_rfl) ?_;apply Exists.intro;refine ⟨fun w1 hw1 HX=>?_,fun bs wr Hr=>?_⟩
          · refine sG ?_;repeat (first|go_big_quiet_skip|refine sQ ?_|fail|go_big_quiet_step (fail))
            exact wpQuiet_nil rfl
          clear H;have H:=Hr;clear Hr;replace H:=sH H;refine sT ?_;go_wp2_with (first|refine sL ?_|(refine sS ?_;clear H;intros;rename_i H));go_wp2_with (first|refine sL ?_|(refine sS ?_;clear H;intros;rename_i H)|(go_at_call 40;with_reducible refine zm (Z.out _ (H.get (A:=paB bp s (b1)) pk)) ?_;rintro e wc ⟨rfl,hb⟩;replace H:=H.grew hb.below;clear hb));refine zJ rfl ?_;exact ⟨rfl,H.nix⟩
    · have hcH:Q1 L lo b=some ((lo:Int),b):=(by unfold Q1;rw [if_neg r44]);have N44:=zh (HN.out b 44 hbl r44);rw [hcH] at HD;simp only at HD;by_cases r125:L[b]?=some 125
      · have Z:=zh (HY.out (b) 125 r125);have f9:decide ((lo:Int)<(lo:Int))=false:=(by simp);have f8:decide ((0:Int)<=(lo:Int))=true:=(by simp);have hd:D=some (some (lo,(lo:Int)),b+1):=(by rw [← HD.out,if_pos ⟨r125,by omega⟩]);subst hd;clear HY HN HM HD;(try clear hcH)
        (try clear hb1)
        (try clear hc9)
        (try clear r42)
        (try clear r43)
        (try clear r63)
        (try clear r123')
        (try clear r123)
        (try clear hal)
        (try clear r44)
        (try clear r125)
        (try clear r9)
        (try clear r6)
        (try clear r5)
        go_enter ye,qX;go_wp2_with (first|refine sL ?_|(refine sS ?_;clear H;intros;rename_i H)|(go_at_call 40;with_reducible refine zm (N42.out _ (H.get (A:=paB bp s (a)) pk)) ?_;rintro e wc ⟨rfl,hb⟩;replace H:=H.grew hb.below;clear hb)|(go_at_call 40;with_reducible refine zm (N43.out _ (H.get (A:=paB bp s (a)) pk)) ?_;rintro e wc ⟨rfl,hb⟩;replace H:=H.grew hb.below;clear hb)|(go_at_call 40;with_reducible refine zm (N63.out _ (H.get (A:=paB bp s (a)) pk)) ?_;rintro e wc ⟨rfl,hb⟩;replace H:=H.grew hb.below;clear hb));refine zm (Y.out _ (H.get (A:=paB bp s (a)) pk)) ?_;rintro e wc ⟨rfl,hb⟩;replace H:=H.at1 (bp:=bp) pk hb;simp only [z7,z8] at H;clear hb;go_wp2_with (first|refine sL ?_|(refine sS ?_;clear H;intros;rename_i H));refine zm (M1.out _ (H.get (A:=paB bp s (a+1)) pk)) ?_;rintro e wc ⟨rfl,hb⟩;replace H:=H.at1 (bp:=bp) pk hb;simp only [z7,z8] at H;clear hb;go_wp2_with (first|refine sL ?_|(refine sS ?_;clear H;intros;rename_i H));go_wp2_with (first|refine sL ?_|(refine sS ?_;clear H;intros;rename_i H)|(go_at_call 40;with_reducible refine zm (N44.out _ (H.get (A:=paB bp s (b)) pk)) ?_;rintro e wc ⟨rfl,hb⟩;replace H:=H.grew hb.below;clear hb));refine zm (Z.out _ (H.get (A:=paB bp s (b)) pk)) ?_;rintro e wc ⟨rfl,hb⟩;replace H:=H.at1 (bp:=bp) pk hb;simp only [z7,z8] at H;clear hb;go_wp2_with (first|refine sL ?_|(refine sS ?_;clear H;intros;rename_i H));refine bodyPost_ret (results_tmp3 rfl _ _ _) rfl ?_;exact ⟨rfl,H.picks (.cons pk .nil)⟩
      · have Z:=zh (HN.out (b) 125 (by omega) r125);have hd:D=none:=(by rw [← HD.out,if_neg (fun h=>r125 h.1)]);subst hd;clear HY HN HM HD;(try clear hcH)
        (try clear hb1)
        (try clear hc9)
        (try clear r42)
        (try clear r43)
        (try clear r63)
        (try clear r123')
        (try clear r123)
        (try clear hal)
        (try clear r44)
        (try clear r125)
        (try clear r9)
        (try clear r6)
        (try clear r5)
        go_enter ye,qX;go_wp2_with (first|refine sL ?_|(refine sS ?_;clear H;intros;rename_i H)|(go_at_call 40;with_reducible refine zm (N42.out _ (H.get (A:=paB bp s (a)) pk)) ?_;rintro e wc ⟨rfl,hb⟩;replace H:=H.grew hb.below;clear hb)|(go_at_call 40;with_reducible refine zm (N43.out _ (H.get (A:=paB bp s (a)) pk)) ?_;rintro e wc ⟨rfl,hb⟩;replace H:=H.grew hb.below;clear hb)|(go_at_call 40;with_reducible refine zm (N63.out _ (H.get (A:=paB bp s (a)) pk)) ?_;rintro e wc ⟨rfl,hb⟩;replace H:=H.grew hb.below;clear hb));refine zm (Y.out _ (H.get (A:=paB bp s (a)) pk)) ?_;rintro e wc ⟨rfl,hb⟩;replace H:=H.at1 (bp:=bp) pk hb;simp only [z7,z8] at H;clear hb;go_wp2_with (first|refine sL ?_|(refine sS ?_;clear H;intros;rename_i H));refine zm (M1.out _ (H.get (A:=paB bp s (a+1)) pk)) ?_;rintro e wc ⟨rfl,hb⟩;replace H:=H.at1 (bp:=bp) pk hb;simp only [z7,z8] at H;clear hb;go_wp2_with (first|refine sL ?_|(refine sS ?_;clear H;intros;rename_i H));go_wp2_with (first|refine sL ?_|(refine sS ?_;clear H;intros;rename_i H)|(go_at_call 40;with_reducible refine zm (N44.out _ (H.get (A:=paB bp s (b)) pk)) ?_;rintro e wc ⟨rfl,hb⟩;replace H:=H.grew hb.below;clear hb));go_wp2_with (first|refine sL ?_|(refine sS ?_;clear H;intros;rename_i H)|(go_at_call 40;with_reducible refine zm (Z.out _ (H.get (A:=paB bp s (b)) pk)) ?_;rintro e wc ⟨rfl,hb⟩;replace H:=H.grew hb.below;clear hb));refine zJ rfl ?_;exact ⟨rfl,H.nix⟩
end
section
open Go.RowKit
def vV (b:Nat):Int:=if 48<=b∧b<=57 then (b:Int)-48 else if 97<=b∧b<=102 then (b:Int)-87 else if 65<=b∧b<=70 then (b:Int)-55 else -1
theorem vJ (b:Nat):-1<=vV b∧vV b<=15:=by unfold vV;split <;> (try split) <;> (try split) <;> omega
def punc (b:Nat):Bool:=decide (33<=b∧b<=47) || decide (58<=b∧b<=64) || decide (91<=b∧b<=96) || decide (123<=b∧b<=126)
def esc (d:Nat) (t:List Nat):Nat×Nat :=
 if d=110 then (10,2) else if d=116 then (9,2) else if d=114 then (13,2)
 else if d=120 then (match t with|x::y::_=>if vV x<0∨vV y<0 then (0,0) else ((vV x*16+vV y).toNat,4)|_=>(0,0))
 else if punc d=true then (d,2) else (0,0)
def elt:List Nat->Nat×Nat
 |[]=>(0,0)
 |c::t=>if c=93∨c=45 then (0,0) else if c≠92 then (c,1) else (match t with|[]=>(0,0)|d::t=>esc d t)
theorem esc_bd (d:Nat) (t:List Nat) (hd:d<256):(esc d t).1<256∧(esc d t).2<=2+t.length∧(esc d t).2<=4:=by
 unfold esc;split
 ·simp
 split
 ·simp
 split
 ·simp
 split
 ·split
  ·rename_i x y t;split
   ·simp
   ·have:=vJ x;have:=vJ y;simp;omega
  ·simp
 split
 ·simp;omega
 ·simp
theorem elt_bd (l:List Nat) (hl:∀ x∈l,x<256):(elt l).1<256∧(elt l).2<=l.length∧(elt l).2<=4:=by
 cases l with
 |nil=>simp [elt]
 |cons c t =>
  have hc:=hl c (zS ..);simp only [elt];split
  ·simp
  split
  ·simp;omega
  cases t with
  |nil=>simp
  |cons d t =>
   have:=esc_bd d t (hl d (by simp));simp;omega
def rng (l:List Nat):Option (Nat×Nat×Nat) :=
 let e:=elt l
 if e.2=0 then none
 else if l[e.2]?=some 45 then
  let f:=elt (l.drop (e.2+1))
  if f.2=0∨f.1<e.1 then none else some (e.1,f.1,e.2+1+f.2)
 else some (e.1,e.1,e.2)
theorem V6 {l:List Nat} {a b n:Nat} (h:rng l=some (a,b,n)):0<n:=by
 unfold rng at h;simp only at h;split at h
 ·cases h
 split at h
 ·split at h
  ·cases h
  ·simp at h;omega
 ·simp at h;omega
def prs (l:List Nat) (s:Nat->Nat):Option (Nat->Nat) :=
 if h:l=[] then some s else match h2:rng l with
  |none=>none
  |some (a,b,n)=>prs (l.drop n) (orW s (btw a (b+1-a)))
termination_by l.length
decreasing_by
 have:=V6 h2;have:0<l.length:=List.length_pos_iff.2 h;simp;omega
theorem V0 (s:Nat->Nat):prs [] s=some s:=by rw [prs.eq_def];simp
theorem YD {l:List Nat} (h:l≠[]) (h2:rng l=none) (s:Nat->Nat):prs l s=none:=by
 rw [prs.eq_def,dif_neg h];split <;> simp_all
theorem YE {l:List Nat} {a b n:Nat} (h:l≠[]) (h2:rng l=some (a,b,n)) (s:Nat->Nat):prs l s=prs (l.drop n) (orW s (btw a (b+1-a))):=by
 rw [prs.eq_def,dif_neg h];split <;> simp_all
theorem rng_no {l:List Nat} (h:(elt l).2=0):rng l=none:=by unfold rng;simp [h]
theorem rng_one {l:List Nat} (h:(elt l).2≠0) (h2:l[(elt l).2]?≠some 45):rng l=some ((elt l).1,(elt l).1,(elt l).2):=by unfold rng;simp only [h,h2,if_false]
theorem rng_bad {l:List Nat} (h:(elt l).2≠0) (h2:l[(elt l).2]?=some 45) (h3:(elt (l.drop ((elt l).2+1))).2=0∨(elt (l.drop ((elt l).2+1))).1<(elt l).1):rng l=none:=by
 unfold rng;simp only [h,h2,h3,if_true,if_false]
theorem rng_two {l:List Nat} (h:(elt l).2≠0) (h2:l[(elt l).2]?=some 45) (h3:¬ ((elt (l.drop ((elt l).2+1))).2=0∨(elt (l.drop ((elt l).2+1))).1<(elt l).1)) :
  rng l=some ((elt l).1,(elt (l.drop ((elt l).2+1))).1,(elt l).2+1+(elt (l.drop ((elt l).2+1))).2):=by
 unfold rng;simp only [h,h2,h3,if_true,if_false]
theorem ret_i {k:IntKind} {a b:Int} (h:a=b):Ending.returned (.int k a)=.returned (.int k b):=by rw [h]
theorem ret_b {a b:Bool} (h:a=b):Ending.returned (.bool a)=.returned (.bool b):=by rw [h]
theorem digit_c (b:Nat) (hb:b<256) (w:World):Calls z6 106 #[.int .u8 b] w fun e w'=>e=.returned (.int .i64 (vV b))∧w=w':=by
 go_enter Tryd.func106,Tryd.ntmps106
 go_wp2
 all_goals
  go_ret;exact ⟨ret_i (by unfold vV;(repeat' split) <;> omega),rfl⟩
theorem vZ (b:Nat) (hb:b<256) (w:World):Calls z6 107 #[.int .u8 b] w fun e w'=>e=.returned (.bool (punc b))∧w=w':=by
 go_enter Tryd.func107,Tryd.ntmps107
 go_wp2
 all_goals
  go_ret;exact ⟨ret_b (by unfold punc;rw [q5];simp;try omega),rfl⟩
theorem strB_len (l:List Nat):(strB l).size=l.length:=Qf l
theorem strB_bytes (l:List Nat):(strB l).toList=l.map UInt8.ofNat:=by
 rw [ByteArray.toList_eq];unfold strB;simp
theorem strB_cut (l:List Nat) (i:Nat):(strB l).extract i (strB l).size=strB (l.drop i):=by
 apply ByteArray.ext;unfold strB;simp [ByteArray.size];exact zM (by simp)
attribute [local go_sem] strB_len strB_bytes
theorem yp (l:List Nat) (i:Nat) (b:Nat) (hb:b<256) (he:l[i]?=some b):∀ h,((strB l)[i]'h).toNat=b:=by
 intro h;obtain ⟨h3,e⟩:=zy.1 he;subst e;unfold strB at h ⊢;show ((l.map UInt8.ofNat).toArray[i]'_).toNat=_
 simp [Nat.mod_eq_of_lt hb]
def jd (l:List Nat) (w:World) (e:Ending) (w':World):Prop:=e=.returned (.tuple #[.int .u8 (elt l).1,.int .i64 (elt l).2])∧w=w'
theorem xK {l:List Nat} {w:World} (b n:Nat) (h:elt l=(b,n)):jd l w (.returned (.tuple #[.int .u8 b,.int .i64 n])) w:=by
 unfold jd;rw [h];exact ⟨rfl,rfl⟩
theorem WG (w:World):Calls z6 99 #[.string (strB [])] w (jd [] w):=by
 go_enter yI,yu
 go_wp2
 go_ret2;exact xK 0 0 rfl
theorem JB (t:List Nat) (w:World):Calls z6 99 #[.string (strB (93::t))] w (jd (93::t) w):=by
 have h0:=yp (93::t) 0 93 (by omega) rfl;have H:=zh (show elt (93::t)=(0,0) by simp [elt]);go_enter yI,yu
 go_wp2
 go_ret2;exact xK 0 0 H.out
theorem Jz (t:List Nat) (w:World):Calls z6 99 #[.string (strB (45::t))] w (jd (45::t) w):=by
 have h0:=yp (45::t) 0 45 (by omega) rfl;have H:=zh (show elt (45::t)=(0,0) by simp [elt]);go_enter yI,yu
 go_wp2
 go_ret2;exact xK 0 0 H.out
theorem Vl (c:Nat) (t:List Nat) (hc:c<256) (w:World) (n1:c≠93) (n2:c≠45) (n3:c≠92):Calls z6 99 #[.string (strB (c::t))] w (jd (c::t) w):=by
 have h0:=yp (c::t) 0 c hc rfl;have H:=zh (show elt (c::t)=(c,1) by simp [elt,n1,n2,n3]);have b1:((c:Int)==93)=false:=beq_eq_false_iff_ne.2 (by omega);have b2:((c:Int)==45)=false:=beq_eq_false_iff_ne.2 (by omega);have b3:((c:Int) != 92)=true:=(by rw [bne_iff_ne];omega);clear n1 n2 n3;go_enter yI,yu
 go_wp2
 go_ret2;exact xK c 1 H.out
theorem JA (w:World):Calls z6 99 #[.string (strB [92])] w (jd [92] w):=by
 have h0:=yp [92] 0 92 (by omega) rfl;have H:=zh (show elt [92]=(0,0) by simp [elt]);go_enter yI,yu
 go_wp2
 go_ret2;exact xK 0 0 H.out
theorem WD (t:List Nat) (w:World):Calls z6 99 #[.string (strB (92::110::t))] w (jd (92::110::t) w):=by
 have h0:=yp (92::110::t) 0 92 (by omega) rfl;have h1:=yp (92::110::t) 1 110 (by omega) rfl;have H:=zh (show elt (92::110::t)=(10,2) by simp [elt,esc]);go_enter yI,yu
 go_wp2
 go_ret2;exact xK 10 2 H.out
theorem WF (t:List Nat) (w:World):Calls z6 99 #[.string (strB (92::116::t))] w (jd (92::116::t) w):=by
 have h0:=yp (92::116::t) 0 92 (by omega) rfl;have h1:=yp (92::116::t) 1 116 (by omega) rfl;have H:=zh (show elt (92::116::t)=(9,2) by simp [elt,esc]);go_enter yI,yu
 go_wp2
 go_ret2;exact xK 9 2 H.out
theorem WE (t:List Nat) (w:World):Calls z6 99 #[.string (strB (92::114::t))] w (jd (92::114::t) w):=by
 have h0:=yp (92::114::t) 0 92 (by omega) rfl;have h1:=yp (92::114::t) 1 114 (by omega) rfl;have H:=zh (show elt (92::114::t)=(13,2) by simp [elt,esc]);go_enter yI,yu
 go_wp2
 go_ret2;exact xK 13 2 H.out
theorem digit_q (b:Nat) (hb:b<256) (w:World):Calls z6 106 #[.int .u8 b] w fun e w'=>e=.returned (.int .i64 (vV b))∧w'=w:=(digit_c b hb w).mono fun _ _ ⟨h1,h2⟩=>⟨h1,h2.symm⟩
theorem JD (w:World):Calls z6 99 #[.string (strB [92,120])] w (jd [92,120] w):=by
 have h0:=yp [92,120] 0 92 (by omega) rfl;have h1:=yp [92,120] 1 120 (by omega) rfl;have H:=zh (show elt [92,120]=(0,0) by simp [elt,esc]);go_enter yI,yu
 go_wp2
 go_ret2;exact xK 0 0 H.out
theorem JE (x:Nat) (w:World):Calls z6 99 #[.string (strB [92,120,x])] w (jd [92,120,x] w):=by
 have h0:=yp [92,120,x] 0 92 (by omega) rfl;have h1:=yp [92,120,x] 1 120 (by omega) rfl;have H:=zh (show elt [92,120,x]=(0,0) by simp [elt,esc]);go_enter yI,yu
 go_wp2
 go_ret2;exact xK 0 0 H.out
theorem WH {x y:Nat} (t:List Nat) (h:vV x<0∨vV y<0):elt (92::120::x::y::t)=(0,0):=by
 simp only [elt,esc];rw [if_neg (by omega),if_neg (by omega),if_neg (by omega),if_neg (by omega),if_neg (by omega),if_pos trivial,if_pos h]
theorem Vn {x y:Nat} (t:List Nat) (h:0<=vV x∧0<=vV y):elt (92::120::x::y::t)=((vV x*16+vV y).toNat,4):=by
 simp only [elt,esc];rw [if_neg (by omega),if_neg (by omega),if_neg (by omega),if_neg (by omega),if_neg (by omega),if_pos trivial,if_neg (by omega)]
theorem ret_bi {a b:Int} {n:Nat} (h:a=b):Ending.returned (.tuple #[.int .u8 a,.int .i64 n])=.returned (.tuple #[.int .u8 b,.int .i64 n]):=by rw [h]
theorem JF (x y:Nat) (hx:x<256) (hy:y<256) (t:List Nat) (w:World):Calls z6 99 #[.string (strB (92::120::x::y::t))] w fun e w'=>∃ n,jd (92::120::x::y::t) (w.drewN n) e w':=by
 have h0:=yp (92::120::x::y::t) 0 92 (by omega) rfl;have h1:=yp (92::120::x::y::t) 1 120 (by omega) rfl;have h2:=yp (92::120::x::y::t) 2 x hx rfl;have h3:=yp (92::120::x::y::t) 3 y hy rfl;have q1:=(vJ x).1;have q2:=(vJ x).2;have q3:=(vJ y).1;have q4:=(vJ y).2;go_enter yI,yu
 go_wp2
 go_quiet ((go_at_call 106;exact Calls.quiet_of_same (digit_q _ (by assumption) _)))
 go_wp2
 all_goals go_ret2
 ·exact ⟨_,xK 0 0 (WH t (by assumption))⟩
 ·refine ⟨_,?_,rfl⟩;rw [Vn t (by assumption)];exact ret_bi (by simp only [];omega)
 ·exact ⟨_,xK 0 0 (WH t (.inl (by assumption)))⟩
theorem Vm (d:Nat) (hd:d<256) (t:List Nat) (w:World) (n1:d≠110) (n2:d≠116) (n3:d≠114) (n4:d≠120):Calls z6 99 #[.string (strB (92::d::t))] w (jd (92::d::t) w):=by
 have h0:=yp (92::d::t) 0 92 (by omega) rfl;have h1:=yp (92::d::t) 1 d hd rfl;have b1:((d:Int)==110)=false:=beq_eq_false_iff_ne.2 (by omega);have b2:((d:Int)==116)=false:=beq_eq_false_iff_ne.2 (by omega);have b3:((d:Int)==114)=false:=beq_eq_false_iff_ne.2 (by omega);have b4:((d:Int)==120)=false:=beq_eq_false_iff_ne.2 (by omega);cases hp:punc d with
 |true =>
  have H:=zh (show elt (92::d::t)=(d,2) by simp [elt,esc,n1,n2,n3,n4,hp]);have HP:=zh hp;clear hp n1 n2 n3 n4;go_enter yI,yu;go_wp2_with fail;refine (vZ d hd _).mono ?_;rintro e w' ⟨rfl,rfl⟩;rw [HP.out]
  go_wp2
  go_ret2;exact xK d 2 H.out
 |false =>
  have H:=zh (show elt (92::d::t)=(0,0) by simp [elt,esc,n1,n2,n3,n4,hp]);have HP:=zh hp;clear hp n1 n2 n3 n4;go_enter yI,yu;go_wp2_with fail;refine (vZ d hd _).mono ?_;rintro e w' ⟨rfl,rfl⟩;rw [HP.out]
  go_wp2
  go_ret2;exact xK 0 0 H.out
theorem JC (l:List Nat) (hl:∀ x∈l,x<256) (w:World):Calls z6 99 #[.string (strB l)] w fun e w'=>∃ n,jd l (w.drewN n) e w':=by
 have up:∀ {e:Ending} {w':World},jd l w e w'->∃ n,jd l (w.drewN n) e w':=fun h=>⟨0,h⟩
 cases l with
 |nil=>exact (WG w).mono fun _ _ h=>up h
 |cons c t =>
  have hc:=hl c (by simp);by_cases n1:c=93
  ·subst n1;exact (JB t w).mono fun _ _ h=>up h
  by_cases n2:c=45
  ·subst n2;exact (Jz t w).mono fun _ _ h=>up h
  by_cases n3:c=92
  ·subst n3;cases t with
   |nil=>exact (JA w).mono fun _ _ h=>up h
   |cons d t =>
    have hd:=hl d (by simp);by_cases m1:d=110
    ·subst m1;exact (WD t w).mono fun _ _ h=>up h
    by_cases m2:d=116
    ·subst m2;exact (WF t w).mono fun _ _ h=>up h
    by_cases m3:d=114
    ·subst m3;exact (WE t w).mono fun _ _ h=>up h
    by_cases m4:d=120
    ·subst m4
     match t,hl with
     |[],_=>exact (JD w).mono fun _ _ h=>up h
     |[x],_=>exact (JE x w).mono fun _ _ h=>up h
     |x::y::t,hl=>exact JF x y (hl x (by simp)) (hl y (by simp)) t w
    exact (Vm d hd t w m1 m2 m3 m4).mono fun _ _ h=>up h
  ·exact (Vl c t hc w n1 n2 n3).mono fun _ _ h=>up h
theorem Yo (l:List Nat) (hl:∀ x∈l,x<256) (w:World):Calls z6 99 #[.string (strB l)] w fun e w'=>e=.returned (.tuple #[.int .u8 (elt l).1,.int .i64 (elt l).2])∧Below w.heap.size w w' :=
 (JC l hl w).mono fun e w' ⟨n,h1,h2⟩=>⟨h1,by rw [← h2];exact jj (Below.refl _ _) n⟩
end
end Go.Proofs.YtminpdngkjlehaaDoor
