/-
  Part 7 of the texts behind the statements of this seat: walks and laws Cz, Da, Db, Dc, Dd. Conditions: as each states.
-/
import Derived.Test.YtnnbeldbccejpaaDoorBa6
set_option linter.unusedSimpArgs false
set_option linter.unusedVariables false
set_option maxRecDepth 100000
set_option maxHeartbeats 80000000
namespace Go.Proofs.YtnnbeldbccejpaaDoor
section
open Go.RowKit Go.Maps
attribute [local go_sem] InGr
def SpRel (X : Px) (b17 : Nat) (ta tb : Tr) (s : List Tr) (i n : Nat) (N : List Nat) (w : World) (mm : Nat) (v18 : Value) (wr : World) : Prop :=
 ∃ (m lv : Nat) (X1 : Px) (cs : Array Value) (pl : Value) (fl : List Fr) (il kl : Nat) (pr : Value) (fr : List Fr) (ir kr : Nat) (mv : Value) (rs : List ItR) (d e : EndP) (M : List It), mm = 25340 - m ∧ m < 25339 ∧ lv = m + 1 ∧ v18 = .int .i64 lv ∧ SpI ta tb s i n m d e M ∧ (X.Ext X1 ∧ PxOk X1 ∧ SpIn X1 cs pl fl il kl pr fr ir kr mv rs d e M ∧ X1.S.list.length + (seqP s m).length ≤ X.S.list.length + s.length) ∧ St w N [pA X1, blk b17 (.cells cs 82), rowsA encFr 112 8 pl fl, rowsA encFr 112 8 pr fr, rowsA encIt 86 4 mv rs] wr
def TopRel (X : Px) (N : List Nat) (w : World) (mm : Nat) (v23 : Value) (wr : World) : Prop :=
 ∃ (X1 : Px), ((v23 = .int .i64 0 ∧ mm = 2) ∨ (v23 = .int .i64 1 ∧ mm = 1) ∨ (v23 = .int .i64 2 ∧ mm = 0)) ∧ (X.Ext X1 ∧ PxOk X1 ∧ X1.S = X.S) ∧ St w N [pA X1] wr
structure SplIn (X : Px) (ta tb : Tr) (s : List Tr) (a b i n : Nat) : Prop where
 ca : Canon ta
 cb : Canon tb
 la : ta.lv ≤ 25339
 lb : tb.lv ≤ 25339
 ia : i ≤ (ta.lay 0).length
 nb : n ≤ (tb.lay 0).length
 da : 1 ≤ i → Den X.S a ta
 db : 1 ≤ n → Den X.S b tb
 leaves : Leaves s
 ne : s ≠ []
 len : s.length = i + n
 cnt : s.length ≤ 1048576
 room : X.S.list.length + s.length ≤ X.S.most
 n1 : ¬ (i = 0 ∧ n = (tb.lay 0).length)
 n2 : ¬ (n = 0 ∧ i = (ta.lay 0).length)
 start : ∀ d e, EndL ta 0 d ((ta.lay 0).take i) → EndR tb 0 e ((tb.lay 0).drop (tb.len - n)) → SpI ta tb s i n 0 d e []
theorem splAll {P : Prop} (h : P := by
 rw [sep_ho] at h
 obtain ⟨k1, k2, hdd⟩ := h
 have H := St.one k1
 have HK : Ks w (pA X).fp [deA] := ⟨by simpa using k2, by simpa using fun b hb hm => hdd b hm hb⟩
 generalize (pA X).fp = N at *
 have HCS := Lib.hid hc
 clear k1 k2 hdd hc
 obtain ⟨s, hs⟩ : ∃ s, sa.take i ++ sb.drop j = s := ⟨_, rfl⟩
 have HSS := Lib.hid hs
 rw [hs] at hl hroom
 have hsl : s.length = i + (sb.length - j) := by rw [← hs]; simp; omega
 obtain ⟨n, hn⟩ : ∃ n, sb.length - j = n := ⟨_, rfl⟩
 rw [hn] at hsl
 obtain ⟨la, hla, htpa⟩ := top_any hX ha
 obtain ⟨lb, hlb, htpb⟩ := top_any hX hb
 have HTA := Lib.hid htpa
 have HTB := Lib.hid htpb
 have d1 : decide ((32768 : Int) < (la : Int)) = false := by simp; omega
 have d2 : decide (32768 < la) = false := by simp; omega
 have d3 : decide ((32768 : Int) < (lb : Int)) = false := by simp; omega
 have d4 : decide (32768 < lb) = false := by simp; omega
 have hal := ha.len hX.ok
 have hbl := hb.len hX.ok
 obtain ⟨na, hna⟩ : ∃ n, sa.length = n := ⟨_, rfl⟩
 obtain ⟨nb, hnb⟩ : ∃ n, sb.length = n := ⟨_, rfl⟩
 have i1 : (nb : Int) - (j : Int) = (n : Nat) := by omega
 have hnab : na ≤ 1152921504606846976 ∧ nb ≤ 1152921504606846976 ∧ j ≤ nb ∧ i ≤ na ∧ n ≤ nb := by omega
 have HSA0 : Hid (∀ X1 : Px, X.Ext X1 → PxOk X1 → X1.S = X.S → ∀ w, (pA X1).ho w → Calls Tryd.prog 25 #[.pointer (some ⟨X.p, 0, none⟩), .int .i64 a] w fun e w' => e = .returned (.int .i64 (na : Nat)) ∧ St w [] [] w') := Lib.hid fun X1 q1 q2 q3 w h => by have := size_any q2 (by rw [q3]; exact ha) w h; rwa [q1.p, hna] at this
 have HSB0 : Hid (∀ X1 : Px, X.Ext X1 → PxOk X1 → X1.S = X.S → ∀ w, (pA X1).ho w → Calls Tryd.prog 25 #[.pointer (some ⟨X.p, 0, none⟩), .int .i64 b] w fun e w' => e = .returned (.int .i64 (nb : Nat)) ∧ St w [] [] w') := Lib.hid fun X1 q1 q2 q3 w h => by have := size_any q2 (by rw [q3]; exact hb) w h; rwa [q1.p, hnb] at this
 obtain ⟨ta, t1, t2, t3, t4, t5, t6⟩ := side_left hX.ok ha hi
 obtain ⟨tb, j', u1, u2, u3, u4, u5, u6, u7⟩ := side_right hX.ok hb hj
 rw [hn] at u4 u6 u7
 have hlvs : Leaves s := by
  rw [← hs]
  intro t ht
  rcases List.mem_append.1 ht with ht | ht
  ·exact ha.leaves t (List.mem_of_mem_take ht)
  ·exact hb.leaves t (List.mem_of_mem_drop ht)
 have hin : ¬ (i = 0 ∧ j = 0) → ¬ (n = 0 ∧ i = na) → ¬ (i = 0 ∧ n = 0) → SplIn X ta tb s a b i n := fun q1 q2 q3 => ⟨t1, u1, t2, u2, t3, by omega, t5, u6, hlvs, fun e => q3 (by rw [e] at hsl; simp at hsl; omega), hsl, hl, hroom, fun q => q1 ⟨q.1, u7 q.2⟩, fun q => q2 ⟨q.1, by rw [← hna]; exact t6 q.2⟩, fun d e h1 h2 => by
  have h3 : tb.len - n = j' := by rw [← len_lay0 u1.gd]; omega
  rw [h3] at h2
  have h4 := SpI.start t1 u1 h1 h2
  rw [t4, u5, hs, u4] at h4
  exact h4⟩
 have HIB : Hid (IdIs X.S a sa ∧ IdIs X.S b sb ∧ sa.length = na ∧ sb.length = nb) := Lib.hid ⟨ha, hb, hna, hnb⟩
 have HXX := Lib.hid hX
 have hs2 := hs
 clear hs t1 t2 t3 t4 t5 t6 u1 u2 u3 u4 u5 u6 u7 hlvs hX ha hb hi hj hla hlb htpa htpb hal hbl hna hnb hn hsl hs2 hroom hl
 have hix0 : ∀ wr : World, (Instr.index 74 (.agg #[.int .i64 a, .int .i64 b]) (.int .i64 0)).run Tryd.prog wr = .ok (.int .i64 a) wr := fun wr => by kernel_rfl
 have hix1 : ∀ wr : World, (Instr.index 74 (.agg #[.int .i64 a, .int .i64 b]) (.int .i64 1)).run Tryd.prog wr = .ok (.int .i64 b) wr := fun wr => by kernel_rfl
 go_enter Tryd.func14, Tryd.ntmps14
 go_wp2_with (first | refine sL ?_ | (refine sS ?_; clear H; intros; rename_i H))
 go_loopg [23] 2 (fun mm v23 wr => TopRel X N w mm v23 wr)
 case atStart => exact ⟨X, .inl ⟨rfl, rfl⟩, ⟨.refl _, HXX.out, rfl⟩, H.picks (.cons (A := pA X) pk .nil)⟩
 case round =>
  clear H
  obtain ⟨X1, hk, hx1, H⟩ := hrel
  have HX1 := Lib.hid hx1
  clear hx1
  rcases hk with ⟨rfl, rfl⟩ | ⟨rfl, rfl⟩ | ⟨rfl, rfl⟩
  ·go_wp2_with (first | refine sL ?_ | (refine sS ?_; clear H; intros; rename_i H) | (go_at_call 24; with_reducible refine Calls.mono (HTA.out X1 _ HX1.out.1 HX1.out.2.1 HX1.out.2.2 (H.sepK HK pk pk)) ?_; rintro e9 wc ⟨X2, y1, y2, y3, rfl, hb⟩; have HY := Lib.hid (And.intro y1 (And.intro y2 y3)); clear y1 y2 y3; replace H := (H.pick (A := pA X1) pk).call hb; clear hb; simp only [List.cons_append, List.nil_append] at H))
   go_roundg 1
   case measure => omega
   case rel => exact ⟨X2, .inr (.inl ⟨rfl, rfl⟩), ⟨HX1.out.1.trans HY.out.1, HY.out.2.1, HY.out.2.2.trans HX1.out.2.2⟩, H.picks (.cons (A := pA X2) pk .nil)⟩
  ·go_wp2_with (first | refine sL ?_ | (refine sS ?_; clear H; intros; rename_i H) | (go_at_call 24; with_reducible refine Calls.mono (HTB.out X1 _ HX1.out.1 HX1.out.2.1 HX1.out.2.2 (H.sepK HK pk pk)) ?_; rintro e9 wc ⟨X2, y1, y2, y3, rfl, hb⟩; have HY := Lib.hid (And.intro y1 (And.intro y2 y3)); clear y1 y2 y3; replace H := (H.pick (A := pA X1) pk).call hb; clear hb; simp only [List.cons_append, List.nil_append] at H))
   go_roundg 0
   case measure => omega
   case rel => exact ⟨X2, .inr (.inr ⟨rfl, rfl⟩), ⟨HX1.out.1.trans HY.out.1, HY.out.2.1, HY.out.2.2.trans HX1.out.2.2⟩, H.picks (.cons (A := pA X2) pk .nil)⟩
  ·have HSA := Lib.hid (HSA0.out X1 HX1.out.1 HX1.out.2.1 HX1.out.2.2)
   have HSB := Lib.hid (HSB0.out X1 HX1.out.1 HX1.out.2.1 HX1.out.2.2)
   clear HSA0 HSB0 HTA HTB d1 d2 d3 d4 hix0 hix1
   by_cases hi0 : i = 0
   case' pos =>
    by_cases hj0 : j = 0
    case pos =>
     subst hi0 hj0
     clear hin
     go_wp2_with (first | refine sL ?_ | (refine sS ?_; clear H; intros; rename_i H) | (go_at_call 25; (first | (with_reducible refine Calls.mono (HSB.out _ (H.get (A := pA X1) pk)) ?_) | (with_reducible refine Calls.mono (HSA.out _ (H.get (A := pA X1) pk)) ?_)); rintro e9 wc ⟨rfl, hb⟩; replace H := H.grew hb.below; clear hb))
     go_ret2
     exact ⟨X1, b, rfl, HX1.out.1, HX1.out.2.1, by rw [HX1.out.2.2]; simpa using HIB.out.2.1, by rw [HX1.out.2.2]; omega, H.picks (.cons (A := pA X1) pk .nil)⟩
    have e1 : ((j : Int) == 0) = false := by simp; omega
    by_cases hn0 : n = 0
    case pos =>
     by_cases hia : i = na
     ·subst hi0 hn0
      subst hia
      have e2 := HIB.out.2.2.1
      clear hin
      go_wp2_with (first | refine sL ?_ | (refine sS ?_; clear H; intros; rename_i H) | (go_at_call 25; (first | (with_reducible refine Calls.mono (HSB.out _ (H.get (A := pA X1) pk)) ?_) | (with_reducible refine Calls.mono (HSA.out _ (H.get (A := pA X1) pk)) ?_)); rintro e9 wc ⟨rfl, hb⟩; replace H := H.grew hb.below; clear hb))
      go_ret2
      exact ⟨X1, a, rfl, HX1.out.1, HX1.out.2.1, by rw [HX1.out.2.2]; have h1 := HSS.out; have h2 : sb.drop j = [] := List.drop_of_length_le (by have := HIB.out.2.2.2; omega); have h3 := HIB.out.1; have h4 : sa = [] := List.eq_nil_of_length_eq_zero e2; rw [h2, h4]; rw [h4] at h3; simpa using h3, by rw [HX1.out.2.2]; omega, H.picks (.cons (A := pA X1) pk .nil)⟩
     ·subst hi0 hn0
      have e2 : (0 : Int) ≠ (na : Int) := by omega
      have e3 : ((0 : Int) == (na : Int)) = false := by simp; omega
      clear hin
      go_wp2_with (first | refine sL ?_ | (refine sS ?_; clear H; intros; rename_i H) | (go_at_call 25; (first | (with_reducible refine Calls.mono (HSB.out _ (H.get (A := pA X1) pk)) ?_) | (with_reducible refine Calls.mono (HSA.out _ (H.get (A := pA X1) pk)) ?_)); rintro e9 wc ⟨rfl, hb⟩; replace H := H.grew hb.below; clear hb))
      go_ret2
      exact ⟨X1, 0, rfl, HX1.out.1, HX1.out.2.1, by rw [show sa.take 0 ++ sb.drop j = [] by rw [List.drop_of_length_le (by have := HIB.out.2.2.2; omega)]; simp]; exact .inl ⟨rfl, rfl⟩, by rw [HX1.out.2.2]; omega, H.picks (.cons (A := pA X1) pk .nil)⟩
    have e0 : ((i : Int) == 0) = true := by simp [hi0]
    have e2 : ((n : Int) == 0) = false := by simp; omega
    have HIN := Lib.hid (hin (by omega) (by omega) (by omega))
    have HBR := Lib.hid (And.intro hi0 (And.intro hj0 hn0))
    clear hin hi0 hn0 hj0
   case' neg =>
    have e1 : ((i : Int) == 0) = false := by simp; omega
    by_cases hn0 : n = 0
    case' pos =>
     by_cases hia : i = na
     case pos =>
      subst hn0
      subst hia
      clear hin
      go_wp2_with (first | refine sL ?_ | (refine sS ?_; clear H; intros; rename_i H) | (go_at_call 25; (first | (with_reducible refine Calls.mono (HSB.out _ (H.get (A := pA X1) pk)) ?_) | (with_reducible refine Calls.mono (HSA.out _ (H.get (A := pA X1) pk)) ?_)); rintro e9 wc ⟨rfl, hb⟩; replace H := H.grew hb.below; clear hb))
      go_ret2
      exact ⟨X1, a, rfl, HX1.out.1, HX1.out.2.1, by rw [HX1.out.2.2]; rw [List.take_of_length_le (by have := HIB.out.2.2.1; omega), List.drop_of_length_le (by have := HIB.out.2.2.2; omega), List.append_nil]; exact HIB.out.1, by rw [HX1.out.2.2]; omega, H.picks (.cons (A := pA X1) pk .nil)⟩
     have e0 : ((n : Int) == 0) = true := by simp [hn0]
     have e3 : ((i : Int) == (na : Int)) = false := by simp; omega
     have HIN := Lib.hid (hin (by omega) (by omega) (by omega))
     have HBR := Lib.hid (And.intro hi0 (And.intro hia hn0))
     clear hin hi0 hn0 hia
    case' neg =>
     have e2 : ((n : Int) == 0) = false := by simp; omega
     have HIN := Lib.hid (hin (by omega) (by omega) (by omega))
     have HBR := Lib.hid (And.intro hi0 hn0)
     clear hin hi0 hn0
   all_goals
    first
    |exfalso; have h6 := HBR.out; have h9 := HCS.out; have h8 := HIB.out.2.2.1; have h7 := HIB.out.2.2.2; omega
    |skip
     have HN1 : Hid (∀ w, ((pA X1).sep deA).ho w → Calls Tryd.prog 26 #[.pointer (some ⟨X.p, 0, none⟩), .int .i64 a, .int .i64 (i : Nat), .bool false] w (fun e w' => ∃ (X' : Px) (pv' : Value) (fs' : List Fr) (id' ky' : Nat) (d : EndP), e = .returned (.agg #[.pointer (some ⟨X.p, 0, none⟩), .bool false, pv', .int .i64 id', .int .u64 ky']) ∧ X1.Ext X' ∧ PxOk X' ∧ X'.S = X1.S ∧ PathOf X'.S false d.1 fs' ∧ (match d.2 with | some x => Den X'.S id' x ∧ ky' = x.key | none => id' = 0 ∧ ky' = 0) ∧ (false = false → EndL ta 0 d ((ta.lay 0).take i)) ∧ (false = true → EndR ta 0 d ((ta.lay 0).drop (ta.len - i))) ∧ St w (pA X1).fp [pA X', rowsA encFr 112 8 pv' fs'] w')) := Lib.hid fun w h => by
      have := newEnd_any (bk := false) HX1.out.2.1 (fun q => by rw [HX1.out.2.2]; exact HIN.out.da q) HIN.out.ca.gd HIN.out.la HIN.out.ia w h
      rw [HX1.out.1.p] at this
      refine this.mono ?_
      rintro e w' ⟨X', pv', fs', id', ky', d, rfl, q⟩
      exact ⟨X', pv', fs', id', ky', d, by rw [HX1.out.1.p], q⟩
     have HN2 : Hid (∀ X2 : Px, X1.Ext X2 → PxOk X2 → X2.S = X1.S → ∀ w, ((pA X2).sep deA).ho w → Calls Tryd.prog 26 #[.pointer (some ⟨X.p, 0, none⟩), .int .i64 b, .int .i64 (n : Nat), .bool true] w (fun e w' => ∃ (X' : Px) (pv' : Value) (fs' : List Fr) (id' ky' : Nat) (d : EndP), e = .returned (.agg #[.pointer (some ⟨X.p, 0, none⟩), .bool true, pv', .int .i64 id', .int .u64 ky']) ∧ X2.Ext X' ∧ PxOk X' ∧ X'.S = X2.S ∧ PathOf X'.S true d.1 fs' ∧ (match d.2 with | some x => Den X'.S id' x ∧ ky' = x.key | none => id' = 0 ∧ ky' = 0) ∧ (true = false → EndL tb 0 d ((tb.lay 0).take n)) ∧ (true = true → EndR tb 0 d ((tb.lay 0).drop (tb.len - n))) ∧ St w (pA X2).fp [pA X', rowsA encFr 112 8 pv' fs'] w')) := Lib.hid fun X2 q1 q2 q3 w h => by
      have := newEnd_any (bk := true) q2 (fun q => by rw [q3, HX1.out.2.2]; exact HIN.out.db q) HIN.out.cb.gd HIN.out.lb HIN.out.nb w h
      rw [(HX1.out.1.trans q1).p] at this
      refine this.mono ?_
      rintro e w' ⟨X', pv', fs', id', ky', d, rfl, q⟩
      exact ⟨X', pv', fs', id', ky', d, by rw [(HX1.out.1.trans q1).p], q⟩
     go_wp2_with (first | refine sL ?_ | (refine sS ?_; clear H; intros; rename_i H) | (go_at_call 25; (first | (with_reducible refine Calls.mono (HSB.out _ (H.get (A := pA X1) pk)) ?_) | (with_reducible refine Calls.mono (HSA.out _ (H.get (A := pA X1) pk)) ?_)); rintro e9 wc ⟨rfl, hb⟩; replace H := H.grew hb.below; clear hb) | (first | (go_at_call 26; with_reducible refine Calls.mono (HN1.out _ (H.sepK (A := pA X1) HK pk pk)) ?_; rintro e9 wc ⟨X2, pl, fl, il, kl, dl, rfl, y1, y2, y3, y4, y5, y6, y7, hb⟩; have HYL := Lib.hid (And.intro y1 (And.intro y2 (And.intro y3 (And.intro y4 (And.intro y5 (And.intro y6 y7)))))); clear y1 y2 y3 y4 y5 y6 y7; replace H := (H.pick (A := pA X1) pk).call hb; clear hb; simp only [List.cons_append, List.nil_append] at H; obtain ⟨al, cl, e8, _⟩ := rowsA_shape (H.get (A := rowsA encFr 112 8 pl fl) pk); obtain ⟨nl, e7⟩ : ∃ l, fl.length = l := ⟨_, rfl⟩; rw [e7] at e8; clear e7; subst e8) | (go_at_call 26; with_reducible refine Calls.mono (HN2.out X2 HYL.out.1 HYL.out.2.1 HYL.out.2.2.1 _ (H.sepK (A := pA X2) HK pk pk)) ?_; rintro e9 wc ⟨X3, pr, fr, ir, kr, dr, rfl, y1, y2, y3, y4, y5, y6, y7, hb⟩; have HYR := Lib.hid (And.intro y1 (And.intro y2 (And.intro y3 (And.intro y4 (And.intro y5 (And.intro y6 y7)))))); clear y1 y2 y3 y4 y5 y6 y7; replace H := (H.pick (A := pA X2) pk).call hb; clear hb; simp only [List.cons_append, List.nil_append] at H; obtain ⟨ar, cr, e8, _⟩ := rowsA_shape (H.get (A := rowsA encFr 112 8 pr fr) pk); obtain ⟨nr, e7⟩ : ∃ l, fr.length = l := ⟨_, rfl⟩; rw [e7] at e8; clear e7; subst e8)))
     rename_i b17 _ _
     go_loopg [18] 25340 (fun mm v18 wr => SpRel X b17 ta tb s i n N w mm v18 wr)
     case atStart =>
      have hy := HYL.out
      have hz := HYR.out
      exact ⟨0, 1, X3, #[.pointer (some ⟨X.p, 0, none⟩), .pointer (some ⟨X.p, 0, none⟩), .bool false, .slice al nl cl, .int .i64 il, .int .u64 kl, .pointer (some ⟨X.p, 0, none⟩), .bool true, .slice ar nr cr, .int .i64 ir, .int .u64 kr, .slice none 0 0], .slice al nl cl, fl, il, kl, .slice ar nr cr, fr, ir, kr, .slice none 0 0, [], dl, dr, [], rfl, by omega, rfl, rfl, HIN.out.start dl dr (hy.2.2.2.2.2.1 (by first | rfl | trivial)) (hz.2.2.2.2.2.2 (by first | rfl | trivial)), ⟨HX1.out.1.trans (hy.1.trans hz.1), hz.2.1, ⟨rfl, by rw [(HX1.out.1.trans (hy.1.trans hz.1)).p]; rfl, rfl, ⟨⟨by simp, by rw [(HX1.out.1.trans (hy.1.trans hz.1)).p]; rfl, rfl, rfl, rfl, rfl⟩, by rw [hz.2.2.1]; exact hy.2.2.2.1, by rw [hz.2.2.1]; exact hy.2.2.2.2.1⟩, ⟨⟨by simp, by rw [(HX1.out.1.trans (hy.1.trans hz.1)).p]; rfl, rfl, rfl, rfl, rfl⟩, hz.2.2.2.1, hz.2.2.2.2.1⟩, trivial⟩, by rw [hz.2.2.1, hy.2.2.1, HX1.out.2.2]; exact Nat.le_refl _⟩, (H.empty (A := rowsA encIt 86 4 (.slice none 0 0) []) (rowsA_nil _) (by rw [rowsA_fp]; rfl)).picks (.cons (A := pA X3) pk (.cons (A := blk b17 (.cells #[.pointer (some ⟨X.p, 0, none⟩), .pointer (some ⟨X.p, 0, none⟩), .bool false, .slice al nl cl, .int .i64 il, .int .u64 kl, .pointer (some ⟨X.p, 0, none⟩), .bool true, .slice ar nr cr, .int .i64 ir, .int .u64 kr, .slice none 0 0] 82)) pk (.cons (A := rowsA encFr 112 8 (.slice al nl cl) fl) pk (.cons (A := rowsA encFr 112 8 (.slice ar nr cr) fr) pk (.cons (A := rowsA encIt 86 4 (.slice none 0 0) []) pk .nil)))))⟩
     case round =>
      clear H HYL HYR HX1
      obtain ⟨m, lv, X1, cs, pl, fl, il, kl, pr, fr, ir, kr, mv, rs, d, e, M, rfl, hm, hlv, rfl, hI, hrel, H⟩ := hrel
      have HLV := Lib.hid hlv
      have HI := Lib.hid hI
      have HREL := Lib.hid hrel
      have hlvb : lv ≤ 25339 := by omega
      have HGA : Hid (∀ w, (((pA X1).sep ((blk b17 (.cells cs 82)).sep ((rowsA encFr 112 8 pl fl).sep ((rowsA encFr 112 8 pr fr).sep (rowsA encIt 86 4 mv rs))))).sep deA).ho w → Calls Tryd.prog 27 #[.pointer (some ⟨b17, 0, none⟩), .int .i64 lv] w fun x w' => ∃ d1 e2 M2, GatR lv d e M d1 e2 M2 ∧ SpPost X1 b17 ((pA X1).sep ((blk b17 (.cells cs 82)).sep ((rowsA encFr 112 8 pl fl).sep ((rowsA encFr 112 8 pr fr).sep (rowsA encIt 86 4 mv rs))))).fp w (.tuple #[]) d1 e2 M2 x w') := Lib.hid fun w h => gather_c HREL.out.2.1 HREL.out.2.2.1 HI.out HLV.out (by omega) HIN.out.cnt HIN.out.la HIN.out.lb w h
      clear hlv hI hrel
      go_wp2_with (first | refine sL ?_ | (refine sS ?_; clear H; intros; rename_i H) | (go_at_call 27; with_reducible refine Calls.mono (HGA.out _ ((St.join5 (H.pick5 (A := pA X1) (B := blk b17 (.cells cs 82)) (C := rowsA encFr 112 8 pl fl) (D := rowsA encFr 112 8 pr fr) (E := rowsA encIt 86 4 mv rs) pk pk pk pk pk)).sepK HK pk pk)) ?_; rintro e9 wc ⟨d2, e2, M2, hgr, X2, cs2, pl2, fl2, il2, kl2, pr2, fr2, ir2, kr2, mv2, rs2, rfl, y1, y2, y3, y4, hb⟩; have HY2 := Lib.hid (And.intro hgr (And.intro y1 (And.intro y2 (And.intro y3 y4)))); clear hgr y1 y2 y3 y4; replace H := (St.join5 (H.pick5 (A := pA X1) (B := blk b17 (.cells cs 82)) (C := rowsA encFr 112 8 pl fl) (D := rowsA encFr 112 8 pr fr) (E := rowsA encIt 86 4 mv rs) pk pk pk pk pk)).call hb; clear hb; simp only [List.cons_append, List.nil_append] at H))
      have hok := HI.out.gat HIN.out.leaves (by have := HY2.out.1; rwa [HLV.out] at this)
      have hme := fun w h => merge_c (b := b17) HY2.out.2.2.1 HY2.out.2.2.2.2 hok HIN.out.ca.gd HIN.out.cb.gd HLV.out (by omega) ⟨HIN.out.cnt, by rw [leaves_lenL HIN.out.leaves]; exact HIN.out.cnt⟩ HIN.out.la HIN.out.lb (by
       have h1 := hok.cnt
       have h2 := HREL.out.2.2.2
       have h3 := HIN.out.room
       have h4 : X2.S.most = X.S.most := (HREL.out.1.trans HY2.out.2.1).le.1
       have h5 : X2.S = X1.S := HY2.out.2.2.2.1
       rw [h5] at h4 ⊢
       omega) w h
      have HME : Hid (∀ w, (((pA X2).sep ((blk b17 (.cells cs2 82)).sep ((rowsA encFr 112 8 pl2 fl2).sep ((rowsA encFr 112 8 pr2 fr2).sep (rowsA encIt 86 4 mv2 rs2))))).sep deA).ho w → Calls Tryd.prog 28 #[.pointer (some ⟨b17, 0, none⟩), .int .i64 lv] w fun x w' => ∃ (X' : Px) (cs' : Array Value) (pl' : Value) (fl' : List Fr) (il' kl' : Nat) (pr' : Value) (fr' : List Fr) (ir' kr' : Nat) (mv' : Value) (rs' : List ItR), x = .returned .nilIface ∧ X2.Ext X' ∧ PxOk X' ∧ SpIn X' cs' pl' fl' il' kl' pr' fr' ir' kr' mv' rs' (upT false lv d2) (upT true lv e2) (MrgF lv M2) ∧ X'.S.list.length + (expI (MrgF lv M2)).length ≤ X2.S.list.length + (expI M2).length ∧ St w ((pA X2).sep ((blk b17 (.cells cs2 82)).sep ((rowsA encFr 112 8 pl2 fl2).sep ((rowsA encFr 112 8 pr2 fr2).sep (rowsA encIt 86 4 mv2 rs2))))).fp [pA X', blk b17 (.cells cs' 82), rowsA encFr 112 8 pl' fl', rowsA encFr 112 8 pr' fr', rowsA encIt 86 4 mv' rs'] w') := Lib.hid hme
      have HOK := Lib.hid hok
      clear hok hme
      go_at_call 28; with_reducible refine Calls.mono (HME.out _ ((St.join5 (H.pick5 (A := pA X2) (B := blk b17 (.cells cs2 82)) (C := rowsA encFr 112 8 pl2 fl2) (D := rowsA encFr 112 8 pr2 fr2) (E := rowsA encIt 86 4 mv2 rs2) pk pk pk pk pk)).sepK HK pk pk)) ?_; rintro e9 wc ⟨X3, cs3, pl3, fl3, il3, kl3, pr3, fr3, ir3, kr3, mv3, rs3, rfl, y1, y2, y4, y5, hb⟩; have HY3 := Lib.hid (And.intro y1 (And.intro y2 (And.intro y4 y5))); clear y1 y2 y4 y5; replace H := (St.join5 (H.pick5 (A := pA X2) (B := blk b17 (.cells cs2 82)) (C := rowsA encFr 112 8 pl2 fl2) (D := rowsA encFr 112 8 pr2 fr2) (E := rowsA encIt 86 4 mv2 rs2) pk pk pk pk pk)).call hb; clear hb; simp only [List.cons_append, List.nil_append] at H
      have HI3 : Hid (SpI ta tb s i n (m + 1) (upT false lv d2) (upT true lv e2) (MrgF lv M2)) := Lib.hid (HI.out.next (by have := HY2.out.1.lev; rwa [HLV.out] at this ⊢))
      have HREL3 : Hid (X.Ext X3 ∧ PxOk X3 ∧ SpIn X3 cs3 pl3 fl3 il3 kl3 pr3 fr3 ir3 kr3 mv3 rs3 (upT false lv d2) (upT true lv e2) (MrgF lv M2) ∧ X3.S.list.length + (seqP s (m + 1)).length ≤ X.S.list.length + s.length) := Lib.hid ⟨HREL.out.1.trans (HY2.out.2.1.trans HY3.out.1), HY3.out.2.1, HY3.out.2.2.1, by
       have h1 := HOK.out.gain
       rw [← HLV.out] at h1 ⊢
       have h2 := HREL.out.2.2.2
       have h3 := HY3.out.2.2.2
       have h5 : X2.S = X1.S := HY2.out.2.2.2.1
       rw [h5] at h3
       omega⟩
      have HEND : Hid (25339 ≤ m + 1 → (upT false lv d2).2 = none ∧ (upT true lv e2).2 = none ∧ ∃ T, MrgF lv M2 = [⟨T, none, 1⟩]) := Lib.hid fun q => HI3.out.ends HIN.out.leaves HIN.out.ne HIN.out.len (by have := HIN.out.cnt; omega) q HIN.out.la HIN.out.lb HIN.out.ia HIN.out.nb HIN.out.n1 HIN.out.n2
      have D4 := Lib.hid HREL3.out.2.2.1.c4
      have D9 := Lib.hid HREL3.out.2.2.1.c9
      have D11 := Lib.hid HREL3.out.2.2.1.c11
      clear HGA HME HY2 HY3 HREL HI HOK
      by_cases c1 : il3 = 0
      ·by_cases c2 : ir3 = 0
       ·by_cases c3 : rs3.length = 1
        ·obtain ⟨r3, hr3⟩ : ∃ r, rs3 = [r] := by
          match rs3, c3 with
          |[r], _ => exact ⟨r, rfl⟩
         subst hr3
         obtain ⟨g3, c3', e5, _, _⟩ := rowsA_cases (H.get (A := rowsA encIt 86 4 mv3 [r3]) pk) (by simp)
         simp only [List.length_cons, List.length_nil] at e5
         subst e5
         have HR3 : Hid (∀ w, (rowsA encIt 86 4 (.slice (some ⟨g3, 0, none⟩) 1 c3') [r3]).ho w → w.cell? ⟨g3, 3, none⟩ = some (.int .i64 r3.n)) := Lib.hid fun w h => rowsA_cell (i := 0) (j := 3) h encIt_len rfl rfl
         have HR0 : Hid (∀ w, (rowsA encIt 86 4 (.slice (some ⟨g3, 0, none⟩) 1 c3') [r3]).ho w → w.cell? ⟨g3, 0, none⟩ = some (.int .i64 r3.id)) := Lib.hid fun w h => rowsA_cell (i := 0) (j := 0) h encIt_len rfl rfl
         subst c1 c2
         by_cases c4 : r3.n = 1
         ·have e4 : ((r3.n : Int) == 1) = true := by simp [c4]
          have HFIN : Hid (IdIs X3.S r3.id s) := Lib.hid (by
           have h1 := HREL3.out.2.2.1
           have h2 := h1.left.id_zero.1 rfl
           have h3 := h1.right.id_zero.1 rfl
           obtain ⟨ix, hx⟩ : ∃ ix, MrgF lv M2 = [ix] := by
            have := h1.its.len
            match hq : MrgF lv M2, this with
            |[ix], _ => exact ⟨ix, rfl⟩
            |[], h => simp at h
            |_ :: _ :: _, h => simp at h
           have h4 := h1.its
           have h5 := HI3.out
           rw [hx] at h4 h5
           have h6 := h4.1.n
           obtain ⟨xt, xn, xc⟩ := ix
           simp only at h6
           rw [c4] at h6
           subst h6
           obtain ⟨q1, q2, _⟩ := h5.done (k := 0) HIN.out.leaves h2 h3
           exact .inr ⟨xt, h4.1.den, q1, q2⟩)
          go_wp2_with (first | refine sL ?_ | (refine sS ?_; clear H; intros; rename_i H))
          go_ret2
          exact ⟨X3, r3.id, rfl, HREL3.out.1, HREL3.out.2.1, by rw [HSS.out]; exact HFIN.out, by rw [HSS.out]; have := HREL3.out.2.2.2; omega, H.picks (.cons (A := pA X3) pk .nil)⟩
         ·have e4 : ((r3.n : Int) == 1) = false := by simp; omega
          have HND : Hid (m + 1 < 25339) := Lib.hid (by
           refine Nat.lt_of_not_le fun q => ?_
           obtain ⟨_, _, TT, hT⟩ := HEND.out q
           have h4 := HREL3.out.2.2.1.its
           rw [hT] at h4
           exact c4 h4.1.n)
          go_wp2_with (first | refine sL ?_ | (refine sS ?_; clear H; intros; rename_i H))
          go_roundg (25340 - (m + 1))
          case measure => omega
          case rel => exact ⟨m + 1, lv + 1, X3, cs3, pl3, fl3, 0, kl3, pr3, fr3, 0, kr3, (.slice (some ⟨g3, 0, none⟩) 1 c3'), [r3], _, _, _, rfl, HND.out, by rw [HLV.out], by simp, HI3.out, HREL3.out, H.picks (.cons (A := pA X3) pk (.cons (A := blk b17 (.cells cs3 82)) pk (.cons (A := rowsA encFr 112 8 pl3 fl3) pk (.cons (A := rowsA encFr 112 8 pr3 fr3) pk (.cons (A := rowsA encIt 86 4 (.slice (some ⟨g3, 0, none⟩) 1 c3') [r3]) pk .nil)))))⟩
        ·obtain ⟨a3, c3', e5, _⟩ := rowsA_shape (H.get (A := rowsA encIt 86 4 mv3 rs3) pk)
         obtain ⟨n3, hn3⟩ : ∃ n, rs3.length = n := ⟨_, rfl⟩
         rw [hn3] at e5 c3
         subst e5
         have e4 : ((n3 : Int) == 1) = false := by simp; omega
         have hn3b : n3 ≤ 1048576 := by
          have h1 := HREL3.out.2.2.1.its.len
          have h2 := HI3.out.zero.cnt
          have h3 := HIN.out.cnt
          omega
         have HND : Hid (m + 1 < 25339) := Lib.hid (by
          refine Nat.lt_of_not_le fun q => ?_
          obtain ⟨_, _, TT, hT⟩ := HEND.out q
          have h4 := HREL3.out.2.2.1.its.len
          rw [hT, hn3] at h4
          exact c3 h4)
         subst c1 c2
         go_wp2_with (first | refine sL ?_ | (refine sS ?_; clear H; intros; rename_i H))
         go_roundg (25340 - (m + 1))
         case measure => omega
         case rel => exact ⟨m + 1, lv + 1, X3, cs3, pl3, fl3, 0, kl3, pr3, fr3, 0, kr3, (.slice a3 n3 c3'), rs3, _, _, _, rfl, HND.out, by rw [HLV.out], by simp, HI3.out, HREL3.out, H.picks (.cons (A := pA X3) pk (.cons (A := blk b17 (.cells cs3 82)) pk (.cons (A := rowsA encFr 112 8 pl3 fl3) pk (.cons (A := rowsA encFr 112 8 pr3 fr3) pk (.cons (A := rowsA encIt 86 4 (.slice a3 n3 c3') rs3) pk .nil)))))⟩
       ·have e4 : ((ir3 : Int) == 0) = false := by simp; omega
        have HND : Hid (m + 1 < 25339) := Lib.hid (by
         refine Nat.lt_of_not_le fun q => ?_
         exact c2 (HREL3.out.2.2.1.right.id_zero.2 (HEND.out q).2.1))
        subst c1
        go_wp2_with (first | refine sL ?_ | (refine sS ?_; clear H; intros; rename_i H))
        go_roundg (25340 - (m + 1))
        case measure => omega
        case rel => exact ⟨m + 1, lv + 1, X3, cs3, pl3, fl3, 0, kl3, pr3, fr3, ir3, kr3, mv3, rs3, _, _, _, rfl, HND.out, by rw [HLV.out], by simp, HI3.out, HREL3.out, H.picks (.cons (A := pA X3) pk (.cons (A := blk b17 (.cells cs3 82)) pk (.cons (A := rowsA encFr 112 8 pl3 fl3) pk (.cons (A := rowsA encFr 112 8 pr3 fr3) pk (.cons (A := rowsA encIt 86 4 mv3 rs3) pk .nil)))))⟩
      ·have e4 : ((il3 : Int) == 0) = false := by simp; omega
       have HND : Hid (m + 1 < 25339) := Lib.hid (by
        refine Nat.lt_of_not_le fun q => ?_
        exact c1 (HREL3.out.2.2.1.left.id_zero.2 (HEND.out q).1))
       go_wp2_with (first | refine sL ?_ | (refine sS ?_; clear H; intros; rename_i H))
       go_roundg (25340 - (m + 1))
       case measure => omega
       case rel => exact ⟨m + 1, lv + 1, X3, cs3, pl3, fl3, il3, kl3, pr3, fr3, ir3, kr3, mv3, rs3, _, _, _, rfl, HND.out, by rw [HLV.out], by simp, HI3.out, HREL3.out, H.picks (.cons (A := pA X3) pk (.cons (A := blk b17 (.cells cs3 82)) pk (.cons (A := rowsA encFr 112 8 pl3 fl3) pk (.cons (A := rowsA encFr 112 8 pr3 fr3) pk (.cons (A := rowsA encIt 86 4 mv3 rs3) pk .nil)))))⟩) : P := h
theorem splice_g1 {X : Px} {a b i j : Nat} {sa sb : List Tr} (hX : PxOk X) (ha : IdIs X.S a sa) (hb : IdIs X.S b sb) (hi : i ≤ sa.length) (hj : j ≤ sb.length) (hl : (sa.take i ++ sb.drop j).length ≤ 1048576) (hroom : X.S.list.length + (sa.take i ++ sb.drop j).length ≤ X.S.most) (hc : i = 0 ∧ ¬ j = 0 ∧ ¬ sb.length - j = 0) (w : World) (h : ((pA X).sep deA).ho w) :
  Calls Tryd.prog 14 #[.pointer (some ⟨X.p, 0, none⟩), .int .i64 a, .int .i64 (i : Nat), .int .i64 b, .int .i64 (j : Nat)] w fun e w' => ∃ (X' : Px) (id : Nat), e = .returned (.tuple #[.int .i64 id, .nilIface]) ∧ X.Ext X' ∧ PxOk X' ∧ IdIs X'.S id (sa.take i ++ sb.drop j) ∧ X'.S.list.length ≤ X.S.list.length + (sa.take i ++ sb.drop j).length ∧ St w (pA X).fp [pA X'] w' := by
 exact splAll
theorem splice_g2 {X : Px} {a b i j : Nat} {sa sb : List Tr} (hX : PxOk X) (ha : IdIs X.S a sa) (hb : IdIs X.S b sb) (hi : i ≤ sa.length) (hj : j ≤ sb.length) (hl : (sa.take i ++ sb.drop j).length ≤ 1048576) (hroom : X.S.list.length + (sa.take i ++ sb.drop j).length ≤ X.S.most) (hc : ¬ i = 0 ∧ sb.length - j = 0 ∧ ¬ i = sa.length) (w : World) (h : ((pA X).sep deA).ho w) :
  Calls Tryd.prog 14 #[.pointer (some ⟨X.p, 0, none⟩), .int .i64 a, .int .i64 (i : Nat), .int .i64 b, .int .i64 (j : Nat)] w fun e w' => ∃ (X' : Px) (id : Nat), e = .returned (.tuple #[.int .i64 id, .nilIface]) ∧ X.Ext X' ∧ PxOk X' ∧ IdIs X'.S id (sa.take i ++ sb.drop j) ∧ X'.S.list.length ≤ X.S.list.length + (sa.take i ++ sb.drop j).length ∧ St w (pA X).fp [pA X'] w' := by
 exact splAll
theorem splice_g3 {X : Px} {a b i j : Nat} {sa sb : List Tr} (hX : PxOk X) (ha : IdIs X.S a sa) (hb : IdIs X.S b sb) (hi : i ≤ sa.length) (hj : j ≤ sb.length) (hl : (sa.take i ++ sb.drop j).length ≤ 1048576) (hroom : X.S.list.length + (sa.take i ++ sb.drop j).length ≤ X.S.most) (hc : ¬ i = 0 ∧ ¬ sb.length - j = 0) (w : World) (h : ((pA X).sep deA).ho w) :
  Calls Tryd.prog 14 #[.pointer (some ⟨X.p, 0, none⟩), .int .i64 a, .int .i64 (i : Nat), .int .i64 b, .int .i64 (j : Nat)] w fun e w' => ∃ (X' : Px) (id : Nat), e = .returned (.tuple #[.int .i64 id, .nilIface]) ∧ X.Ext X' ∧ PxOk X' ∧ IdIs X'.S id (sa.take i ++ sb.drop j) ∧ X'.S.list.length ≤ X.S.list.length + (sa.take i ++ sb.drop j).length ∧ St w (pA X).fp [pA X'] w' := by
 exact splAll
theorem splice_g0 {X : Px} {a b i j : Nat} {sa sb : List Tr} (hX : PxOk X) (ha : IdIs X.S a sa) (hb : IdIs X.S b sb) (hi : i ≤ sa.length) (hj : j ≤ sb.length) (hl : (sa.take i ++ sb.drop j).length ≤ 1048576) (hroom : X.S.list.length + (sa.take i ++ sb.drop j).length ≤ X.S.most) (hc : (i = 0 ∧ j = 0) ∨ (sb.length - j = 0 ∧ (i = 0 ∨ i = sa.length))) (w : World) (h : ((pA X).sep deA).ho w) :
  Calls Tryd.prog 14 #[.pointer (some ⟨X.p, 0, none⟩), .int .i64 a, .int .i64 (i : Nat), .int .i64 b, .int .i64 (j : Nat)] w fun e w' => ∃ (X' : Px) (id : Nat), e = .returned (.tuple #[.int .i64 id, .nilIface]) ∧ X.Ext X' ∧ PxOk X' ∧ IdIs X'.S id (sa.take i ++ sb.drop j) ∧ X'.S.list.length ≤ X.S.list.length + (sa.take i ++ sb.drop j).length ∧ St w (pA X).fp [pA X'] w' := by
 exact splAll
theorem splice_c {X : Px} {a b i j : Nat} {sa sb : List Tr} (hX : PxOk X) (ha : IdIs X.S a sa) (hb : IdIs X.S b sb) (hi : i ≤ sa.length) (hj : j ≤ sb.length) (hl : (sa.take i ++ sb.drop j).length ≤ 1048576) (hroom : X.S.list.length + (sa.take i ++ sb.drop j).length ≤ X.S.most) (w : World) (h : ((pA X).sep deA).ho w) :
  Calls Tryd.prog 14 #[.pointer (some ⟨X.p, 0, none⟩), .int .i64 a, .int .i64 (i : Nat), .int .i64 b, .int .i64 (j : Nat)] w fun e w' => ∃ (X' : Px) (id : Nat), e = .returned (.tuple #[.int .i64 id, .nilIface]) ∧ X.Ext X' ∧ PxOk X' ∧ IdIs X'.S id (sa.take i ++ sb.drop j) ∧ X'.S.list.length ≤ X.S.list.length + (sa.take i ++ sb.drop j).length ∧ St w (pA X).fp [pA X'] w' := by
 by_cases g1 : i = 0 ∧ ¬ j = 0 ∧ ¬ sb.length - j = 0
 ·exact splice_g1 hX ha hb hi hj hl hroom g1 w h
 by_cases g2 : ¬ i = 0 ∧ sb.length - j = 0 ∧ ¬ i = sa.length
 ·exact splice_g2 hX ha hb hi hj hl hroom g2 w h
 by_cases g3 : ¬ i = 0 ∧ ¬ sb.length - j = 0
 ·exact splice_g3 hX ha hb hi hj hl hroom g3 w h
 exact splice_g0 hX ha hb hi hj hl hroom (by omega) w h
end
section
theorem step_cut {m : Nat} {a : Tr} (h : Canon a) {A C B : List Tr} (e : a.lay (m + 1) = A ++ C ++ B) (hC : C.flatMap (Tr.lay m) ≠ []) : stepP (m + 1) (C.flatMap (Tr.lay m)) = C := by
 have e1 : a.lay (m + 1) = A ++ (C ++ B) := by rw [e]; simp
 have hd : ∀ y, (C.flatMap (Tr.lay m)).head? = some y → ((C ++ B).flatMap (Tr.lay m)).head? = some y := fun y hy => by
  rw [List.flatMap_append]
  cases hq : C.flatMap (Tr.lay m) with
  |nil => exact absurd hq hC
  |cons z l => rw [hq] at hy; simpa using hy
 by_cases he : m % 2 = 0
 ·obtain ⟨_, c2, c3⟩ := cut_runs he h e1
  obtain ⟨_, _, d3⟩ := cut_runs he h e
  have h1 := d3 [] (fun x y _ hy => by simp at hy)
  have h2 := c3 (C.flatMap (Tr.lay m)) (fun x y hx hy => c2 x y hx (hd y hy))
  rw [List.flatMap_append, List.append_nil, h2] at h1
  have h3 : runs ([] : List Tr) = [] := rfl
  rw [h3, List.append_nil] at h1
  rw [step_odd he]
  exact List.append_cancel_left h1
 ·have ho : m % 2 = 1 := by omega
  obtain ⟨_, c2, c3⟩ := cut_pairs ho h e1
  obtain ⟨_, _, d3⟩ := cut_pairs ho h e
  have h1 := d3 [] (fun x y _ _ hy => by simp at hy)
  have h2 := c3 (C.flatMap (Tr.lay m)) (fun x y hx hl hy => c2 x y hx hl (hd y hy))
  rw [List.flatMap_append, List.append_nil, h2] at h1
  have h3 : pairsF (fits (m + 1)) ([] : List Tr) = [] := by simp [pairsF]
  rw [h3, List.append_nil] at h1
  rw [step_even ho]
  exact List.append_cancel_left h1
theorem Canon.kid {a c : Tr} (h : Canon a) {j : Nat} (hj : (kids a)[j]? = some c) : Canon c := by
 have hc := h.gd.kid (List.mem_of_getElem? hj)
 have hk : kids a = (kids a).take j ++ c :: (kids a).drop (j + 1) := by
  have hlt := gelt hj
  rw [List.getElem?_eq_getElem hlt] at hj
  injection hj with hj
  conv => lhs; rw [← List.take_append_drop j (kids a), List.drop_eq_getElem_cons hlt, hj]
 have hlay : ∀ m, m < a.lv → a.lay m = ((kids a).take j).flatMap (Tr.lay m) ++ c.lay m ++ ((kids a).drop (j + 1)).flatMap (Tr.lay m) := fun m hm => by
  rw [lay_high hm]
  conv => lhs; rw [hk]
  rw [List.flatMap_append, List.flatMap_cons]
  simp
 refine ⟨fun t ht => h.leaves t (by rw [hlay 0 (by omega)]; simp [ht]), fun m => ?_⟩
 induction m with
 |zero => rfl
 |succ m ih =>
  show stepP (m + 1) (seqP (c.lay 0) m) = c.lay (m + 1)
  rw [ih]
  by_cases hm : c.lv ≤ m
  ·rw [lay_low hm, lay_low (Nat.le_succ_of_le hm), step_one]
  ·have h1 := step_cut h (m := m) (hlay (m + 1) (by omega))
   rw [lay_lay (Nat.le_succ m) c] at h1
   refine h1 fun e => ?_
   have := lay_pos (m := m) hc.1.2
   rw [e] at this
   simp at this
theorem copy_part {α : Type} (l : List α) (k q r n : Nat) (hr : r + n ≤ l.length) (hq : q < k) : (((List.replicate k l).flatten).drop (q * l.length + r)).take n = (l.drop r).take n := by
 obtain ⟨d, rfl⟩ : ∃ d, k = q + (d + 1) := ⟨k - q - 1, by omega⟩
 rw [← List.replicate_append_replicate, List.flatten_append, List.replicate_succ, List.flatten_cons]
 have h1 : ((List.replicate q l).flatten).length = q * l.length := by simp
 rw [List.drop_append, h1, List.drop_of_length_le (by omega), List.nil_append, show q * l.length + r - q * l.length = r by omega, List.drop_append_of_le_length (by omega), List.take_append_of_le_length (by simp; omega)]
theorem part_left {α : Type} (a b : List α) (f n : Nat) (h : f + n ≤ a.length) : ((a ++ b).drop f).take n = (a.drop f).take n := by
 rw [List.drop_append_of_le_length (by omega), List.take_append_of_le_length (by simp; omega)]
theorem part_right {α : Type} (a b : List α) (f n : Nat) (h : a.length ≤ f) : ((a ++ b).drop f).take n = (b.drop (f - a.length)).take n := by
 rw [List.drop_append, List.drop_of_length_le h, List.nil_append]
theorem pair_lay0 {l r : Tr} (h : (Tr.pair l r).Gd) : (Tr.pair l r).lay 0 = l.lay 0 ++ r.lay 0 := by
 rw [lay_high (by have := (h.kid (c := l) (by simp [kids])).2; omega)]; simp [kids]
theorem pow_lay0 {s : Tr} {k : Nat} (h : (Tr.pow s k).Gd) : (Tr.pow s k).lay 0 = (List.replicate k (s.lay 0)).flatten := by
 have hk : 2 ≤ k := h.2.2
 rw [lay_high (by have := (h.kid (c := s) (List.mem_replicate.2 ⟨by omega, rfl⟩)).2; omega)]; simp [kids, List.flatMap_replicate]
end
section
open Go.RowKit Go.Maps
attribute [local go_sem] InGr
theorem weight_any {X : Px} {id : Nat} {s : List Tr} (hX : PxOk X) (hd : IdIs X.S id s) : ∃ a2 a3 a4 a5 a6 : Nat, ∀ (X1 : Px) (w : World), X.Ext X1 → X1.S = X.S → (pA X1).ho w → Calls Tryd.prog 23 #[.pointer (some ⟨X.s, 0, none⟩), .int .i64 id] w fun e w' => e = .returned (.tuple #[.agg #[.int .i64 (s.length : Nat), .int .i64 a2, .int .i64 a3, .int .i64 a4, .int .u64 a5, .int .u64 a6], .nilIface]) ∧ St w [] [] w' := by
 rcases hd with ⟨rfl, rfl⟩ | ⟨T, h1, h2, rfl⟩
 ·refine ⟨En.unit.w.lines, En.unit.w.head, En.unit.w.tail, En.unit.w.val, En.unit.w.scale, fun X1 w q1 q2 h => ?_⟩
  have := weight_c (i := 0) rfl w (pA_sto h)
  rw [q1.s] at this
  exact this
 ·obtain ⟨i, x, rfl, hx, ht⟩ := den_get h1
  have hl := (tr_len hX.ok i x hx).1
  rw [ht] at hl
  refine ⟨x.w.lines, x.w.head, x.w.tail, x.w.val, x.w.scale, fun X1 w q1 q2 h => ?_⟩
  have := weight_c (i := i + 1) (S := X1.S) (x := x) (by rw [q2]; exact hx) w (pA_sto h)
  rw [q1.s] at this
  rw [len_lay0 h2.gd, hl]
  exact this
theorem check_c {X : Px} {x : Nat} {s : List Tr} (hX : PxOk X) (hd : IdIs X.S x s) (w : World) (h : PH X w) :
  Calls Tryd.prog 13 #[.pointer (some ⟨X.p, 0, none⟩), .int .i64 x] w (PPost X (.tuple #[.int .i64 (s.length : Nat), .nilIface]) (pA X).fp w) := by
 have h : ((pA X).sep deA).ho w := h
 rw [sep_ho] at h
 obtain ⟨k1, k2, hdd⟩ := h
 have H := St.one k1
 have HK : Ks w (pA X).fp [deA] := ⟨by simpa using k2, by simpa using fun b hb hm => hdd b hm hb⟩
 generalize (pA X).fp = N at *
 clear k1 k2 hdd
 obtain ⟨a2, a3, a4, a5, a6, hw⟩ := weight_any hX hd
 obtain ⟨l, _, htop⟩ := top_any hX hd
 have HW : Hid (∀ w, (pA X).ho w → Calls Tryd.prog 23 #[.pointer (some ⟨X.s, 0, none⟩), .int .i64 x] w fun e w' => e = .returned (.tuple #[.agg #[.int .i64 (s.length : Nat), .int .i64 a2, .int .i64 a3, .int .i64 a4, .int .u64 a5, .int .u64 a6], .nilIface]) ∧ St w [] [] w') := Lib.hid fun w h => hw X w (.refl _) rfl h
 have HS : Hid (∀ w, (pA X).ho w → Calls Tryd.prog 22 #[.pointer (some ⟨X.p, 0, none⟩)] w fun e w' => e = .returned (.pointer (some ⟨X.s, 0, none⟩)) ∧ w' = w) := Lib.hid fun w h => store_p w h
 have HT : Hid (∀ w, ((pA X).sep deA).ho w → Calls Tryd.prog 24 #[.pointer (some ⟨X.p, 0, none⟩), .int .i64 x] w (PPost X (.tuple #[.int .i64 (l : Nat), .nilIface]) (pA X).fp w)) := Lib.hid fun w h => htop X w (.refl _) hX rfl h
 obtain ⟨n, hn⟩ : ∃ n, s.length = n := ⟨_, rfl⟩
 rw [hn] at HW ⊢
 clear hX hd hw htop hn
 go_enter Tryd.func13, Tryd.ntmps13
 go_wp2_with (first | refine sL ?_ | (refine sS ?_; clear H; intros; rename_i H) | (go_at_call 22; with_reducible refine same (HS.out _ (H.get (A := pA X) pk)) ?_) | (go_at_call 23; with_reducible refine Calls.mono (HW.out _ (H.get (A := pA X) pk)) ?_; rintro e9 wc ⟨rfl, hb⟩; replace H := H.grew hb.below; clear hb) | (go_at_call 24; with_reducible refine Calls.mono (HT.out _ (H.sepK HK pk pk)) ?_; rintro e9 wc ⟨X2, y1, y2, y3, rfl, hb⟩; have HY := Lib.hid (And.intro y1 (And.intro y2 y3)); clear y1 y2 y3; replace H := (H.pick (A := pA X) pk).call hb; clear hb; simp only [List.cons_append, List.nil_append] at H))
 go_ret2
 exact ⟨X2, HY.out.1, HY.out.2.1, HY.out.2.2, rfl, H.picks (.cons (A := pA X2) pk .nil)⟩
theorem inner_c {X : Px} {x from_ n : Nat} {s : List Tr} (hX : PxOk X) (hd : IdIs X.S x s) (hf : from_ + n ≤ s.length) (hl : s.length ≤ 1048576) (hroom : X.S.list.length + 2 * s.length ≤ X.S.most) (w : World) (h : PH X w) :
  Calls Tryd.prog 56 #[.pointer (some ⟨X.p, 0, none⟩), .int .i64 x, .int .i64 (from_ : Nat), .int .i64 (n : Nat)] w fun e w' => ∃ (X' : Px) (id : Nat), e = .returned (.tuple #[.int .i64 id, .nilIface]) ∧ X.Ext X' ∧ PxOk X' ∧ IdIs X'.S id ((s.drop from_).take n) ∧ X'.S.list.length ≤ X.S.list.length + 2 * s.length ∧ St w (pA X).fp [pA X'] w' := by
 have h : ((pA X).sep deA).ho w := h
 rw [sep_ho] at h
 obtain ⟨k1, k2, hdd⟩ := h
 have H := St.one k1
 have HK : Ks w (pA X).fp [deA] := ⟨by simpa using k2, by simpa using fun b hb hm => hdd b hm hb⟩
 generalize (pA X).fp = N at *
 clear k1 k2 hdd
 have HX := Lib.hid hX
 have h1 := fun w h => splice_c (X := X) (a := 0) (i := 0) (sa := []) (b := x) (j := from_) (sb := s) hX (.inl ⟨rfl, rfl⟩) hd (Nat.zero_le _) (by omega) (by simp; omega) (by simp; omega) w h
 have H1 : Hid (∀ w, ((pA X).sep deA).ho w → Calls Tryd.prog 14 #[.pointer (some ⟨X.p, 0, none⟩), .int .i64 0, .int .i64 0, .int .i64 x, .int .i64 (from_ : Nat)] w fun e w' => ∃ (X' : Px) (id : Nat), e = .returned (.tuple #[.int .i64 id, .nilIface]) ∧ X.Ext X' ∧ PxOk X' ∧ IdIs X'.S id (s.drop from_) ∧ X'.S.list.length ≤ X.S.list.length + (s.drop from_).length ∧ St w (pA X).fp [pA X'] w') := Lib.hid fun w h => h1 w h
 have H2 : Hid (∀ (X2 : Px) (id2 : Nat), X.Ext X2 → PxOk X2 → IdIs X2.S id2 (s.drop from_) → X2.S.list.length ≤ X.S.list.length + (s.drop from_).length → ∀ w, ((pA X2).sep deA).ho w → Calls Tryd.prog 14 #[.pointer (some ⟨X.p, 0, none⟩), .int .i64 id2, .int .i64 (n : Nat), .int .i64 0, .int .i64 0] w fun e w' => ∃ (X' : Px) (id : Nat), e = .returned (.tuple #[.int .i64 id, .nilIface]) ∧ X2.Ext X' ∧ PxOk X' ∧ IdIs X'.S id ((s.drop from_).take n) ∧ X'.S.list.length ≤ X2.S.list.length + ((s.drop from_).take n).length ∧ St w (pA X2).fp [pA X'] w') := Lib.hid fun X2 id2 q1 q2 q3 q4 w h => by
  have hm : X2.S.most = X.S.most := q1.le.1
  simp only [List.length_drop] at q4
  have := splice_c (X := X2) (a := id2) (i := n) (sa := s.drop from_) (b := 0) (j := 0) (sb := []) q2 q3 (.inl ⟨rfl, rfl⟩) (by simp; omega) (Nat.zero_le _) (by simp; omega) (by simp; omega) w h
  rw [q1.p] at this
  simp only [List.drop_nil, List.append_nil] at this
  exact this
 have HC : Hid ((s.drop from_).length + ((s.drop from_).take n).length ≤ 2 * s.length) := Lib.hid (by simp; omega)
 clear hX hd hf hl hroom h1
 go_enter Tryd.func56, Tryd.ntmps56
 go_wp2_with (first | refine sL ?_ | (refine sS ?_; clear H; intros; rename_i H) | (first | (go_at_call 14; with_reducible refine Calls.mono (H1.out _ (H.sepK (A := pA X) HK pk pk)) ?_; rintro e9 wc ⟨X2, id2, rfl, y1, y2, y3, y4, hb⟩; have HY := Lib.hid (And.intro y1 (And.intro y2 (And.intro y3 y4))); clear y1 y2 y3 y4; replace H := (H.pick (A := pA X) pk).call hb; clear hb; simp only [List.cons_append, List.nil_append] at H) | (go_at_call 14; with_reducible refine Calls.mono (H2.out X2 id2 HY.out.1 HY.out.2.1 HY.out.2.2.1 HY.out.2.2.2 _ (H.sepK (A := pA X2) HK pk pk)) ?_; rintro e9 wc ⟨X3, id3, rfl, y1, y2, y3, y4, hb⟩; have HZ := Lib.hid (And.intro y1 (And.intro y2 (And.intro y3 y4))); clear y1 y2 y3 y4; replace H := (H.pick (A := pA X2) pk).call hb; clear hb; simp only [List.cons_append, List.nil_append] at H)))
 go_ret2
 exact ⟨X3, id3, rfl, HY.out.1.trans HZ.out.1, HZ.out.2.1, HZ.out.2.2.1, by have h1 := HY.out.2.2.2; have h2 := HZ.out.2.2.2; have h3 := HC.out; omega, H.picks (.cons (A := pA X3) pk .nil)⟩
def SecRel (X : Px) (s : List Tr) (tg : List Tr) (n : Nat) (N : List Nat) (w : World) (m : Nat) (v1 v2 : Value) (wr : World) : Prop :=
 ∃ (cur frm : Nat) (T : Tr), m = T.lv ∧ v1 = .int .i64 cur ∧ v2 = .int .i64 frm ∧ (Den X.S cur T ∧ Canon T ∧ (T.lay 0).length ≤ s.length ∧ frm + n ≤ (T.lay 0).length ∧ ((T.lay 0).drop frm).take n = tg) ∧ St w N [pA X] wr
theorem section_c {X : Px} {x from_ n : Nat} {s : List Tr} (hX : PxOk X) (hd : IdIs X.S x s) (hf : from_ + n ≤ s.length) (hl : s.length ≤ 1048576) (hroom : X.S.list.length + 2 * s.length ≤ X.S.most) (w : World) (h : PH X w) :
  Calls Tryd.prog 30 #[.pointer (some ⟨X.p, 0, none⟩), .int .i64 x, .int .i64 (from_ : Nat), .int .i64 (n : Nat)] w fun e w' => ∃ (X' : Px) (id : Nat), e = .returned (.tuple #[.int .i64 id, .nilIface]) ∧ X.Ext X' ∧ PxOk X' ∧ IdIs X'.S id ((s.drop from_).take n) ∧ X'.S.list.length ≤ X.S.list.length + 2 * s.length ∧ St w (pA X).fp [pA X'] w' := by
 have h : ((pA X).sep deA).ho w := h
 rw [sep_ho] at h
 obtain ⟨k1, k2, hdd⟩ := h
 have H := St.one k1
 have HK : Ks w (pA X).fp [deA] := ⟨by simpa using k2, by simpa using fun b hb hm => hdd b hm hb⟩
 generalize (pA X).fp = N at *
 clear k1 k2 hdd
 have HX := Lib.hid hX
 rcases Nat.eq_zero_or_pos n with rfl | hn0
 ·clear hX hd hf hl hroom
  go_enter Tryd.func30, Tryd.ntmps30
  go_wp2_with (first | refine sL ?_ | (refine sS ?_; clear H; intros; rename_i H))
  go_ret2
  exact ⟨X, 0, rfl, .refl _, HX.out, .inl ⟨by simp, rfl⟩, by omega, H.picks (.cons (A := pA X) pk .nil)⟩
 ·obtain ⟨tg, htg⟩ : ∃ tg, (s.drop from_).take n = tg := ⟨_, rfl⟩
  have HTG := Lib.hid htg
  have HL := Lib.hid (And.intro hl hroom)
  have hnb : n ≤ 1048576 := by omega
  have d0 : ((n : Int) == 0) = false := by simp; omega
  have hT : ∃ T, Den X.S x T ∧ Canon T ∧ T.lay 0 = s := by
   rcases hd with ⟨rfl, _⟩ | h
   ·simp at hf; omega
   ·exact h
  obtain ⟨T0, t1, t2, t3⟩ := hT
  have HIN0 : Hid (Den X.S x T0 ∧ Canon T0 ∧ (T0.lay 0).length ≤ s.length ∧ from_ + n ≤ (T0.lay 0).length ∧ ((T0.lay 0).drop from_).take n = tg) := Lib.hid ⟨t1, t2, by rw [t3]; exact Nat.le_refl _, by rw [t3]; exact hf, by rw [t3]; exact htg⟩
  have HS : Hid (∀ w, (pA X).ho w → Calls Tryd.prog 22 #[.pointer (some ⟨X.p, 0, none⟩)] w fun e w' => e = .returned (.pointer (some ⟨X.s, 0, none⟩)) ∧ w' = w) := Lib.hid fun w h => store_p w h
  have HN0 := Lib.hid hn0
  clear hX hd hf hl hroom t1 t2 t3 htg hn0
  go_enter Tryd.func30, Tryd.ntmps30
  go_wp2_with (first | refine sL ?_ | (refine sS ?_; clear H; intros; rename_i H) | (go_at_call 22; with_reducible refine same (HS.out _ (H.get (A := pA X) pk)) ?_))
  go_loopg [1, 2] T0.lv (fun m v1 v2 wr => SecRel X s tg n N w m v1 v2 wr)
  case atStart => exact ⟨x, from_, T0, rfl, rfl, rfl, HIN0.out, H.picks (.cons (A := pA X) pk .nil)⟩
  case round =>
   clear H HIN0
   obtain ⟨cur, frm, T, rfl, rfl, rfl, hrel, H⟩ := hrel
   obtain ⟨hdn, hcan, hle, hfn, htt⟩ := id hrel
   have hfb : frm ≤ 1048576 := by have := HL.out.1; omega
   obtain ⟨i, en, hci, hx, ht⟩ := den_get hdn
   have hg := hcan.gd
   rcases Nat.eq_zero_or_pos (kids T).length with hk0 | hk0
   ·have hlf : ∃ b, T = .leaf b := by
     cases T with
     |leaf b => exact ⟨b, rfl⟩
     |pair l r => simp [kids] at hk0
     |pow s k => have h2 : 2 ≤ k := hg.2.2; simp [kids] at hk0; omega
    obtain ⟨b, rfl⟩ := hlf
    have hen : en.r = ⟨1, b, 0, 0, 0⟩ := by
     cases rule_of HX.out.ok hx with
     |letter b' hb hr hw ht' => rw [ht] at ht'; injection ht' with ht'; rw [ht']; exact hr
     |pair l r y z _ _ _ _ _ _ _ ht' => rw [ht] at ht'; cases ht'
     |pow l k y _ _ _ _ _ _ ht' => rw [ht] at ht'; cases ht'
    have HRU : Hid (∀ w, (pA X).ho w → Calls Tryd.prog 55 #[.pointer (some ⟨X.s, 0, none⟩), .int .i64 cur] w fun e w' => e = .returned (.tuple #[.agg #[.int .i64 1, .int .u8 b, .int .i64 0, .int .i64 0, .int .i64 0], .nilIface]) ∧ St w [] [] w') := Lib.hid fun w h => by have := rule_c hx (cur : Int) (by rw [hci]; exact Int.natCast_succ i) w (pA_sto h); rw [hen] at this; exact this
    have HFN : Hid (IdIs X.S cur tg) := Lib.hid (.inr ⟨_, hdn, hcan, by
     have e1 : (Tr.leaf b).lay 0 = [.leaf b] := rfl
     rw [e1] at hfn htt ⊢
     simp only [List.length_cons, List.length_nil] at hfn
     have := HN0.out
     obtain rfl : frm = 0 := by omega
     obtain rfl : n = 1 := by omega
     rw [← htt]; rfl⟩)
    clear hrel hx hen ht hci hdn hcan hle hfn htt hg hk0
    go_wp2_with (first | refine sL ?_ | (refine sS ?_; clear H; intros; rename_i H) | (go_at_call 55; with_reducible refine Calls.mono (HRU.out _ (H.get (A := pA X) pk)) ?_; rintro e9 wc ⟨rfl, hb⟩; replace H := H.grew hb.below; clear hb))
    go_ret2
    exact ⟨X, cur, rfl, .refl _, HX.out, by rw [HTG.out]; exact HFN.out, by omega, H.picks (.cons (A := pA X) pk .nil)⟩
   ·rcases (kids_rule HX.out.ok hx ht hk0).2 with ⟨l, r, u, v, hen, hte, hdu, hdv⟩ | ⟨l, u, k, hen, hte, hk, hdu⟩
    ·subst hte
     have cu := hcan.kid (j := 0) (c := u) rfl
     have cv := hcan.kid (j := 1) (c := v) rfl
     have elay := pair_lay0 hg
     obtain ⟨a2, a3, a4, a5, a6, hw⟩ := weight_any HX.out (.inr ⟨u, hdu, cu, rfl⟩)
     obtain ⟨lf, hlf⟩ : ∃ lf, (u.lay 0).length = lf := ⟨_, rfl⟩
     have hlb : lf ≤ 1048576 := by rw [elay] at hle; simp at hle; have := HL.out.1; omega
     have HWL : Hid (∀ w, (pA X).ho w → Calls Tryd.prog 23 #[.pointer (some ⟨X.s, 0, none⟩), .int .i64 l] w fun e w' => e = .returned (.tuple #[.agg #[.int .i64 (lf : Nat), .int .i64 a2, .int .i64 a3, .int .i64 a4, .int .u64 a5, .int .u64 a6], .nilIface]) ∧ St w [] [] w') := Lib.hid fun w h => by have := hw X w (.refl _) rfl h; rwa [hlf] at this
     have HRU : Hid (∀ w, (pA X).ho w → Calls Tryd.prog 55 #[.pointer (some ⟨X.s, 0, none⟩), .int .i64 cur] w fun e w' => e = .returned (.tuple #[.agg #[.int .i64 2, .int .u8 0, .int .i64 l, .int .i64 r, .int .i64 0], .nilIface]) ∧ St w [] [] w') := Lib.hid fun w h => by have := rule_c hx (cur : Int) (by rw [hci]; exact Int.natCast_succ i) w (pA_sto h); rw [hen] at this; exact this
     obtain ⟨fe, hfe⟩ : ∃ fe, frm + n = fe := ⟨_, rfl⟩
     have i1 : (frm : Int) + (n : Int) = (fe : Nat) := by omega
     have hfeb : fe ≤ 1048576 := by have := HL.out.1; omega
     by_cases c1 : fe ≤ lf
     ·have d1 : decide ((fe : Int) ≤ (lf : Int)) = true := by simp; omega
      have d2 : decide (fe ≤ lf) = true := by simp; omega
      have HLV : Hid (u.lv < (Tr.pair u v).lv) := Lib.hid (hg.kid (c := u) (by simp [kids])).2
      have HNX : Hid (Den X.S l u ∧ Canon u ∧ (u.lay 0).length ≤ s.length ∧ frm + n ≤ (u.lay 0).length ∧ ((u.lay 0).drop frm).take n = tg) := Lib.hid ⟨hdu, cu, by rw [elay] at hle; simp at hle; omega, by omega, by rw [← htt, elay, part_left _ _ _ _ (by omega)]⟩
      clear hrel hx hen ht hci hdn hcan hle hfn htt hg hk0 hdu hdv cu cv elay hw hlf c1
      go_wp2_with (first | refine sL ?_ | (refine sS ?_; clear H; intros; rename_i H) | (go_at_call 55; with_reducible refine Calls.mono (HRU.out _ (H.get (A := pA X) pk)) ?_; rintro e9 wc ⟨rfl, hb⟩; replace H := H.grew hb.below; clear hb) | (go_at_call 23; with_reducible refine Calls.mono (HWL.out _ (H.get (A := pA X) pk)) ?_; rintro e9 wc ⟨rfl, hb⟩; replace H := H.grew hb.below; clear hb) | (go_at_call 22; with_reducible refine same (HS.out _ (H.get (A := pA X) pk)) ?_))
      go_roundg (u).lv
      case measure => exact HLV.out
      case rel => exact ⟨l, frm, u, rfl, rfl, rfl, HNX.out, H.picks (.cons (A := pA X) pk .nil)⟩
     ·have d1 : decide ((fe : Int) ≤ (lf : Int)) = false := by simp; omega
      have d2 : decide (fe ≤ lf) = false := by simp; omega
      by_cases c2 : lf ≤ frm
      ·have d3 : decide ((lf : Int) ≤ (frm : Int)) = true := by simp; omega
       have d4 : decide (lf ≤ frm) = true := by simp; omega
       obtain ⟨f2, hf2⟩ : ∃ f2, frm - lf = f2 := ⟨_, rfl⟩
       have i2 : (frm : Int) - (lf : Int) = (f2 : Nat) := by omega
       have hf2b : f2 ≤ 1048576 := by omega
       have HLV : Hid (v.lv < (Tr.pair u v).lv) := Lib.hid (hg.kid (c := v) (by simp [kids])).2
       have HNX : Hid (Den X.S r v ∧ Canon v ∧ (v.lay 0).length ≤ s.length ∧ f2 + n ≤ (v.lay 0).length ∧ ((v.lay 0).drop f2).take n = tg) := Lib.hid ⟨hdv, cv, by rw [elay] at hle; simp at hle; omega, by rw [elay] at hfn; simp at hfn; omega, by rw [← htt, elay, part_right _ _ _ _ (by omega), hlf, hf2]⟩
       clear hrel hx hen ht hci hdn hcan hle hfn htt hg hk0 hdu hdv cu cv elay hw hlf c1 c2 hf2
       go_wp2_with (first | refine sL ?_ | (refine sS ?_; clear H; intros; rename_i H) | (go_at_call 55; with_reducible refine Calls.mono (HRU.out _ (H.get (A := pA X) pk)) ?_; rintro e9 wc ⟨rfl, hb⟩; replace H := H.grew hb.below; clear hb) | (go_at_call 23; with_reducible refine Calls.mono (HWL.out _ (H.get (A := pA X) pk)) ?_; rintro e9 wc ⟨rfl, hb⟩; replace H := H.grew hb.below; clear hb) | (go_at_call 22; with_reducible refine same (HS.out _ (H.get (A := pA X) pk)) ?_))
       go_roundg (v).lv
       case measure => exact HLV.out
       case rel => exact ⟨r, f2, v, rfl, rfl, rfl, HNX.out, H.picks (.cons (A := pA X) pk .nil)⟩
      ·have d3 : decide ((lf : Int) ≤ (frm : Int)) = false := by simp; omega
       have d4 : decide (lf ≤ frm) = false := by simp; omega
       generalize hTT : Tr.pair u v = T at *
       have HIC : Hid (∀ w, ((pA X).sep deA).ho w → Calls Tryd.prog 56 #[.pointer (some ⟨X.p, 0, none⟩), .int .i64 cur, .int .i64 (frm : Nat), .int .i64 (n : Nat)] w fun e w' => ∃ (X' : Px) (id : Nat), e = .returned (.tuple #[.int .i64 id, .nilIface]) ∧ X.Ext X' ∧ PxOk X' ∧ IdIs X'.S id (tg) ∧ X'.S.list.length ≤ X.S.list.length + 2 * s.length ∧ St w (pA X).fp [pA X'] w') := Lib.hid fun w h => by
        refine (inner_c HX.out (.inr ⟨T, hrel.1, hrel.2.1, rfl⟩) hrel.2.2.2.1 (by have := HL.out.1; have := hrel.2.2.1; omega) (by have := HL.out.2; have := hrel.2.2.1; omega) w h).mono ?_
        rintro e w' ⟨X', id, rfl, q1, q2, q3, q4, q5⟩
        exact ⟨X', id, rfl, q1, q2, by rw [← hrel.2.2.2.2]; exact q3, by have := hrel.2.2.1; omega, q5⟩
       clear hrel hx hen ht hci hdn hcan hle hfn htt hg hk0 hdu hdv cu cv elay hw hlf c1 c2 hTT
       go_wp2_with (first | refine sL ?_ | (refine sS ?_; clear H; intros; rename_i H) | (go_at_call 55; with_reducible refine Calls.mono (HRU.out _ (H.get (A := pA X) pk)) ?_; rintro e9 wc ⟨rfl, hb⟩; replace H := H.grew hb.below; clear hb) | (go_at_call 23; with_reducible refine Calls.mono (HWL.out _ (H.get (A := pA X) pk)) ?_; rintro e9 wc ⟨rfl, hb⟩; replace H := H.grew hb.below; clear hb) | (go_at_call 22; with_reducible refine same (HS.out _ (H.get (A := pA X) pk)) ?_) | (go_at_call 56; with_reducible refine Calls.mono (HIC.out _ (H.sepK (A := pA X) HK pk pk)) ?_; rintro e9 wc ⟨X2, id2, rfl, y1, y2, y3, y4, hb⟩; have HY := Lib.hid (And.intro y1 (And.intro y2 (And.intro y3 y4))); clear y1 y2 y3 y4; replace H := (H.pick (A := pA X) pk).call hb; clear hb; simp only [List.cons_append, List.nil_append] at H))
       go_ret2
       exact ⟨X2, id2, rfl, HY.out.1, HY.out.2.1, by rw [HTG.out]; exact HY.out.2.2.1, HY.out.2.2.2, H.picks (.cons (A := pA X2) pk .nil)⟩
    ·subst hte
     have cu := hcan.kid (j := 0) (c := u) (by have h2 : 2 ≤ k := hg.2.2; simp only [kids]; rw [List.getElem?_replicate, if_pos (by omega)])
     have elay := pow_lay0 hg
     obtain ⟨a2, a3, a4, a5, a6, hw⟩ := weight_any HX.out (.inr ⟨u, hdu, cu, rfl⟩)
     have hup := canon_pos cu
     have hmem : u ∈ kids (Tr.pow u k) := List.mem_replicate.2 ⟨by have h2 : 2 ≤ k := hg.2.2; omega, rfl⟩
     obtain ⟨lf, hlf⟩ : ∃ lf, (u.lay 0).length = lf := ⟨_, rfl⟩
     have hkl : ((List.replicate k (u.lay 0)).flatten).length = k * lf := by simp [hlf]
     have hkl2 : lf ≤ k * lf := Nat.le_mul_of_pos_left _ (by have h2 : 2 ≤ k := hg.2.2; omega)
     have hlb : lf ≤ 1048576 := by rw [elay, hkl] at hle; have := HL.out.1; omega
     have HWL : Hid (∀ w, (pA X).ho w → Calls Tryd.prog 23 #[.pointer (some ⟨X.s, 0, none⟩), .int .i64 l] w fun e w' => e = .returned (.tuple #[.agg #[.int .i64 (lf : Nat), .int .i64 a2, .int .i64 a3, .int .i64 a4, .int .u64 a5, .int .u64 a6], .nilIface]) ∧ St w [] [] w') := Lib.hid fun w h => by have := hw X w (.refl _) rfl h; rwa [hlf] at this
     have HRU : Hid (∀ w, (pA X).ho w → Calls Tryd.prog 55 #[.pointer (some ⟨X.s, 0, none⟩), .int .i64 cur] w fun e w' => e = .returned (.tuple #[.agg #[.int .i64 3, .int .u8 0, .int .i64 l, .int .i64 0, .int .i64 k], .nilIface]) ∧ St w [] [] w') := Lib.hid fun w h => by have := rule_c hx (cur : Int) (by rw [hci]; exact Int.natCast_succ i) w (pA_sto h); rw [hen] at this; exact this
     obtain ⟨q, hq⟩ : ∃ q, frm / lf = q := ⟨_, rfl⟩
     obtain ⟨rr, hrr⟩ : ∃ rr, frm % lf = rr := ⟨_, rfl⟩
     have hdm := Nat.div_add_mod frm lf
     rw [hq, hrr, Nat.mul_comm] at hdm
     have hrl := Nat.mod_lt frm (show 0 < lf by omega)
     rw [hrr] at hrl
     have i0 : (frm : Int).tmod (lf : Int) = (rr : Nat) := by rw [← hrr]; rfl
     have i0z : ((lf : Int) == 0) = false := by simp; omega
     have i0n : ¬ (lf : Int) = 0 := by omega
     have i0m : ¬ lf = 0 := by omega
     obtain ⟨fe, hfe⟩ : ∃ fe, rr + n = fe := ⟨_, rfl⟩
     have i1 : (rr : Int) + (n : Int) = (fe : Nat) := by omega
     have hfeb : fe ≤ 2097152 := by omega
     have hrrb : rr ≤ 1048576 := by omega
     by_cases c1 : fe ≤ lf
     ·have d1 : decide ((fe : Int) ≤ (lf : Int)) = true := by simp; omega
      have d2 : decide (fe ≤ lf) = true := by simp; omega
      have HLV : Hid (u.lv < (Tr.pow u k).lv) := Lib.hid (hg.kid (c := u) hmem).2
      have HNX : Hid (Den X.S l u ∧ Canon u ∧ (u.lay 0).length ≤ s.length ∧ rr + n ≤ (u.lay 0).length ∧ ((u.lay 0).drop rr).take n = tg) := Lib.hid ⟨hdu, cu, by rw [elay, hkl] at hle; omega, by omega, by
       have hqk : q < k := by
        refine Nat.lt_of_not_le fun h9 => ?_
        have h8 := Nat.mul_le_mul_right lf h9
        rw [elay, hkl] at hfn
        have := HN0.out
        omega
       have h7 := copy_part (u.lay 0) k q rr n (by omega) hqk
       rw [hlf, hdm] at h7
       rw [← htt, elay, h7]⟩
      clear hrel hx hen ht hci hdn hcan hle hfn htt hg hk0 hdu hk cu elay hw hlf c1 hup hmem hkl hkl2 hq hrr hdm hrl hfe
      go_wp2_with (first | refine sL ?_ | (refine sS ?_; clear H; intros; rename_i H) | (go_at_call 55; with_reducible refine Calls.mono (HRU.out _ (H.get (A := pA X) pk)) ?_; rintro e9 wc ⟨rfl, hb⟩; replace H := H.grew hb.below; clear hb) | (go_at_call 23; with_reducible refine Calls.mono (HWL.out _ (H.get (A := pA X) pk)) ?_; rintro e9 wc ⟨rfl, hb⟩; replace H := H.grew hb.below; clear hb) | (go_at_call 22; with_reducible refine same (HS.out _ (H.get (A := pA X) pk)) ?_))
      refine wp_region_h H 7 [] [] (by kernel_rfl) (by kernel_rfl) ?_
      apply Exists.intro
      refine ⟨fun w1 hw1 HX => ?_, fun bs wr Hr => ?_⟩
      ·refine sG ?_
       repeat (first | go_big_quiet_skip | refine sQ ?_ | fail | go_big_quiet_step (fail))
       exact wpQuiet_nil rfl
      clear H
      have H := Hr
      clear Hr
      replace H := sH H; refine sT ?_
      go_wp2_with (first | refine sL ?_ | (refine sS ?_; clear H; intros; rename_i H))
      go_roundg (u).lv
      case measure => exact HLV.out
      case rel => exact ⟨l, rr, u, rfl, rfl, rfl, HNX.out, H.picks (.cons (A := pA X) pk .nil)⟩
     ·have d1 : decide ((fe : Int) ≤ (lf : Int)) = false := by simp; omega
      have d2 : decide (fe ≤ lf) = false := by simp; omega
      generalize hTT : Tr.pow u k = T at *
      have HIC : Hid (∀ w, ((pA X).sep deA).ho w → Calls Tryd.prog 56 #[.pointer (some ⟨X.p, 0, none⟩), .int .i64 cur, .int .i64 (frm : Nat), .int .i64 (n : Nat)] w fun e w' => ∃ (X' : Px) (id : Nat), e = .returned (.tuple #[.int .i64 id, .nilIface]) ∧ X.Ext X' ∧ PxOk X' ∧ IdIs X'.S id (tg) ∧ X'.S.list.length ≤ X.S.list.length + 2 * s.length ∧ St w (pA X).fp [pA X'] w') := Lib.hid fun w h => by
       refine (inner_c HX.out (.inr ⟨T, hrel.1, hrel.2.1, rfl⟩) hrel.2.2.2.1 (by have := HL.out.1; have := hrel.2.2.1; omega) (by have := HL.out.2; have := hrel.2.2.1; omega) w h).mono ?_
       rintro e w' ⟨X', id, rfl, q1, q2, q3, q4, q5⟩
       exact ⟨X', id, rfl, q1, q2, by rw [← hrel.2.2.2.2]; exact q3, by have := hrel.2.2.1; omega, q5⟩
      clear hrel hx hen ht hci hdn hcan hle hfn htt hg hk0 hdu hk cu elay hw hlf c1 hup hmem hkl hkl2 hq hrr hdm hrl hfe hTT
      go_wp2_with (first | refine sL ?_ | (refine sS ?_; clear H; intros; rename_i H) | (go_at_call 55; with_reducible refine Calls.mono (HRU.out _ (H.get (A := pA X) pk)) ?_; rintro e9 wc ⟨rfl, hb⟩; replace H := H.grew hb.below; clear hb) | (go_at_call 23; with_reducible refine Calls.mono (HWL.out _ (H.get (A := pA X) pk)) ?_; rintro e9 wc ⟨rfl, hb⟩; replace H := H.grew hb.below; clear hb) | (go_at_call 22; with_reducible refine same (HS.out _ (H.get (A := pA X) pk)) ?_) | (go_at_call 56; with_reducible refine Calls.mono (HIC.out _ (H.sepK (A := pA X) HK pk pk)) ?_; rintro e9 wc ⟨X2, id2, rfl, y1, y2, y3, y4, hb⟩; have HY := Lib.hid (And.intro y1 (And.intro y2 (And.intro y3 y4))); clear y1 y2 y3 y4; replace H := (H.pick (A := pA X) pk).call hb; clear hb; simp only [List.cons_append, List.nil_append] at H))
      go_ret2
      exact ⟨X2, id2, rfl, HY.out.1, HY.out.2.1, by rw [HTG.out]; exact HY.out.2.2.1, HY.out.2.2.2, H.picks (.cons (A := pA X2) pk .nil)⟩
end
section
open Go.RowKit Go.Maps
attribute [local go_sem] InGr
theorem range_ok (a b n : Nat) (h : a + b ≤ n) (hn : n ≤ 1152921504606846976) (w : World) :
  Calls Tryd.prog 29 #[.int .i64 a, .int .i64 b, .int .i64 n] w fun e w' => e = .returned .nilIface ∧ w' = w := by
 have HV : Hid (Calls Tryd.prog 54 #[.int .i64 n] w fun e w' => e = .returned (.bool true) ∧ w' = w) := Lib.hid (valid_c n true (by symm; rw [decide_eq_true_eq]; omega) w)
 have H := St.nil w []
 have HK := Ks.nil w []
 have d1 : decide ((a : Int) < 0) = false := by simp
 have d2 : decide ((b : Int) < 0) = false := by simp
 have d3 : decide (n < a) = false := by simp; omega
 have d4 : decide ((n : Int) - a < b) = false := by simp; omega
 go_enter Tryd.func29, Tryd.ntmps29
 go_wp2_with (first | refine sL ?_ | (go_at_call 54; with_reducible refine same (HV.out) ?_))
 go_ret
 exact ⟨rfl, rfl⟩
theorem Section_ok {X : Px} {x from_ n : Nat} {s : List Tr} (hX : PxOk X) (hd : IdIs X.S x s) (hf : from_ + n ≤ s.length) (hl : s.length ≤ 1048576) (hroom : X.S.list.length + 2 * s.length ≤ X.S.most) (w : World) (h : PH X w) :
  Calls Tryd.prog 18 #[.pointer (some ⟨X.p, 0, none⟩), .int .i64 x, .int .i64 (from_ : Nat), .int .i64 (n : Nat)] w fun e w' => ∃ (X' : Px) (id : Nat), e = .returned (.tuple #[.int .i64 id, .nilIface]) ∧ X.Ext X' ∧ PxOk X' ∧ IdIs X'.S id ((s.drop from_).take n) ∧ X'.S.list.length ≤ X.S.list.length + 2 * s.length ∧ St w (pA X).fp [pA X'] w' := by
 have h : ((pA X).sep deA).ho w := h
 rw [sep_ho] at h
 obtain ⟨k1, k2, hdd⟩ := h
 have H := St.one k1
 have HK : Ks w (pA X).fp [deA] := ⟨by simpa using k2, by simpa using fun b hb hm => hdd b hm hb⟩
 generalize (pA X).fp = N at *
 clear k1 k2 hdd
 obtain ⟨ls, hls⟩ : ∃ n, s.length = n := ⟨_, rfl⟩
 have HCK : Hid (∀ w, ((pA X).sep deA).ho w → Calls Tryd.prog 13 #[.pointer (some ⟨X.p, 0, none⟩), .int .i64 x] w (PPost X (.tuple #[.int .i64 (ls : Nat), .nilIface]) (pA X).fp w)) := Lib.hid fun w h => by have := check_c hX hd w h; rwa [hls] at this
 have HRG : Hid (∀ w, Calls Tryd.prog 29 #[.int .i64 (from_ : Nat), .int .i64 (n : Nat), .int .i64 (ls : Nat)] w fun e w' => e = .returned .nilIface ∧ w' = w) := Lib.hid fun w => range_ok from_ n ls (by omega) (by omega) w
 have H2 : Hid (∀ X2 : Px, X.Ext X2 → PxOk X2 → X2.S = X.S → ∀ w, ((pA X2).sep deA).ho w → Calls Tryd.prog 30 #[.pointer (some ⟨X.p, 0, none⟩), .int .i64 x, .int .i64 (from_ : Nat), .int .i64 (n : Nat)] w fun e w' => ∃ (X' : Px) (id : Nat), e = .returned (.tuple #[.int .i64 id, .nilIface]) ∧ X2.Ext X' ∧ PxOk X' ∧ IdIs X'.S id ((s.drop from_).take n) ∧ X'.S.list.length ≤ X2.S.list.length + 2 * s.length ∧ St w (pA X2).fp [pA X'] w') := Lib.hid fun X2 q1 q2 q3 w h => by
  have hm : X2.S.most = X.S.most := q1.le.1
  have hln : X2.S.list.length = X.S.list.length := by rw [q3]
  have := section_c q2 (by rw [q3]; exact hd) hf hl (by omega) w h
  rw [q1.p] at this
  exact this
 have HCN : Hid (2 * s.length ≤ 2 * s.length) := Lib.hid (Nat.le_refl _)
 clear hX hd hf hl hroom hls
 go_enter Tryd.func18, Tryd.ntmps18
 go_wp2_with (first | refine sL ?_ | (refine sS ?_; clear H; intros; rename_i H) | (go_at_call 13; with_reducible refine Calls.mono (HCK.out _ (H.sepK (A := pA X) HK pk pk)) ?_; rintro e9 wc ⟨X2, y1, y2, y3, rfl, hb⟩; have HY := Lib.hid (And.intro y1 (And.intro y2 y3)); clear y1 y2 y3; replace H := (H.pick (A := pA X) pk).call hb; clear hb; simp only [List.cons_append, List.nil_append] at H) | (go_at_call 29; with_reducible refine same (HRG.out _) ?_) | (go_at_call 30; with_reducible refine Calls.mono (H2.out X2 HY.out.1 HY.out.2.1 HY.out.2.2 _ (H.sepK (A := pA X2) HK pk pk)) ?_; rintro e9 wc ⟨X3, id3, rfl, y1, y2, y3, y4, hb⟩; have HZ := Lib.hid (And.intro y1 (And.intro y2 (And.intro y3 y4))); clear y1 y2 y3 y4; replace H := (H.pick (A := pA X2) pk).call hb; clear hb; simp only [List.cons_append, List.nil_append] at H))
 go_ret2
 exact ⟨X3, id3, rfl, HY.out.1.trans HZ.out.1, HZ.out.2.1, HZ.out.2.2.1, by have h1 := HZ.out.2.2.2; have h2 := HCN.out; rw [HY.out.2.2] at h1; omega, H.picks (.cons (A := pA X3) pk .nil)⟩
end
section
open Go.RowKit Go.Maps
attribute [local go_sem] InGr
theorem encT_one' : ∀ x, ∀ u ∈ encT x, u.oneCell' = true := by
 intro x u hu
 simp only [encT, List.mem_cons, List.not_mem_nil, or_false] at hu
 subst hu
 rfl
theorem run_append_in {α : Type} {enc : α → List Value} {t e ty : TypeId} (hte : sliceO t = some e) {z : Value} {k bytes : Nat} (hi : infoO e = some (z, k, bytes)) (hz : z.cells.size = k) (hk0 : 0 < k) (hb0 : 0 < bytes) {v : Value} {xs : List α} {w : World} (hrow : (rowsA enc e k v xs).ho w) {P : PoolT} {u : Value} {ys : List α} (hu : RowIn P enc k u ys) (hp : (poolA P).ho w) (hk : ∀ x, (enc x).length = k) (h1 : ∀ x, ∀ u ∈ enc x, u.oneCell' = true) (hb : (xs.length + ys.length) * bytes ≤ 140737488355328) (hy : 0 < ys.length) :
  ∃ v' w', (Builtin.append_ #[t, t] ty #[v, u]).run Tryd.prog w = .ok v' w' ∧ St w (rowsA enc e k v xs).fp [rowsA enc e k v' (xs ++ ys)] w' := by
 obtain ⟨i, h2, h3, h4, h5⟩ := infoO_ok hi
 unfold rowsA at hrow ⊢
 obtain ⟨ad, c, rfl, hmax, hpm⟩ := hu
 obtain ⟨g, o, rfl, hm⟩ := hpm hy
 have hr := pool_rng hp hm
 obtain ⟨v', w', r1, r2⟩ := run_append_st (P := Tryd.prog) t ty e i z k bytes (sliceO_ok hte) h2 h3 h4 h5 hz hk0 v xs.length (flatG enc xs) hrow ⟨g, o, none⟩ ys.length c (flatG enc ys) (flatG_len enc k hk ys) (fun j q hj => by rw [Addr.add_mid]; exact hr j q hj) (flatG_one h1 ys) hb hb0
 refine ⟨v', w', r1, ?_⟩
 rw [List.length_append, show flatG enc (xs ++ ys) = flatG enc xs ++ flatG enc ys by simp [flatG]]
 exact r2
section
variable {ops : Array Oper} {Q : Exit → Act → World → Prop} {rest : List Oper} {a : Act} {w w0 : World} {M : List Nat} {L R : List As} {o1 : Oper}
theorem AtSlice.zero {α : Type} (enc : α → List Value) {t e : TypeId} (H : St w0 M L w) (hw : Region.wanted o1 (yielded ops a.tmps) = true) (ho : o1.op = .buildSlice t 0 #[]) (hte : sliceO t = some e) {z : Value} {k bytes : Nat} (hi : infoO e = some (z, k, bytes)) (hk : ∀ x, (enc x).length = k)
  (h : ∀ b w', St w0 M (rowsA enc e k (.slice (some ⟨b, 0, none⟩) 0 0) [] :: L) w' → wpList Tryd.prog ops Q rest (a.put o1.dst (.slice (some ⟨b, 0, none⟩) 0 0)) w') : AtSlice Tryd.prog ops Q o1 t 0 #[] rest a w :=
 wpList_step fun _ hK => by
  rw [if_pos hw]
  unfold Oper.wp execOp
  simp only [ho, List.map_toArray, List.map_nil, Sem.run_bind, run_slice0 hte hi, Result.andThen_ok, Sem.run_pure]
  exact hK _ _ (h _ _ ((H.alloc (.cells #[] e)).conv (by rw [rowsA_fp', blk_fp]; rfl) fun hb => rowsA_of_blk (xs := []) (by rw [blk_ho] at hb; exact hb) (by simp [maxLen]) (by simp [flatG]) hk))
theorem AtAppend.pool {α : Type} {enc : α → List Value} {t e : TypeId} {x y : Operand} (H : St w0 M L w) (hw : Region.wanted o1 (yielded ops a.tmps) = true) (ho : o1.op = .call ⟨.builtin .append, #[x, y], #[t, t]⟩) (hte : sliceO t = some e) {z : Value} {k bytes : Nat} (hi : infoO e = some (z, k, bytes))
  (hz : z.cells.size = k) (hk0 : 0 < k) (hb0 : 0 < bytes) {v : Value} (hx : evalO a x = some v) {xs : List α} (hp : Pick L (rowsA enc e k v xs) R) {P : PoolT} {u : Value} (hy : evalO a y = some u) {ys : List α} (hu : RowIn P enc k u ys) (hpo : (poolA P).ho w) (hk : ∀ x, (enc x).length = k) (h1 : ∀ x, ∀ u ∈ enc x, u.oneCell' = true) (hb : (xs.length + ys.length) * bytes ≤ 140737488355328) (hy0 : 0 < ys.length)
  (h : ∀ ad cp w', St w0 M (rowsA enc e k (.slice ad (xs.length + ys.length) cp) (xs ++ ys) :: R) w' → wpList Tryd.prog ops Q rest (a.put o1.dst (.slice ad (xs.length + ys.length) cp)) w') : AtAppend Tryd.prog ops Q o1 t x y rest a w :=
 wpList_step fun _ hK => by
  rw [if_pos hw]
  have H' := H.pick hp
  obtain ⟨v', w', hr, hst⟩ := run_append_in (ty := o1.type) hte hi hz hk0 hb0 (H'.ho _ List.mem_cons_self) hu hpo hk h1 hb hy0
  unfold Oper.wp execOp
  simp only [ho, resolve, invoke, builtin, Sem.run_bind, Sem.run_pure, Result.andThen_ok, List.map_toArray, List.map_cons, List.map_nil, evalO_eq hx, evalO_eq hy, hr]
  obtain ⟨ad, cp, rfl, _⟩ := rowsA_shape (hst.ho _ List.mem_cons_self)
  have hst2 := H'.call hst
  simp only [List.length_append] at hst2 ⊢
  exact hK _ _ (h ad cp w' hst2)
end
section
variable {ops : Array Oper} {Q : Exit → Act → World → Prop} {rest : List Oper} {a : Act} {w : World} {o1 : Oper}
theorem run_append_empty {t e ty : TypeId} (hte : sliceO t = some e) {z : Value} {k bytes : Nat} (hi : infoO e = some (z, k, bytes)) {b c : Nat} {ad : Option Addr} {w : World} : (Builtin.append_ #[t, t] ty #[.slice (some ⟨b, 0, none⟩) 0 0, .slice ad 0 c]).run Tryd.prog w = .ok (.slice (some ⟨b, 0, none⟩) 0 0) w := by
 obtain ⟨i, h2, h3, h4, h5⟩ := infoO_ok hi
 have hu := sliceO_ok hte
 cases ad with
 |none => simp [Builtin.append_, run_underlying hu, sizeOf, typeInfo, h2, Builtin.lenOf, Builtin.firstCells, loadCells, loadCellsFrom, storeCells]
 |some x => simp [Builtin.append_, run_underlying hu, sizeOf, typeInfo, h2, Builtin.lenOf, Builtin.firstCells, loadCells, loadCellsFrom, storeCells]
theorem AtAppend.none {t e : TypeId} {x y : Operand} (hw : Region.wanted o1 (yielded ops a.tmps) = true) (ho : o1.op = .call ⟨.builtin .append, #[x, y], #[t, t]⟩) (hte : sliceO t = some e) {z : Value} {k bytes : Nat} (hi : infoO e = some (z, k, bytes)) {b c : Nat} {ad : Option Addr} (hx : evalO a x = some (.slice (some ⟨b, 0, Option.none⟩) 0 0)) (hy : evalO a y = some (.slice ad 0 c))
  (h : wpList Tryd.prog ops Q rest (a.put o1.dst (.slice (some ⟨b, 0, Option.none⟩) 0 0)) w) : AtAppend Tryd.prog ops Q o1 t x y rest a w :=
 wpList_step fun _ hK => by
  rw [if_pos hw]
  unfold Oper.wp execOp
  simp only [ho, resolve, invoke, builtin, Sem.run_bind, Sem.run_pure, Result.andThen_ok, List.map_toArray, List.map_cons, List.map_nil, evalO_eq hx, evalO_eq hy, run_append_empty hte hi]
  exact hK _ _ h
end
theorem nil_leaves (text : List Nat) : Leaves (text.map Tr.leaf) := fun t ht => by
 obtain ⟨b, _, rfl⟩ := List.mem_map.1 ht
 exact ⟨b, rfl⟩
theorem of_zero {X : Px} {ad : Option Addr} {c : Nat} (w : World) (h : (pA X).ho w) : Calls Tryd.prog 12 #[.pointer (some ⟨X.p, 0, none⟩), .slice ad 0 c] w fun e w' => e = .returned (.tuple #[.int .i64 0, .nilIface]) ∧ w' = w := by
 have HC0 := Lib.hid (pA_c0 h)
 clear h
 go_enter Tryd.func12, Tryd.ntmps12
 go_wp2_with (first | refine sL ?_ | (refine sS ?_; clear H; intros; rename_i H) | ((with_reducible refine isLoad ?_); refine AtLoad.cel rfl rfl rfl rfl HC0.out ?_; simp only [Act.put, puA, puB, puC]))
 go_ret2
 exact ⟨rfl, rfl⟩
theorem of_any {X : Px} {P : PoolT} {text : List Nat} {v : Value} (hX : PxOk X) (hr : RowIn P encT 1 v text) (hb : ∀ x ∈ text, x < 256) (hlen : text.length ≤ 65536) (hroom : X.S.list.length + 2 * text.length < X.S.most) (w : World) (hd : ((pA X).sep deA).ho w) (hp : ((pA X).sep (poolA P)).ho w) :
  Calls Tryd.prog 12 #[.pointer (some ⟨X.p, 0, none⟩), v] w fun e w' => ∃ (X' : Px) (id : Nat), e = .returned (.tuple #[.int .i64 id, .nilIface]) ∧ X.Ext X' ∧ PxOk X' ∧ IdIs X'.S id (text.map Tr.leaf) ∧ X'.S.list.length ≤ X.S.list.length + 2 * text.length ∧ St w (pA X).fp [pA X'] w' := by
 rcases Nat.eq_zero_or_pos text.length with h0 | h0
 ·obtain rfl := List.eq_nil_of_length_eq_zero h0
  obtain ⟨ad, c, rfl, _⟩ := hr
  rw [sep_ho] at hd
  refine (of_zero w hd.1).mono ?_
  rintro e w' ⟨rfl, rfl⟩
  exact ⟨X, 0, rfl, .refl _, hX, .inl ⟨rfl, rfl⟩, by omega, St.one hd.1⟩
 ·obtain ⟨T, t1, t2, t3⟩ := canon_exists (nil_leaves text) (fun e => by simp at e; rw [e] at h0; simp at h0) (by simp; omega)
  refine (of_p hX hr hb h0 hlen t1 t2 t3 w hd hp).mono ?_
  rintro e w' ⟨X', q1, q2, q3, q4, q5⟩
  rcases q4 with ⟨id, rfl, q6⟩ | ⟨_, q6⟩
  ·exact ⟨X', id, rfl, q1, q2, .inr ⟨T, q6, t1, t2⟩, q3, q5⟩
  ·have h9 : X'.S.most = X.S.most := q1.le.1
   omega
theorem is_c {X : Px} {P : PoolT} {text : List Nat} {v : Value} {id : Nat} (hX : PxOk X) (hr : RowIn P encT 1 v text) (hb : ∀ x ∈ text, x < 256) (hlen : text.length ≤ 65536) (hroom : X.S.list.length + 2 * text.length < X.S.most) (hid : IdIs X.S id (text.map Tr.leaf)) (w : World) (hd : ((pA X).sep deA).ho w) (hpo : ((pA X).sep (poolA P)).ho w) :
  Calls Tryd.prog 8 #[.pointer (some ⟨X.p, 0, none⟩), .int .i64 id, v] w fun e w' => ∃ X' : Px, e = .returned (.bool true) ∧ X.Ext X' ∧ PxOk X' ∧ X'.S.list.length ≤ X.S.list.length + 2 * text.length ∧ St w (pA X).fp [pA X'] w' := by
 rw [sep_ho] at hd hpo
 obtain ⟨k1, k2, hdd⟩ := hd
 obtain ⟨_, k3, hde⟩ := hpo
 have H := St.one k1
 have HK : Ks w (pA X).fp [deA, poolA P] := Ks.cons k2 (fun b hb hm => hdd b hm hb) (Ks.cons k3 (fun b hb hm => hde b hm hb) (Ks.nil _ _))
 generalize (pA X).fp = N at *
 clear k1 k2 k3 hdd hde
 have HX := Lib.hid hX
 have HR := Lib.hid hr
 obtain ⟨ad, c, rfl, hmx⟩ := hr.shape
 obtain ⟨n, hn⟩ : ∃ n, text.length = n := ⟨_, rfl⟩
 have HOF : Hid (∀ (P2 : PoolT) (v2 : Value), RowIn P2 encT 1 v2 text → ∀ w, ((pA X).sep deA).ho w → ((pA X).sep (poolA P2)).ho w → Calls Tryd.prog 12 #[.pointer (some ⟨X.p, 0, none⟩), v2] w fun e w' => ∃ (X' : Px) (id : Nat), e = .returned (.tuple #[.int .i64 id, .nilIface]) ∧ X.Ext X' ∧ PxOk X' ∧ IdIs X'.S id (text.map Tr.leaf) ∧ X'.S.list.length ≤ X.S.list.length + 2 * text.length ∧ St w (pA X).fp [pA X'] w') := Lib.hid fun P2 v2 q w h1 h2 => of_any hX q hb hlen hroom w h1 h2
 have HID : Hid (∀ (X2 : Px) (id2 : Nat), X.Ext X2 → PxOk X2 → IdIs X2.S id2 (text.map Tr.leaf) → ((id : Int) == (id2 : Int)) = true) := Lib.hid fun X2 id2 q1 q2 q3 => by
  have := IdIs.uniq q2.ok (hid.le hX.ok q1.le) q3
  simp [this]
 rcases Nat.eq_zero_or_pos text.length with h0 | h0
 ·have ht := List.eq_nil_of_length_eq_zero h0
  subst ht
  simp only [List.length_nil] at hn
  subst hn
  have HR0 : Hid (∀ b, RowIn [] encT 1 (.slice (some ⟨b, 0, none⟩) 0 0) []) := Lib.hid fun b => ⟨_, _, rfl, by simp, fun h => by simp at h⟩
  simp only [List.length_nil] at HR
  clear hX hr hb hlen hroom hid hmx
  go_enter Tryd.func8, Tryd.ntmps8
  go_wp2_with (first | refine sL ?_ | (refine sS ?_; clear H; intros; rename_i H) | ((with_reducible refine isSlice ?_); refine AtSlice.zero encT H rfl rfl rfl rfl encT_len ?_; clear H; intro b9 _ H; simp only [Act.put, puA, puB, puC]) | ((with_reducible refine isAppend ?_); refine AtAppend.none rfl rfl rfl rfl rfl rfl ?_; simp only [Act.put, puA, puB, puC]))
  obtain ⟨P2, hr2, H2⟩ := St.to_pool (H.pick (A := rowsA encT 5 1 (.slice (some ⟨b9, 0, none⟩) 0 0) []) pk) encT_len
  clear H
  have H := H2
  clear H2
  go_at_call 12; with_reducible refine Calls.mono (HOF.out P2 _ hr2 _ (H.sepK (A := pA X) HK pk pk) (H.sepO (A := pA X) pk pk)) ?_; rintro e9 wc ⟨X2, id2, rfl, y1, y2, y3, y4, hb⟩; have HY := Lib.hid (And.intro y1 (And.intro y2 (And.intro y3 y4))); clear y1 y2 y3 y4; replace H := (H.pick (A := pA X) pk).call hb; clear hb; simp only [List.cons_append, List.nil_append] at H
  have hii := HID.out X2 id2 HY.out.1 HY.out.2.1 HY.out.2.2.1
  go_wp2_with (first | refine sL ?_ | (refine sS ?_; clear H; intros; rename_i H) | fail)
  go_ret
  exact ⟨X2, rfl, HY.out.1, HY.out.2.1, HY.out.2.2.2, H.picks (.cons (A := pA X2) pk .nil)⟩
 ·have HL : Hid (text.length = n ∧ n ≤ 65536 ∧ 0 < n) := Lib.hid ⟨hn, by omega, by omega⟩
  rw [hn] at HR ⊢
  clear hX hr hb hlen hroom hid hmx h0 hn
  go_enter Tryd.func8, Tryd.ntmps8
  go_wp2_with (first | refine sL ?_ | (refine sS ?_; clear H; intros; rename_i H) | ((with_reducible refine isSlice ?_); refine AtSlice.zero encT H rfl rfl rfl rfl encT_len ?_; clear H; intro b9 _ H; simp only [Act.put, puA, puB, puC]) | ((with_reducible refine isAppend ?_); refine AtAppend.pool (enc := encT) (P := P) (ys := text) H rfl rfl rfl rfl rfl (by decide) (by decide) rfl pk rfl HR.out (H.known HK pk) encT_len encT_one' (by have := HL.out; simp; omega) (by have := HL.out; omega) ?_; clear H; intro ad9 cp9 _ H; simp only [Act.put, puA, puB, puC]))
  simp only [List.nil_append, List.length_nil, Nat.zero_add] at H
  obtain ⟨P2, hr2, H2⟩ := St.to_pool (H.pick (A := rowsA encT 5 1 (.slice ad9 text.length cp9) text) pk) encT_len
  clear H
  have H := H2
  clear H2
  go_at_call 12; with_reducible refine Calls.mono (HOF.out P2 _ hr2 _ (H.sepK (A := pA X) HK pk pk) (H.sepO (A := pA X) pk pk)) ?_; rintro e9 wc ⟨X2, id2, rfl, y1, y2, y3, y4, hb⟩; have HY := Lib.hid (And.intro y1 (And.intro y2 (And.intro y3 y4))); clear y1 y2 y3 y4; replace H := (H.pick (A := pA X) pk).call hb; clear hb; simp only [List.cons_append, List.nil_append] at H
  have hii := HID.out X2 id2 HY.out.1 HY.out.2.1 HY.out.2.2.1
  go_wp2_with (first | refine sL ?_ | (refine sS ?_; clear H; intros; rename_i H) | fail)
  go_ret
  exact ⟨X2, rfl, HY.out.1, HY.out.2.1, by have := HY.out.2.2.2; have := HL.out.1; omega, H.picks (.cons (A := pA X2) pk .nil)⟩
end
end Go.Proofs.YtnnbeldbccejpaaDoor
