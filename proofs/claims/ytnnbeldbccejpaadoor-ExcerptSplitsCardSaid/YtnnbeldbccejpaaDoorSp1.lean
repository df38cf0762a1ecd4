/-
  ExcerptSplits: the given tied card: for every input the law returns true and leaves its arguments; the library's table is tied to the program's text by the given tie. No condition beyond the statement's own.
-/
import Derived.Test.YtnnbeldbccejpaaDoorBa8
import Derived.ChangeOld
import Derived.Deep.Slices
import Derived.LaidMore
import Derived.Laws.Rows
import Derived.OpenShut
import Derived.ProofKit
import Derived.SevenTiedAt
import Derived.ShutString
import Derived.Stop.Joined
import Derived.Test.YtnnbeldbccejpaaDoorCards
import Derived.Test.YtnnbeldbccejpaaDoorTie
set_option linter.unusedSimpArgs false
set_option linter.unusedVariables false
set_option maxRecDepth 100000
set_option maxHeartbeats 80000000
namespace Go.Proofs.YtnnbeldbccejpaaDoor
section
open Go.RowKit Go.Maps
attribute [local go_sem] InGr
theorem Split_ok {X : Px} {x at_ : Nat} {s : List Tr} (hX : PxOk X) (hd : IdIs X.S x s) (ha : at_ ≤ s.length) (hl : s.length ≤ 1048576) (hroom : X.S.list.length + 2 * s.length ≤ X.S.most) (w : World) (h : PH X w) :
  Calls Tryd.prog 6 #[.pointer (some ⟨X.p, 0, none⟩), .int .i64 x, .int .i64 (at_ : Nat)] w fun e w' => ∃ (X' : Px) (i1 i2 : Nat), e = .returned (.tuple #[.int .i64 i1, .int .i64 i2, .nilIface]) ∧ X.Ext X' ∧ PxOk X' ∧ IdIs X'.S i1 (s.take at_) ∧ IdIs X'.S i2 (s.drop at_) ∧ X'.S.list.length ≤ X.S.list.length + s.length ∧ St w (pA X).fp [pA X'] w' := by
 have h : ((pA X).sep deA).ho w := h
 rw [sep_ho] at h
 obtain ⟨k1, k2, hdd⟩ := h
 have H := St.one k1
 have HK : Ks w (pA X).fp [deA] := ⟨by simpa using k2, by simpa using fun b hb hm => hdd b hm hb⟩
 generalize (pA X).fp = N at *
 clear k1 k2 hdd
 obtain ⟨ls, hls⟩ : ∃ n, s.length = n := ⟨_, rfl⟩
 have HCK : Hid (∀ w, ((pA X).sep deA).ho w → Calls Tryd.prog 13 #[.pointer (some ⟨X.p, 0, none⟩), .int .i64 x] w (PPost X (.tuple #[.int .i64 (ls : Nat), .nilIface]) (pA X).fp w)) := Lib.hid fun w h => by have := check_c hX hd w h; rwa [hls] at this
 have d1 : decide ((at_ : Int) < 0) = false := by simp
 have d2 : decide ((ls : Int) < (at_ : Int)) = false := by simp; omega
 have d2n : decide (ls < at_) = false := by simp; omega
 have hat : at_ ≤ 1048576 := by omega
 have hlt : (s.take at_).length = at_ := by simp; omega
 have hld : (s.drop at_).length = ls - at_ := by simp; omega
 have HS1 : Hid (∀ X2 : Px, X.Ext X2 → PxOk X2 → X2.S = X.S → ∀ w, ((pA X2).sep deA).ho w → Calls Tryd.prog 14 #[.pointer (some ⟨X.p, 0, none⟩), .int .i64 x, .int .i64 (at_ : Nat), .int .i64 0, .int .i64 0] w fun e w' => ∃ (X' : Px) (id : Nat), e = .returned (.tuple #[.int .i64 id, .nilIface]) ∧ X2.Ext X' ∧ PxOk X' ∧ IdIs X'.S id (s.take at_) ∧ X'.S.list.length ≤ X2.S.list.length + (s.take at_).length ∧ St w (pA X2).fp [pA X'] w') := Lib.hid fun X2 q1 q2 q3 w h => by
  have hm : X2.S.most = X.S.most := q1.le.1
  have hln : X2.S.list.length = X.S.list.length := by rw [q3]
  have := splice_c (X := X2) (a := x) (i := at_) (sa := s) (b := 0) (j := 0) (sb := []) q2 (by rw [q3]; exact hd) (.inl ⟨rfl, rfl⟩) ha (Nat.zero_le _) (by simp; omega) (by simp; omega) w h
  rw [q1.p] at this
  simp only [List.drop_nil, List.append_nil] at this
  exact this
 have HS2 : Hid (∀ X2 : Px, X.Ext X2 → PxOk X2 → X2.S.list.length ≤ X.S.list.length + (s.take at_).length → ∀ w, ((pA X2).sep deA).ho w → Calls Tryd.prog 14 #[.pointer (some ⟨X.p, 0, none⟩), .int .i64 0, .int .i64 0, .int .i64 x, .int .i64 (at_ : Nat)] w fun e w' => ∃ (X' : Px) (id : Nat), e = .returned (.tuple #[.int .i64 id, .nilIface]) ∧ X2.Ext X' ∧ PxOk X' ∧ IdIs X'.S id (s.drop at_) ∧ X'.S.list.length ≤ X2.S.list.length + (s.drop at_).length ∧ St w (pA X2).fp [pA X'] w') := Lib.hid fun X2 q1 q2 q3 w h => by
  have hm : X2.S.most = X.S.most := q1.le.1
  have := splice_c (X := X2) (a := 0) (i := 0) (sa := []) (b := x) (j := at_) (sb := s) q2 (.inl ⟨rfl, rfl⟩) (hd.le hX.ok q1.le) (Nat.zero_le _) ha (by simp; omega) (by simp; omega) w h
  rw [q1.p] at this
  simp only [List.take_nil, List.nil_append] at this
  exact this
 have HCN : Hid ((s.take at_).length + (s.drop at_).length = s.length) := Lib.hid (by omega)
 have HX := Lib.hid hX
 clear hX hd ha hl hroom hls hlt hld
 go_enter Tryd.func6, Tryd.ntmps6
 go_wp2_with (first | refine sL ?_ | (refine sS ?_; clear H; intros; rename_i H) | (go_at_call 13; with_reducible refine Calls.mono (HCK.out _ (H.sepK (A := pA X) HK pk pk)) ?_; rintro e9 wc ⟨X2, y1, y2, y3, rfl, hb⟩; have HY := Lib.hid (And.intro y1 (And.intro y2 y3)); clear y1 y2 y3; replace H := (H.pick (A := pA X) pk).call hb; clear hb; simp only [List.cons_append, List.nil_append] at H) | (first | (go_at_call 14; with_reducible refine Calls.mono (HS1.out X2 HY.out.1 HY.out.2.1 HY.out.2.2 _ (H.sepK (A := pA X2) HK pk pk)) ?_; rintro e9 wc ⟨X3, id3, rfl, y1, y2, y3, y4, hb⟩; have HZ := Lib.hid (And.intro y1 (And.intro y2 (And.intro y3 y4))); clear y1 y2 y3 y4; replace H := (H.pick (A := pA X2) pk).call hb; clear hb; simp only [List.cons_append, List.nil_append] at H) | (go_at_call 14; with_reducible refine Calls.mono (HS2.out X3 (HY.out.1.trans HZ.out.1) HZ.out.2.1 (by have h1 := HZ.out.2.2.2; rw [HY.out.2.2] at h1; exact h1) _ (H.sepK (A := pA X3) HK pk pk)) ?_; rintro e9 wc ⟨X4, id4, rfl, y1, y2, y3, y4, hb⟩; have HW4 := Lib.hid (And.intro y1 (And.intro y2 (And.intro y3 y4))); clear y1 y2 y3 y4; replace H := (H.pick (A := pA X3) pk).call hb; clear hb; simp only [List.cons_append, List.nil_append] at H)))
 go_ret3
 exact ⟨X4, id3, id4, rfl, HY.out.1.trans (HZ.out.1.trans HW4.out.1), HW4.out.2.1, HZ.out.2.2.1.le HZ.out.2.1.ok HW4.out.1.le, HW4.out.2.2.1, by have h1 := HZ.out.2.2.2; have h2 := HW4.out.2.2.2; have h3 := HCN.out; rw [HY.out.2.2] at h1; omega, H.picks (.cons (A := pA X4) pk .nil)⟩
theorem Split_no {X : Px} {x : Nat} {a9 : Int} {s : List Tr} (hX : PxOk X) (hd : IdIs X.S x s) (ha : ¬ (0 ≤ a9 ∧ a9 ≤ s.length)) (w : World) (h : PH X w) :
  Calls Tryd.prog 6 #[.pointer (some ⟨X.p, 0, none⟩), .int .i64 x, .int .i64 a9] w (PPost X (.tuple #[.int .i64 0, .int .i64 0, EV 1]) (pA X).fp w) := by
 have h : ((pA X).sep deA).ho w := h
 rw [sep_ho] at h
 obtain ⟨k1, k2, hdd⟩ := h
 have H := St.one k1
 have HK : Ks w (pA X).fp [deA] := ⟨by simpa using k2, by simpa using fun b hb hm => hdd b hm hb⟩
 generalize (pA X).fp = N at *
 clear k1 k2 hdd
 obtain ⟨ls, hls⟩ : ∃ n, s.length = n := ⟨_, rfl⟩
 have HCK : Hid (∀ w, ((pA X).sep deA).ho w → Calls Tryd.prog 13 #[.pointer (some ⟨X.p, 0, none⟩), .int .i64 x] w (PPost X (.tuple #[.int .i64 (ls : Nat), .nilIface]) (pA X).fp w)) := Lib.hid fun w h => by have := check_c hX hd w h; rwa [hls] at this
 have hl := hd.len hX.ok
 by_cases h0 : a9 < 0
 case' pos => have d1 : decide (a9 < 0) = true := by simpa using h0
 case' neg =>
  have d1 : decide (a9 < 0) = false := by simpa using h0
  have d2 : decide ((ls : Int) < a9) = true := by simp; omega
 all_goals
  clear hX hd ha hl hls
  go_enter Tryd.func6, Tryd.ntmps6
  go_wp2_with (first | refine sL ?_ | (refine sS ?_; clear H; intros; rename_i H) | (go_at_call 13; with_reducible refine Calls.mono (HCK.out _ (H.sepK (A := pA X) HK pk pk)) ?_; rintro e9 wc ⟨X2, y1, y2, y3, rfl, hb⟩; have HY := Lib.hid (And.intro y1 (And.intro y2 y3)); clear y1 y2 y3; replace H := (H.pick (A := pA X) pk).call hb; clear hb; simp only [List.cons_append, List.nil_append] at H))
  go_ret3
  exact ⟨X2, HY.out.1, HY.out.2.1, HY.out.2.2, rfl, H.picks (.cons (A := pA X2) pk .nil)⟩
end
section
open Go.RowKit Go.Maps
attribute [local go_sem] InGr
theorem splits_c {P0 : PoolT} {text : List Nat} {v : Value} (ht0 : TxtIn P0 v text) (hb : ∀ x ∈ text, x < 256) (fr : Int) (w : World) (hde : deA.ho w) (hp0 : (poolA P0).ho w) :
  Calls Tryd.prog 3 #[v, .int .i64 fr] w fun e w' => e = .returned (.bool true) ∧ St w [] [] w' := by
 obtain ⟨ad, c, rfl, hc, hr0⟩ := id ht0
 obtain ⟨n, hn⟩ : ∃ n, text.length = n := ⟨_, rfl⟩
 rcases Nat.lt_or_ge 1000 text.length with h0 | hlen
 ·rw [hn] at h0 ⊢
  have H := St.nil w []
  have HK : Ks w [] [deA] := Ks.one hde
  have d1 : decide ((1000 : Int) < (n : Int)) = true := by simp; omega
  have d2 : decide (1000 < n) = true := by simp; omega
  have d3 : (1000 : Int) < (n : Int) := by omega
  clear ht0 hr0 hn hc hb hp0 hde
  go_enter Tryd.func3, Tryd.ntmps3
  go_wp2_with (first | refine sL ?_ | (refine sS ?_; clear H; intros; rename_i H))
  go_ret
  exact ⟨rfl, H⟩
 ·obtain ⟨r1, hr1⟩ : ∃ r, offV fr n = r := ⟨_, rfl⟩
  have HO1 : Hid (∀ w, Calls Tryd.prog 5 #[.int .i64 fr, .int .i64 (n : Nat)] w fun e w' => e = .returned (.int .i64 r1) ∧ w' = w) := Lib.hid fun w => by have := offset_c fr n (by omega) w; rwa [hr1] at this
  clear hr1
  have d1 : decide ((1000 : Int) < (n : Int)) = false := by simp; omega
  have d2 : decide (1000 < n) = false := by simp; omega
  have hnb : n ≤ 1000 := by omega
  by_cases hin : 0 ≤ r1 ∧ r1 ≤ (n : Int)
  ·obtain ⟨a1, rfl⟩ : ∃ a : Nat, r1 = (a : Int) := ⟨r1.toNat, by omega⟩
   have ha : a1 ≤ n := by omega
   obtain ⟨-, _, ad1, P1, hcut1, hsub1, hpp1, ht1⟩ := (show TxtIn P0 (.slice ad text.length c) text from ht0).cut 0 a1 (by omega)
   obtain ⟨-, _, ad2, P2, hcut2, hsub2, hpp2, ht2⟩ := (show TxtIn P0 (.slice ad text.length c) text from ht0).cut a1 (n - a1) (by omega)
   have hp1 := hpp1 w hp0
   have hp2 := hpp2 w hp0
   rw [List.drop_zero] at ht1
   rw [List.take_of_length_le (by simp; omega)] at ht2
   simp only [Nat.sub_zero] at ht1
   rw [hn] at ht0 ⊢
   have HK : Ks w [] [deA, poolA P0, poolA P1, poolA P2] := ⟨by simp [hde, hp0, hp1, hp2], by simp⟩
   have H := St.nil w []
   have HPA : Hid (∀ w, deA.ho w → (poolA P0).ho w → Calls Tryd.prog 4 #[.slice ad n c] w fun e w' => ∃ (X : Px) (id : Nat), e = .returned (.tuple #[.pointer (some ⟨X.p, 0, none⟩), .int .i64 id, .bool true]) ∧ PxOk X ∧ X.S.most = 1048576 ∧ IdIs X.S id (text.map Tr.leaf) ∧ X.S.list.length ≤ 2 * text.length ∧ St w [] [pA X] w') := Lib.hid fun w h1 h2 => parsed_c (by have := ht0.row; exact this) hb hlen w h1 h2
   obtain ⟨s1, hs1⟩ : ∃ s, text.take a1 = s := ⟨_, rfl⟩
   obtain ⟨s2, hs2⟩ : ∃ s, text.drop a1 = s := ⟨_, rfl⟩
   have hl1 : s1.length ≤ 1000 := by rw [← hs1]; simp; omega
   have hl2 : s2.length ≤ 1000 := by rw [← hs2]; simp; omega
   have hb1 : ∀ x ∈ s1, x < 256 := fun x hx => hb x (by rw [← hs1] at hx; exact List.mem_of_mem_take hx)
   have hb2 : ∀ x ∈ s2, x < 256 := fun x hx => hb x (by rw [← hs2] at hx; exact List.mem_of_mem_drop hx)
   have HB : Hid (text.length ≤ 1000 ∧ s2.length ≤ 1000 ∧ s1.length ≤ 1000) := Lib.hid ⟨by omega, by assumption, by assumption⟩
   have hm1 : (text.map Tr.leaf).take a1 = s1.map Tr.leaf := by rw [← hs1]; simp [List.map_take]
   have hm2 : (text.map Tr.leaf).drop a1 = s2.map Tr.leaf := by rw [← hs2]; simp [List.map_drop]
   rw [hs1] at ht1
   rw [hs2] at ht2
   have HOK : Hid (∀ (X : Px) (id : Nat), PxOk X → IdIs X.S id (text.map Tr.leaf) → X.S.most = 1048576 → X.S.list.length ≤ 2 * text.length → ∀ w, ((pA X).sep deA).ho w → Calls Tryd.prog 6 #[.pointer (some ⟨X.p, 0, none⟩), .int .i64 id, .int .i64 (a1 : Nat)] w fun e w' => ∃ (X' : Px) (i1 i2 : Nat), e = .returned (.tuple #[.int .i64 i1, .int .i64 i2, .nilIface]) ∧ X.Ext X' ∧ PxOk X' ∧ IdIs X'.S i1 (s1.map Tr.leaf) ∧ IdIs X'.S i2 (s2.map Tr.leaf) ∧ X'.S.list.length ≤ X.S.list.length + text.length ∧ St w (pA X).fp [pA X'] w') := Lib.hid fun X id q1 q2 q3 q4 w h => by
    have := Split_ok q1 q2 (at_ := a1) (by rw [List.length_map]; omega) (by rw [List.length_map]; omega) (by rw [List.length_map, q3]; omega) w h
    rw [hm1, hm2, List.length_map] at this
    exact this
   have HI1 : Hid (∀ (X X2 : Px) (id : Nat), X.Ext X2 → PxOk X2 → IdIs X2.S id (s1.map Tr.leaf) → X2.S.most = 1048576 → X2.S.list.length ≤ 8000 → ∀ w, ((pA X2).sep deA).ho w → ((pA X2).sep (poolA P1)).ho w → Calls Tryd.prog 8 #[.pointer (some ⟨X.p, 0, none⟩), .int .i64 id, .slice ad1 a1 c] w fun e w' => ∃ X' : Px, e = .returned (.bool true) ∧ X2.Ext X' ∧ PxOk X' ∧ X'.S.list.length ≤ X2.S.list.length + 2 * s1.length ∧ St w (pA X2).fp [pA X'] w') := Lib.hid fun X X2 id q0 q1 q2 q3 q4 w h1 h2 => by
    have := is_c q1 (by first | exact ht1.row | exact ht2.row) (by assumption) (by omega) (by rw [q3]; omega) q2 w h1 h2
    rw [q0.p] at this
    exact this
   have HI2 : Hid (∀ (X X2 : Px) (id : Nat), X.Ext X2 → PxOk X2 → IdIs X2.S id (s2.map Tr.leaf) → X2.S.most = 1048576 → X2.S.list.length ≤ 8000 → ∀ w, ((pA X2).sep deA).ho w → ((pA X2).sep (poolA P2)).ho w → Calls Tryd.prog 8 #[.pointer (some ⟨X.p, 0, none⟩), .int .i64 id, .slice ad2 (n - a1) (c - a1)] w fun e w' => ∃ X' : Px, e = .returned (.bool true) ∧ X2.Ext X' ∧ PxOk X' ∧ X'.S.list.length ≤ X2.S.list.length + 2 * s2.length ∧ St w (pA X2).fp [pA X'] w') := Lib.hid fun X X2 id q0 q1 q2 q3 q4 w h1 h2 => by
    have := is_c q1 (by first | exact ht1.row | exact ht2.row) (by assumption) (by omega) (by rw [q3]; omega) q2 w h1 h2
    rw [q0.p] at this
    exact this
   obtain ⟨n2, hn2⟩ : ∃ n2, n - a1 = n2 := ⟨_, rfl⟩
   obtain ⟨c2, hc2⟩ : ∃ c2, c - a1 = c2 := ⟨_, rfl⟩
   rw [hc2, hn2] at HI2
   have HCU := Lib.hid (And.intro hcut1 (And.intro hcut2 (And.intro hc2 hn2)))
   have hcn : n ≤ c := by omega
   have HQ : Hid (a1 ≤ n ∧ a1 ≤ c ∧ n ≤ c) := Lib.hid (by omega)
   have hqb : a1 ≤ 1000 ∧ n2 ≤ 1000 := by omega
   have d5 : decide ((a1 : Int) < 0) = false := by simp
   have d6 : decide ((n : Int) < (a1 : Int)) = false := by simp; omega
   have d6n : decide (n < a1) = false := by simp; omega
   clear ht0 ht1 ht2 hr0 hn hc hb hp0 hp1 hp2 hpp1 hpp2 hde hlen hin hsub1 hsub2 hs1 hs2 hl1 hl2 hb1 hb2 hm1 hm2 hcut1 hcut2 hc2 hn2 hcn
   go_enter Tryd.func3, Tryd.ntmps3
   go_wp2_with (first | refine sL ?_ | (refine sS ?_; clear H; intros; rename_i H) | (go_at_call 4; with_reducible refine Calls.mono (HPA.out _ (H.known HK (A := deA) pk) (H.known HK (A := poolA P0) pk)) ?_; rintro e9 wc ⟨X, id, rfl, y1, y2, y3, y4, hb⟩; have HX := Lib.hid (And.intro y1 (And.intro y2 (And.intro y3 y4))); clear y1 y2 y3 y4; replace H := H.call0 hb; clear hb; simp only [List.cons_append, List.nil_append] at H) | (go_at_call 5; (first | (with_reducible refine Calls.mono (HO1.out _) ?_)); rintro e9 wc ⟨rfl, rfl⟩) | (go_at_call 6; with_reducible refine Calls.mono (HOK.out X id HX.out.1 HX.out.2.2.1 HX.out.2.1 HX.out.2.2.2 _ (H.sepK (A := pA X) HK pk pk)) ?_; rintro e9 wc ⟨X2, i1, i2, rfl, y1, y2, y3, y4, y5, hb⟩; have HY := Lib.hid (And.intro y1 (And.intro y2 (And.intro y3 (And.intro y4 y5)))); clear y1 y2 y3 y4 y5; replace H := (H.pick (A := pA X) pk).call hb; clear hb; simp only [List.cons_append, List.nil_append] at H) | ((with_reducible refine isSeg ?_); first | (refine AtSeg.row none (some a1) rfl rfl rfl rfl rfl rfl rfl rfl rfl (Nat.zero_le _) HQ.out.2.1 rfl rfl HCU.out.1 ?_; simp only [Act.put, puA, puB, puC]) | (refine AtSeg.row (some a1) none rfl rfl rfl rfl rfl rfl rfl rfl rfl HQ.out.1 HQ.out.2.2 HCU.out.2.2.2 HCU.out.2.2.1 HCU.out.2.1 ?_; simp only [Act.put, puA, puB, puC])) | (first | (go_at_call 8; with_reducible refine Calls.mono (HI1.out X X2 i1 HY.out.1 HY.out.2.1 HY.out.2.2.1 (by rw [HY.out.1.le.1]; exact HX.out.2.1) (by have h1 := HY.out.2.2.2.2; have h2 := HX.out.2.2.2; have h3 := HB.out.1; omega) _ (H.sepK (A := pA X2) HK pk pk) (H.sepK (A := pA X2) HK pk pk)) ?_; rintro e9 wc ⟨X3, rfl, y1, y2, y3, hb⟩; have HZ := Lib.hid (And.intro y1 (And.intro y2 y3)); clear y1 y2 y3; replace H := (H.pick (A := pA X2) pk).call hb; clear hb; simp only [List.cons_append, List.nil_append] at H) | (go_at_call 8; with_reducible refine Calls.mono (HI2.out X X3 i2 (HY.out.1.trans HZ.out.1) HZ.out.2.1 (HY.out.2.2.2.1.le HY.out.2.1.ok HZ.out.1.le) (by rw [HZ.out.1.le.1, HY.out.1.le.1]; exact HX.out.2.1) (by have h0 := HZ.out.2.2; have h1 := HY.out.2.2.2.2; have h2 := HX.out.2.2.2; have h3 := HB.out.1; have h4 := HB.out.2.2; omega) _ (H.sepK (A := pA X3) HK pk pk) (H.sepK (A := pA X3) HK pk pk)) ?_; rintro e9 wc ⟨X4, rfl, y1, y2, y3, hb⟩; have HW := Lib.hid (And.intro y1 (And.intro y2 y3)); clear y1 y2 y3; replace H := (H.pick (A := pA X3) pk).call hb; clear hb; simp only [List.cons_append, List.nil_append] at H)))
   go_ret
   exact ⟨rfl, H.nix⟩
  ·rw [hn] at ht0 ⊢
   have HK : Ks w [] [deA, poolA P0] := Ks.two hde hp0
   have H := St.nil w []
   have HPA : Hid (∀ w, deA.ho w → (poolA P0).ho w → Calls Tryd.prog 4 #[.slice ad n c] w fun e w' => ∃ (X : Px) (id : Nat), e = .returned (.tuple #[.pointer (some ⟨X.p, 0, none⟩), .int .i64 id, .bool true]) ∧ PxOk X ∧ X.S.most = 1048576 ∧ IdIs X.S id (text.map Tr.leaf) ∧ X.S.list.length ≤ 2 * text.length ∧ St w [] [pA X] w') := Lib.hid fun w h1 h2 => parsed_c (by have := ht0.row; exact this) hb hlen w h1 h2
   have HNO : Hid (∀ (X : Px) (id : Nat), PxOk X → IdIs X.S id (text.map Tr.leaf) → ∀ w, ((pA X).sep deA).ho w → Calls Tryd.prog 6 #[.pointer (some ⟨X.p, 0, none⟩), .int .i64 id, .int .i64 r1] w (PPost X (.tuple #[.int .i64 0, .int .i64 0, EV 1]) (pA X).fp w)) := Lib.hid fun X id q1 q2 w h => Split_no q1 q2 (by rw [List.length_map, hn]; exact hin) w h
   have HEI : Hid (∀ w, Calls Tryd.prog 7 #[EV 1, .int .i64 (1 : Int)] w fun e w' => e = .returned (.bool true) ∧ w' = w) := Lib.hid fun w => is_ev 1 1 (by decide) true (by decide) w
   rcases Int.lt_or_le r1 0 with h8 | h8
   case' inl => have d5 : decide (r1 < 0) = true := by simp; omega
   case' inr =>
    have d5 : decide (r1 < 0) = false := by simp; omega
    have d6 : decide ((n : Int) < r1) = true := by simp; omega
   all_goals
    clear ht0 hr0 hn hc hb hp0 hde hlen hin
    go_enter Tryd.func3, Tryd.ntmps3
    go_wp2_with (first | refine sL ?_ | (refine sS ?_; clear H; intros; rename_i H) | (go_at_call 4; with_reducible refine Calls.mono (HPA.out _ (H.known HK (A := deA) pk) (H.known HK (A := poolA P0) pk)) ?_; rintro e9 wc ⟨X, id, rfl, y1, y2, y3, y4, hb⟩; have HX := Lib.hid (And.intro y1 (And.intro y2 (And.intro y3 y4))); clear y1 y2 y3 y4; replace H := H.call0 hb; clear hb; simp only [List.cons_append, List.nil_append] at H) | (go_at_call 5; (first | (with_reducible refine Calls.mono (HO1.out _) ?_)); rintro e9 wc ⟨rfl, rfl⟩) | (go_at_call 6; with_reducible refine Calls.mono (HNO.out X id HX.out.1 HX.out.2.2.1 _ (H.sepK (A := pA X) HK pk pk)) ?_; rintro e9 wc ⟨X2, y1, y2, y3, rfl, hb⟩; have HY := Lib.hid (And.intro y1 (And.intro y2 y3)); clear y1 y2 y3; replace H := (H.pick (A := pA X) pk).call hb; clear hb; simp only [List.cons_append, List.nil_append] at H) | (go_at_call 7; with_reducible refine same (HEI.out _) ?_))
    go_ret
    exact ⟨rfl, H.nix⟩
end
section
open Go.ChangeShapes Go.WideShapes Go.ChangeAt Go.RowKit Go.Deep
def fits64 (z : Int) : Prop := -9223372036854775808 ≤ z ∧ z ≤ 9223372036854775807
theorem ownK : ownKnob Tryd.prog.godebug = none := by kernel_rfl
theorem i64_wf {x : Int} (h : (Lit.int .i64 x).wf = true) : fits64 x := by
 simp [Lit.wf, IntKind.min, IntKind.max, IntKind.signed, IntKind.bits] at h
 unfold fits64
 omega
theorem u8_wf {x : Int} (h : (Lit.int .u8 x).wf = true) : ∃ n : Nat, x = (n : Int) ∧ n < 256 := by
 simp [Lit.wf, IntKind.min, IntKind.max, IntKind.signed, IntKind.bits] at h
 exact ⟨x.toNat, by omega, by omega⟩
section
variable {H : Type} {enc : TypeId × Value → H} {w : World} {base : Nat} {spare : Nat → Bool} {held : Bool}
theorem open_row {α : Type} [Inhabited α] {ec : α → List Value} {k : Nat} (hk : ∀ x, (ec x).length = k) (hk0 : 0 < k) {t e : TypeId} (ht : Tryd.prog.underlying t = some (.slice e)) (hc : Tryd.prog.cellsOf e = k) (Ok : α → Prop)
  (el : ∀ n cs y, cs.length = k → DataW.trod enc Tryd.prog w base spare held n e cs = some y → ∃ x, cs = ec x ∧ Ok x) {fuel : Nat} {cs : List Value} {x : DataW H × List MemPlace} (h : DataW.trod enc Tryd.prog w base spare held fuel t cs = some x) :
  ∃ (v : Value) (xs : List α) (P : PoolT), cs = [v] ∧ RowIn P ec k v xs ∧ (poolA P).ho w ∧ (∀ x ∈ xs, Ok x) ∧ ∃ ad c, v = .slice ad xs.length c ∧ xs.length ≤ c := by
 rcases open_slice ht h with ⟨hcs, _⟩ | ⟨a, len, cap, m, n, D, Pl, hcs, _, hl, hm, hmm, _, hx⟩
 ·exact ⟨_, [], [], hcs, RowIn.nil 0, poolA_nil w, by simp, _, _, rfl, Nat.le_refl _⟩
 ·have hml : len ≤ m := by rw [hmm]; split <;> omega
  rw [hc] at hx
  by_cases h0 : len = 0
  ·subst h0
   exact ⟨_, [], [], hcs, ⟨some a, cap, rfl, by simp, fun h => by simp at h⟩, poolA_nil w, by simp, _, _, rfl, Nat.zero_le _⟩
  obtain ⟨b, o, spot⟩ := a
  have key : ∀ i, i < len → ∃ x : α, w.cells? base ((⟨b, o, spot⟩ : Addr).add (i * k)) k = some (ec x) ∧ Ok x := fun i hi => by
   obtain ⟨cs', h1, h2⟩ := hx i (by omega)
   obtain ⟨x, rfl, hok⟩ := el _ _ _ (World.cells?_some h1).2.1 h2
   exact ⟨x, h1, hok⟩
  obtain ⟨f, hf2⟩ := choose_lt (α := α) key
  have hcell : ∀ i, i < len → ∀ j u, (ec (f i))[j]? = some u → w.cell? (((⟨b, o, spot⟩ : Addr).add (i * k)).add j) = some u := fun i hi j u hj => by
   have hj4 : j < k := by have := (List.getElem?_eq_some_iff.1 hj).1; rwa [hk] at this
   have := (World.cells?_some (hf2 i hi).1).2.2 j hj4
   rw [this, hj]
  have hl4 : 0 < (ec (f 0)).length := by rw [hk]; omega
  have hspot : spot = none := by
   have := World.cell?_spot (hcell 0 (by omega) 0 _ (List.getElem?_eq_getElem hl4))
   simpa [Addr.add] using this
  subst hspot
  have hadd : ∀ i j, ((⟨b, o, none⟩ : Addr).add (i * k)).add j = ⟨b, o + (i * k + j), none⟩ := fun i j => by rw [Addr.add_mid, Addr.add_mid]; congr 1; omega
  have hblk : b < w.heap.size := by
   have := block_lt_of_cell (hcell 0 (by omega) 0 _ (List.getElem?_eq_getElem hl4))
   rw [hadd] at this
   exact this
  unfold maxLen at hm
  have hlen : ((List.range len).map f).length = len := by simp
  refine ⟨_, (List.range len).map f, [(b, o, flatG ec ((List.range len).map f))], hcs, ⟨some ⟨b, o, none⟩, cap, by rw [hlen], by rw [hlen]; unfold maxLen; omega, fun _ => ⟨b, o, rfl, by simp⟩⟩, ?_, ?_, _, cap, by rw [hlen], by rw [hlen]; exact hl⟩
  ·rw [poolA_ho]
   intro y hy
   simp only [List.mem_singleton] at hy
   subst hy
   refine ⟨hblk, fun jj u hj => ?_⟩
   have hjl := getElem_len hj
   rw [flatG_len ec k hk, hlen] at hjl
   have hi : jj / k < len := by rw [Nat.div_lt_iff_lt_mul hk0]; exact hjl
   have hjk : jj % k < k := Nat.mod_lt _ hk0
   have hget : ((List.range len).map f)[jj / k]? = some (f (jj / k)) := by rw [List.getElem?_map, List.getElem?_range hi]; rfl
   have hfl := flatG_get ec k hk _ (jj / k) _ hget (jj % k) hjk
   have hdm : jj / k * k + jj % k = jj := by have := Nat.div_add_mod jj k; rw [Nat.mul_comm] at this; exact this
   rw [hdm, hj] at hfl
   have := hcell (jj / k) hi (jj % k) u hfl.symm
   rw [hadd, hdm] at this
   exact this
  ·intro y hy
   obtain ⟨i, hi, rfl⟩ := List.mem_map.1 hy
   exact (hf2 i (List.mem_range.1 hi)).2
theorem arg_text {r : Reach} {b0 : Nat} {v : Value} {d : DataW H} {p : List MemPlace} (hv : Value.okWide Tryd.prog w r b0 22 v) (h : DataW.Trod enc Tryd.prog w base spare held 22 v d p) :
  ∃ (xs : List Nat) (P : PoolT), TxtIn P v xs ∧ (∀ x ∈ xs, x < 256) ∧ (poolA P).ho w := by
 obtain ⟨a, n, c, rfl⟩ := okWide_slice Tryd.underlying22 hv
 obtain ⟨fuel, hf⟩ := h
 have c5 : Tryd.prog.cellsOf 5 = 1 := by kernel_rfl
 obtain ⟨v2, xs, P, e, h1, h2, h3, ad, c2, h4, h5⟩ := open_row (ec := encT) encT_len (by omega) Tryd.underlying22 c5 (fun x => x < 256) (fun n cs y hl hy => by
  obtain ⟨z, rfl, _, hz⟩ := DataW.trod_int Tryd.underlying5 hy
  obtain ⟨x, rfl, hx⟩ := u8_wf hz
  exact ⟨x, rfl, hx⟩) hf
 simp only [Value.cells, List.cons.injEq, and_true] at e
 first | subst e | (have e := (List.cons.inj e).1; subst e)
 exact ⟨xs, P, ⟨ad, c2, h4, h5, h1⟩, h3, h2⟩
theorem arg_int {r : Reach} {b0 : Nat} {v : Value} {d : DataW H} {p : List MemPlace} (hv : Value.okWide Tryd.prog w r b0 3 v) (h : DataW.Trod enc Tryd.prog w base spare held 3 v d p) : ∃ z, v = .int .i64 z ∧ fits64 z := by
 obtain ⟨z, rfl, h1, h2, h3⟩ := open_int Tryd.underlying3 hv h
 exact ⟨z, rfl, i64_wf h3⟩
end
theorem gTab : Tryd.prog.globalNamed "math/bits.deBruijn64tab" = some 0 := by kernel_rfl
theorem tTab : (Tryd.prog.globals[0]?).map (·.type) = some 171 := by kernel_rfl
theorem tab_is {H : Type} : (Rows.laid_math_bits_deBruijn64tab : DataW H) = .agg (Lib.deBruijn64tab.map fun (n : Nat) => .lit (.int .u8 n)) := rfl
theorem tab_of {W : World} (h : laidMetH Tryd.prog [("math/bits.deBruijn64tab", Rows.laid_math_bits_deBruijn64tab)] W) : deA.ho W := by
  rw [deA_ho]
  rw [MakeChecks.laidMetH_plain _ _ _ (by kernel_rfl)] at h
  obtain ⟨ps, ⟨g0, t0, cs0, f0, p0, q0, hg0, ht0, hv0, hd0, _, _⟩, _, _⟩ := h
  obtain rfl := Option.some.inj (gTab.symm.trans hg0)
  obtain rfl := Option.some.inj (tTab.symm.trans ht0)
  obtain ⟨xs, m1, hfu, hx1, hlen, hn3, hel⟩ := DataW.trod_array Tryd.underlying171 hd0
  have c5 : Tryd.prog.cellsOf 5 = 1 := by kernel_rfl
  have key : ∀ j, j < 64 → W.cell? ⟨0, j, none⟩ = some (.int .u8 (Lib.deBruijn64tab.getD j 0 : Nat)) := fun j hj => by
    have h0 := hel j hj
    rw [c5] at h0
    obtain ⟨y, hy⟩ : ∃ y, xs[j]? = some y := ⟨xs[j]'(by omega), List.getElem?_eq_getElem _⟩
    rw [hy] at h0
    obtain ⟨k, e1, e2, _⟩ := DataW.trod_int Tryd.underlying5 h0
    rw [tab_is] at hx1
    simp only [Prod.mk.injEq, DataW.agg.injEq] at hx1
    have e3 := congrArg (fun l : List (DataW Unit) => l[j]?) hx1.1
    simp only [List.getElem?_map, hy, Option.map_some] at e3
    have hl : j < Lib.deBruijn64tab.length := by have : Lib.deBruijn64tab.length = 64 := by decide
                                                 omega
    rw [List.getElem?_eq_getElem hl, Option.map_some] at e3
    have hk : k = (Lib.deBruijn64tab[j] : Nat) := by
      have := Option.some.inj e3
      rw [e2] at this
      simp at this
      exact this.symm
    have hcl := World.var?_cell hg0 hv0 j
    have e4 : cs0.toList[j]? = some (.int .u8 k) := by
      have := congrArg List.head? e1
      rw [Nat.mul_one, List.head?_take, if_neg (by omega), List.head?_drop] at this
      simpa using this
    rw [hcl, ← Array.getElem?_toList, e4, hk]
    simp [List.getD, hl]
  have h64 : Lib.deBruijn64tab.length = 64 := by decide
  exact ⟨fun j hj => key j (by omega), by have := block_lt_of_cell (key 0 (by omega)); exact this⟩
theorem door_met (os : Os) (args : Array Value) : laidMetH Tryd.prog [("math/bits.deBruijn64tab", Rows.laid_math_bits_deBruijn64tab)] ((World.doorLaid Tryd.prog 400 os).forCall (fun _ _ => 0) ⟨#[], args, []⟩).memory :=
 laidMetH_of_parts3 (fuel := 80) (laidMet_of_run' 80 (by kernel_rfl) (by kernel_rfl)) (by kernel_rfl) (by kernel_rfl)
end
end Go.Proofs.YtnnbeldbccejpaaDoor
section
namespace Go.Proofs.YtnnbeldbccejpaaDoor.lawExcerptSplits
open Go.ChangeShapes Go.WideShapes Go.ChangeAt Go.RowKit
open Go.Proofs.YtnnbeldbccejpaaDoor
set_option linter.unusedVariables false
set_option maxRecDepth 100000 in
theorem lifted (os : Os) (started : os.Started) (H : Type) (enc : TypeId × Value → H) :
  ReturnsInHanded {} Tryd.checked os 3 .any (fun w args => (Rows.excerptSplitsSpec.pre enc Tryd.prog Tryd.f3 [] false w args ∧ laidMetH Tryd.prog [("math/bits.deBruijn64tab", Rows.laid_math_bits_deBruijn64tab)] w) ∧ sizedMet enc Tryd.prog Tryd.f3 (OpenSpec.ofChange Rows.excerptSplitsSpec) false w args)
   (Rows.excerptSplitsSpec.post enc Tryd.prog Tryd.f3 false true false false) := by
 refine returnsInHanded_of_change_and (C := Tryd.checked) (X := fun w _ => laidMetH Tryd.prog [("math/bits.deBruijn64tab", Rows.laid_math_bits_deBruijn64tab)] w) (fun _ _ _ hh h => h.of_heap hh) ownK started (by kernel_rfl) Tryd.func3
  (ChangeSpec.witness_shaped (enc := enc) (C := Tryd.checked) (os := os) (X := fun w _ => laidMetH Tryd.prog [("math/bits.deBruijn64tab", Rows.laid_math_bits_deBruijn64tab)] w) false (World.doorLaid Tryd.prog 400 os) #[.slice none 0 0, .int .i64 0] 8 rfl (World.shaped_of_RefB (by kernel_rfl) (by kernel_rfl)) (by kernel_rfl) (by kernel_rfl) (by kernel_rfl) (door_met os _)) ?_
 intro W base args ds gs before hval0 hW _ _ hL _
 have hval : ∀ (j : Nat) t v, Tryd.f3.params[j]? = some t → args[j]? = some v → Value.okWide Tryd.prog W .any base t v := hval0
 have hW' := hW
 obtain ⟨p, q, hA0, hV, rfl, hfz, hnd⟩ := hW
 have hA : DataW.TrodAll enc Tryd.prog W 0 (fun _ => true) true Tryd.f3.params.toList args.toList ds p := hA0
 rw [Tryd.params3] at hA hval
 obtain ⟨v0, vs0, d0, ds0, p0, q0, hargs, rfl, rfl, h0, r0⟩ := trodAll_cons hA
 obtain ⟨v1, vs1, d1, ds1, p1, q1, rfl, rfl, rfl, h1, r1⟩ := trodAll_cons r0
 obtain ⟨rfl, rfl, rfl⟩ := trodAll_nil r1
 obtain rfl : args = #[v0, v1] := by cases args; simp_all
 obtain ⟨rfl, rfl⟩ := trodVars_none hV
 have k0 := h0
 have lt0 : ∀ x ∈ p0, x.block < W.heap.size := by obtain ⟨m, hm⟩ := k0; exact DataW.trod_lt m _ _ _ hm
 have k1 := h1
 have lt1 : ∀ x ∈ p1, x.block < W.heap.size := by obtain ⟨m, hm⟩ := k1; exact DataW.trod_lt m _ _ _ hm
 obtain ⟨x0, P0, t0, b0, w0⟩ := arg_text (hval 0 22 v0 rfl rfl) h0
 obtain ⟨z1, rfl, _⟩ := arg_int (hval 1 3 v1 rfl rfl) h1
 have hde := tab_of hL
 clear hA0 hval0
 refine (splits_c t0 b0 z1 W hde w0).mono fun e W' ⟨he, bel⟩ => ?_
 subst he
 exact ⟨_, rfl, _, _, _, [], _, [], hW', trodAll_mk1 (shut_bool Tryd.underlying4 _), (trodAll_cons_mk (Below.trod laidOut_ok (by kernel_rfl) (of_decide_eq_true (by kernel_rfl)) k0 bel.below lt0) (trodAll_cons_mk (Below.trod laidOut_ok (by kernel_rfl) (of_decide_eq_true (by kernel_rfl)) k1 bel.below lt1) trodAll_mk0)), rfl, bel.below.frame _, fun h => by cases h⟩
theorem over : Rows.excerptSplitsRow.holds Tryd.pinned (OpenSpec.ofChange Rows.excerptSplitsSpec) :=
 OpenClaim.holds_of_wide 3 Tryd.f3 rfl rfl rfl rfl rfl rfl rfl ⟨rfl, rfl, rfl, rfl, rfl⟩ rfl rfl rfl rfl rfl (by kernel_rfl) Tryd.func3 (by kernel_rfl)
  (of_decide_eq_true (by kernel_rfl)) (by unfold Func.isWrapper; first | (rw [if_pos (by decide +kernel)]; kernel_rfl) | (rw [if_neg (by decide +kernel)]; exact ⟨rfl, rfl⟩))
  (fun os started H enc _ => lifted os started H enc)
theorem proved : Rows.ExcerptSplitsCardSaid :=
 Claim7.holds_tied_plain_at .later [] [.data] true (true, "a0da9aa754fb159ce19b34f08e5c53152218b970b401c144f24b18a2d51b1ad8") true
  over (fun _ h => by cases h) (by kernel_rfl) (fun _ h => by cases h) excerptSplits_row_tie rfl ⟨rfl, rfl⟩ (by kernel_rfl) rfl
  (fun f fn hf hfn => by
   obtain rfl : f = 3 := Option.some.inj ((show Tryd.prog.funcNamed "evergreen/evergreenlaw24.ExcerptSplits" = some 3 by kernel_rfl).symm.trans hf) |>.symm
   obtain rfl : fn = Tryd.f3 := (Option.some.inj (Tryd.func3.symm.trans hfn)).symm
   exact ⟨by kernel_rfl, fun j t ht => by
    rw [Tryd.params3] at ht
    have hm : t ∈ [22, 3] := by simpa using Array.mem_of_getElem? ht
    have hall : ([22, 3].all fun u => !Tryd.prog.wantsStandIn u) = true := by kernel_rfl
    exact (show Tryd.prog.wantsStandIn t = false by simpa using List.all_eq_true.1 hall t hm)⟩)
  (by kernel_rfl)
#print axioms proved
end Go.Proofs.YtnnbeldbccejpaaDoor.lawExcerptSplits
end
namespace Go.Proofs.YtnnbeldbccejpaaDoor
end Go.Proofs.YtnnbeldbccejpaaDoor
