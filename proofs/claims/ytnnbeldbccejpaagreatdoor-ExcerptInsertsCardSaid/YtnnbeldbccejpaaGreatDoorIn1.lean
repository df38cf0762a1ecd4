/-
  ExcerptInserts: the given tied card: for every input the law returns true and leaves its arguments; the library's table is tied to the program's text by the given tie. No condition beyond the statement's own.
-/
import Derived.Test.YtnnbeldbccejpaaGreatDoorBa8
import Derived.ChangeOld
import Derived.Deep.Slices
import Derived.LaidMore
import Derived.Laws.Rows
import Derived.OpenShut
import Derived.ProofKit
import Derived.SevenTiedAt
import Derived.ShutString
import Derived.Stop.Joined
import Derived.Test.YtnnbeldbccejpaaGreatDoorCards
import Derived.Test.YtnnbeldbccejpaaGreatDoorTie
set_option linter.unusedSimpArgs false
set_option linter.unusedVariables false
set_option maxRecDepth 100000
set_option maxHeartbeats 80000000
namespace Go.Proofs.YtnnbeldbccejpaaGreatDoor
section
open Go.RowKit Go.Maps
attribute [local go_sem] InGr
theorem inserts_c {P0 : PoolT} {text oth : List Nat} {v u : Value} (ht0 : TxtIn P0 v text) (hu0 : TxtIn P0 u oth) (hb : ∀ x ∈ text, x < 256) (hbo : ∀ x ∈ oth, x < 256) (at_ : Int) (w : World) (hde : deA.ho w) (hp0 : (poolA P0).ho w) :
  Calls Tryz.prog 5 #[v, u, .int .i64 at_] w fun e w' => e = .returned (.bool true) ∧ St w [] [] w' := by
 obtain ⟨ad, c, rfl, hc, hr0⟩ := id ht0
 obtain ⟨ao, co, rfl, hco, hro⟩ := id hu0
 obtain ⟨n, hn⟩ : ∃ n, text.length = n := ⟨_, rfl⟩
 obtain ⟨no, hno⟩ : ∃ n, oth.length = n := ⟨_, rfl⟩
 rcases Nat.lt_or_ge 500 text.length with h0 | hlen
 ·rw [hn] at h0 ⊢
  have H := St.nil w []
  have HK : Ks w [] [deA] := Ks.one hde
  have d1 : decide ((500 : Int) < (n : Int)) = true := by simp; omega
  have d2 : decide (500 < n) = true := by simp; omega
  have d3 : (500 : Int) < (n : Int) := by omega
  clear ht0 hu0 hr0 hn hno hc hb hbo hp0 hde hro
  go_enter Tryz.func5, Tryz.ntmps5
  go_wp2_with (first | refine sL ?_ | (refine sS ?_; clear H; intros; rename_i H))
  go_ret
  exact ⟨rfl, H⟩
 rcases Nat.lt_or_ge 500 oth.length with h0 | hlo
 ·rw [hno] at h0 ⊢
  rw [hn] at hlen ⊢
  have H := St.nil w []
  have HK : Ks w [] [deA] := Ks.one hde
  have d1 : decide ((500 : Int) < (n : Int)) = false := by simp; omega
  have d2 : decide (500 < n) = false := by simp; omega
  have d3 : decide ((500 : Int) < (no : Int)) = true := by simp; omega
  have d4 : decide (500 < no) = true := by simp; omega
  clear ht0 hu0 hr0 hn hno hc hb hbo hp0 hde hro
  go_enter Tryz.func5, Tryz.ntmps5
  go_wp2_with (first | refine sL ?_ | (refine sS ?_; clear H; intros; rename_i H))
  go_ret
  exact ⟨rfl, H⟩
 obtain ⟨r1, hr1⟩ : ∃ r, offV at_ n = r := ⟨_, rfl⟩
 have HO1 : Hid (∀ w, Calls Tryz.prog 9 #[.int .i64 at_, .int .i64 (n : Nat)] w fun e w' => e = .returned (.int .i64 r1) ∧ w' = w) := Lib.hid fun w => by have := offset_c at_ n (by omega) w; rwa [hr1] at this
 clear hr1
 have d1 : decide ((500 : Int) < (n : Int)) = false := by simp; omega
 have d2 : decide (500 < n) = false := by simp; omega
 have d3 : decide ((500 : Int) < (no : Int)) = false := by simp; omega
 have d4 : decide (500 < no) = false := by simp; omega
 have hnb : n ≤ 500 ∧ no ≤ 500 := by omega
 have ht := ht0
 have HOF : Hid (∀ (X : Px) (id : Nat) (P2 : PoolT) (v2 : Value), (PxOk X ∧ X.S.most = 1048576 ∧ IdIs X.S id (text.map Tr.leaf) ∧ X.S.list.length ≤ 2 * text.length) → RowIn P2 encT 1 v2 oth → ∀ w, ((pA X).sep deA).ho w → ((pA X).sep (poolA P2)).ho w → Calls Tryz.prog 16 #[.pointer (some ⟨X.p, 0, none⟩), v2] w fun e w' => ∃ (X' : Px) (id : Nat), e = .returned (.tuple #[.int .i64 id, .nilIface]) ∧ X.Ext X' ∧ PxOk X' ∧ IdIs X'.S id (oth.map Tr.leaf) ∧ X'.S.list.length ≤ X.S.list.length + 2 * oth.length ∧ St w (pA X).fp [pA X'] w') := Lib.hid fun X id P2 v2 q0 q w h1 h2 => by
  have := q0.2.2.2
  exact of_any q0.1 q hbo (by omega) (by rw [q0.2.1]; omega) w h1 h2
 have HPA : Hid (∀ w, deA.ho w → (poolA P0).ho w → Calls Tryz.prog 8 #[.slice ad n c] w fun e w' => ∃ (X : Px) (id : Nat), e = .returned (.tuple #[.pointer (some ⟨X.p, 0, none⟩), .int .i64 id, .bool true]) ∧ PxOk X ∧ X.S.most = 1048576 ∧ IdIs X.S id (text.map Tr.leaf) ∧ X.S.list.length ≤ 2 * text.length ∧ St w [] [pA X] w') := Lib.hid fun w h1 h2 => parsed_c (by have := ht.row; rwa [hn] at this) hb (by omega) w h1 h2
 by_cases hin : 0 ≤ r1 ∧ r1 ≤ (n : Int)
 ·obtain ⟨a1, rfl⟩ : ∃ a : Nat, r1 = (a : Int) := ⟨r1.toNat, by omega⟩
  have hsum : a1 ≤ text.length := by omega
  obtain ⟨sub, hsb⟩ : ∃ sub, text.take a1 ++ oth ++ text.drop a1 = sub := ⟨_, rfl⟩
  have hsm : (text.map Tr.leaf).take a1 ++ oth.map Tr.leaf ++ (text.map Tr.leaf).drop a1 = sub.map Tr.leaf := by rw [← hsb]; simp [List.map_take, List.map_drop]
  have hsl : sub.length ≤ 1000 := by rw [← hsb]; simp; omega
  have hsby : ∀ x ∈ sub, x < 256 := fun x hx => by
   rw [← hsb] at hx
   rcases List.mem_append.1 hx with hx | hx
   ·rcases List.mem_append.1 hx with hx | hx
    ·exact hb x (List.mem_of_mem_take hx)
    ·exact hbo x hx
   ·exact hb x (List.mem_of_mem_drop hx)
  have HREF : Hid (∀ w, (poolA P0).ho w → Calls Tryz.prog 18 #[.slice ad n c, .int .i64 (a1 : Nat), .slice ao no co] w fun e w' => ∃ (v' : Value) (P' : PoolT), e = .returned v' ∧ RowIn P' encT 1 v' sub ∧ St w [] [poolA P'] w') := Lib.hid fun w h => by
   have := insert24_c a1 ht0 hu0 hsum hlen hlo w h
   rwa [hsb, hn, hno] at this
  have HOK : Hid (∀ (X X2 : Px) (id idy : Nat), (PxOk X ∧ X.S.most = 1048576 ∧ IdIs X.S id (text.map Tr.leaf) ∧ X.S.list.length ≤ 2 * text.length) → (X.Ext X2 ∧ PxOk X2 ∧ IdIs X2.S idy (oth.map Tr.leaf) ∧ X2.S.list.length ≤ X.S.list.length + 2 * oth.length) → ∀ w, ((pA X2).sep deA).ho w → Calls Tryz.prog 17 #[.pointer (some ⟨X.p, 0, none⟩), .int .i64 id, .int .i64 (a1 : Nat), .int .i64 idy] w fun e w' => ∃ (X' : Px) (id : Nat), e = .returned (.tuple #[.int .i64 id, .nilIface]) ∧ X2.Ext X' ∧ PxOk X' ∧ IdIs X'.S id (sub.map Tr.leaf) ∧ X'.S.list.length ≤ X2.S.list.length + 2 * (text.length + oth.length) ∧ St w (pA X2).fp [pA X'] w') := Lib.hid fun X X2 id idy q0 q1 w h => by
   have hi1 := q0.2.2.2
   have hi2 := q1.2.2.2
   have hm : X2.S.most = 1048576 := by rw [q1.1.le.1]; exact q0.2.1
   have := Insert_ok (X := X2) (at_ := a1) q1.2.1 (q0.2.2.1.le q0.1.ok q1.1.le) q1.2.2.1 (by rw [List.length_map]; exact hsum) (by rw [List.length_map, List.length_map]; omega) (by rw [List.length_map, List.length_map, hm]; omega) w h
   rw [hsm, q1.1.p] at this
   refine this.mono ?_
   rintro e w' ⟨X', id', rfl, z1, z2, z3, z4, z5⟩
   simp only [List.length_map] at z4
   exact ⟨X', id', rfl, z1, z2, z3, by omega, z5⟩
  have HISA : Hid (∀ (X X2 : Px) (id : Nat) (P' : PoolT) (v' : Value), X.Ext X2 → PxOk X2 → IdIs X2.S id (sub.map Tr.leaf) → X2.S.most = 1048576 → X2.S.list.length ≤ 6000 → RowIn P' encT 1 v' sub → ∀ w, ((pA X2).sep deA).ho w → ((pA X2).sep (poolA P')).ho w → Calls Tryz.prog 13 #[.pointer (some ⟨X.p, 0, none⟩), .int .i64 id, v'] w fun e w' => ∃ X' : Px, e = .returned (.bool true) ∧ X2.Ext X' ∧ PxOk X' ∧ X'.S.list.length ≤ X2.S.list.length + 2 * sub.length ∧ St w (pA X2).fp [pA X'] w') := Lib.hid fun X X2 id P' v' q0 q1 q2 q3 q4 q5 w h1 h2 => by
   have := is_c q1 q5 hsby (by omega) (by rw [q3]; omega) q2 w h1 h2
   rw [q0.p] at this
   exact this
  have d5 : decide ((n : Int) < (a1 : Int)) = false := by simp; omega
  have d6 : decide (n < a1) = false := by simp; omega
  have ha1 : a1 ≤ 500 := by omega
  rw [hn, hno]
  have HK : Ks w [] [deA, poolA P0] := Ks.two hde hp0
  have H := St.nil w []
  have HB := Lib.hid (And.intro hlen (And.intro hlo (And.intro hn (show ([] : List Nat).length + oth.length = no by simpa using hno))))
  have HRO : Hid (RowIn P0 encT 1 (.slice ao no co) oth) := Lib.hid (by have := hu0.row; rwa [hno] at this)
  clear ht0 hu0 ht hr0 hro hn hno hc hco hb hbo hp0 hde hlen hlo hin hsum hsb hsm hsl hsby
  go_enter Tryz.func5, Tryz.ntmps5
  go_wp2_with (first | refine sL ?_ | (refine sS ?_; clear H; intros; rename_i H) | (go_at_call 8; with_reducible refine Calls.mono (HPA.out _ (H.known HK (A := deA) pk) (H.known HK (A := poolA P0) pk)) ?_; rintro e9 wc ⟨X, id, rfl, y1, y2, y3, y4, hb⟩; have HX := Lib.hid (And.intro y1 (And.intro y2 (And.intro y3 y4))); clear y1 y2 y3 y4; replace H := H.call0 hb; clear hb; simp only [List.cons_append, List.nil_append] at H) | ((with_reducible refine isSlice ?_); refine AtSlice.zero encT H rfl rfl rfl rfl encT_len ?_; clear H; intro b9 _ H; simp only [Act.put, puA, puB, puC]) | ((with_reducible refine isAppend ?_); refine AtAppend.poolE (enc := encT) (P := P0) (xs := ([] : List Nat)) (ys := oth) (n3 := no) H rfl rfl rfl rfl rfl (by decide) (by decide) rfl pk rfl HRO.out (H.known HK pk) encT_len encT_one' (by have := HB.out.2.1; simp only [List.length_nil]; omega) HB.out.2.2.2 ?_; clear H; intro ad9 cp9 _ H; simp only [Act.put, puA, puB, puC]))
  (try simp only [List.nil_append] at H)
  obtain ⟨P2, hr2, H2⟩ := St.to_pool (H.pick (A := rowsA encT 5 1 (.slice ad9 no cp9) oth) pk) encT_len
  clear H
  have H := H2
  clear H2
  have HOFX := Lib.hid (HOF.out X id P2 _ HX.out hr2)
  clear hr2
  go_at_call 16; with_reducible refine Calls.mono (HOFX.out _ (H.sepK (A := pA X) HK pk pk) (H.sepO (A := pA X) (B := poolA P2) pk pk)) ?_; rintro e9 wc ⟨X2, idy, rfl, y1, y2, y3, y4, hb⟩; have HY := Lib.hid (And.intro y1 (And.intro y2 (And.intro y3 y4))); clear y1 y2 y3 y4; replace H := (H.pick (A := pA X) pk).call hb; clear hb; simp only [List.cons_append, List.nil_append] at H
  go_wp2_with (first | refine sL ?_ | (refine sS ?_; clear H; intros; rename_i H) | (go_at_call 9; (first | (with_reducible refine Calls.mono (HO1.out _) ?_)); rintro e9 wc ⟨rfl, rfl⟩) | (go_at_call 17; with_reducible refine Calls.mono (HOK.out X X2 id idy HX.out HY.out _ (H.sepK (A := pA X2) HK pk pk)) ?_; rintro e9 wc ⟨X3, id3, rfl, y1, y2, y3, y4, hb⟩; have HZ := Lib.hid (And.intro y1 (And.intro y2 (And.intro y3 y4))); clear y1 y2 y3 y4; replace H := (H.pick (A := pA X2) pk).call hb; clear hb; simp only [List.cons_append, List.nil_append] at H) | (go_at_call 18; with_reducible refine Calls.mono (HREF.out _ (H.known HK (A := poolA P0) pk)) ?_; rintro e9 wc ⟨v', P3, rfl, y1, hb⟩; have HV := Lib.hid y1; clear y1; replace H := H.call0 hb; clear hb; simp only [List.cons_append, List.nil_append] at H) | (go_at_call 13; with_reducible refine Calls.mono (HISA.out X X3 id3 P3 v' (HY.out.1.trans HZ.out.1) HZ.out.2.1 HZ.out.2.2.1 (by rw [HZ.out.1.le.1, HY.out.1.le.1]; exact HX.out.2.1) (by have h1 := HY.out.2.2.2; have h2 := HX.out.2.2.2; have h3 := HB.out; have h4 := HZ.out.2.2.2; omega) HV.out _ (H.sepK (A := pA X3) HK pk pk) (H.sepO (A := pA X3) (B := poolA P3) pk pk)) ?_; rintro e9 wc ⟨X4, rfl, y1, y2, y3, hb⟩; have HW := Lib.hid (And.intro y1 (And.intro y2 y3)); clear y1 y2 y3; replace H := (H.pick (A := pA X3) pk).call hb; clear hb; simp only [List.cons_append, List.nil_append] at H))
  go_ret
  exact ⟨rfl, H.nix⟩
 ·have HNO : Hid (∀ (X X2 : Px) (id idy : Nat), (PxOk X ∧ X.S.most = 1048576 ∧ IdIs X.S id (text.map Tr.leaf) ∧ X.S.list.length ≤ 2 * text.length) → (X.Ext X2 ∧ PxOk X2 ∧ IdIs X2.S idy (oth.map Tr.leaf) ∧ X2.S.list.length ≤ X.S.list.length + 2 * oth.length) → ∀ w, ((pA X2).sep deA).ho w → Calls Tryz.prog 17 #[.pointer (some ⟨X.p, 0, none⟩), .int .i64 id, .int .i64 r1, .int .i64 idy] w (PPost X2 (.tuple #[.int .i64 0, EV 1]) (pA X2).fp w)) := Lib.hid fun X X2 id idy q0 q1 w h => by
   have := Insert_no (X := X2) q1.2.1 (q0.2.2.1.le q0.1.ok q1.1.le) q1.2.2.1 (a9 := r1) (by rw [List.length_map, hn]; exact hin) w h
   rw [q1.1.p] at this
   exact this
  have HEI : Hid (∀ w, Calls Tryz.prog 12 #[EV 1, .int .i64 (1 : Int)] w fun e w' => e = .returned (.bool true) ∧ w' = w) := Lib.hid fun w => is_ev 1 1 (by decide) true (by decide) w
  rw [hn, hno]
  have HK : Ks w [] [deA, poolA P0] := Ks.two hde hp0
  have H := St.nil w []
  have HB := Lib.hid (And.intro hlen (And.intro hlo (And.intro hn (show ([] : List Nat).length + oth.length = no by simpa using hno))))
  have HRO : Hid (RowIn P0 encT 1 (.slice ao no co) oth) := Lib.hid (by have := hu0.row; rwa [hno] at this)
  clear ht0 hu0 ht hr0 hro hn hno hc hco hb hbo hp0 hde hlen hlo
  rcases Int.lt_or_le r1 0 with h8 | h8
  ·have d5 : decide (r1 < 0) = true := by simp; omega
   clear hin
   go_enter Tryz.func5, Tryz.ntmps5
   go_wp2_with (first | refine sL ?_ | (refine sS ?_; clear H; intros; rename_i H) | (go_at_call 8; with_reducible refine Calls.mono (HPA.out _ (H.known HK (A := deA) pk) (H.known HK (A := poolA P0) pk)) ?_; rintro e9 wc ⟨X, id, rfl, y1, y2, y3, y4, hb⟩; have HX := Lib.hid (And.intro y1 (And.intro y2 (And.intro y3 y4))); clear y1 y2 y3 y4; replace H := H.call0 hb; clear hb; simp only [List.cons_append, List.nil_append] at H) | ((with_reducible refine isSlice ?_); refine AtSlice.zero encT H rfl rfl rfl rfl encT_len ?_; clear H; intro b9 _ H; simp only [Act.put, puA, puB, puC]) | ((with_reducible refine isAppend ?_); refine AtAppend.poolE (enc := encT) (P := P0) (xs := ([] : List Nat)) (ys := oth) (n3 := no) H rfl rfl rfl rfl rfl (by decide) (by decide) rfl pk rfl HRO.out (H.known HK pk) encT_len encT_one' (by have := HB.out.2.1; simp only [List.length_nil]; omega) HB.out.2.2.2 ?_; clear H; intro ad9 cp9 _ H; simp only [Act.put, puA, puB, puC]))
   (try simp only [List.nil_append] at H)
   obtain ⟨P2, hr2, H2⟩ := St.to_pool (H.pick (A := rowsA encT 5 1 (.slice ad9 no cp9) oth) pk) encT_len
   clear H
   have H := H2
   clear H2
   have HOFX := Lib.hid (HOF.out X id P2 _ HX.out hr2)
   clear hr2
   go_at_call 16; with_reducible refine Calls.mono (HOFX.out _ (H.sepK (A := pA X) HK pk pk) (H.sepO (A := pA X) (B := poolA P2) pk pk)) ?_; rintro e9 wc ⟨X2, idy, rfl, y1, y2, y3, y4, hb⟩; have HY := Lib.hid (And.intro y1 (And.intro y2 (And.intro y3 y4))); clear y1 y2 y3 y4; replace H := (H.pick (A := pA X) pk).call hb; clear hb; simp only [List.cons_append, List.nil_append] at H
   go_wp2_with (first | refine sL ?_ | (refine sS ?_; clear H; intros; rename_i H) | (go_at_call 9; (first | (with_reducible refine Calls.mono (HO1.out _) ?_)); rintro e9 wc ⟨rfl, rfl⟩) | (go_at_call 17; with_reducible refine Calls.mono (HNO.out X X2 id idy HX.out HY.out _ (H.sepK (A := pA X2) HK pk pk)) ?_; rintro e9 wc ⟨X3, y1, y2, y3, rfl, hb⟩; have HZ := Lib.hid (And.intro y1 (And.intro y2 y3)); clear y1 y2 y3; replace H := (H.pick (A := pA X2) pk).call hb; clear hb; simp only [List.cons_append, List.nil_append] at H) | (go_at_call 12; with_reducible refine same (HEI.out _) ?_))
   go_ret
   exact ⟨rfl, H.nix⟩
  ·have h9 : (n : Int) < r1 := by omega
   have d5 : decide (r1 < 0) = false := by simp; omega
   have d6 : decide ((n : Int) < r1) = true := by simp; omega
   clear hin
   go_enter Tryz.func5, Tryz.ntmps5
   go_wp2_with (first | refine sL ?_ | (refine sS ?_; clear H; intros; rename_i H) | (go_at_call 8; with_reducible refine Calls.mono (HPA.out _ (H.known HK (A := deA) pk) (H.known HK (A := poolA P0) pk)) ?_; rintro e9 wc ⟨X, id, rfl, y1, y2, y3, y4, hb⟩; have HX := Lib.hid (And.intro y1 (And.intro y2 (And.intro y3 y4))); clear y1 y2 y3 y4; replace H := H.call0 hb; clear hb; simp only [List.cons_append, List.nil_append] at H) | ((with_reducible refine isSlice ?_); refine AtSlice.zero encT H rfl rfl rfl rfl encT_len ?_; clear H; intro b9 _ H; simp only [Act.put, puA, puB, puC]) | ((with_reducible refine isAppend ?_); refine AtAppend.poolE (enc := encT) (P := P0) (xs := ([] : List Nat)) (ys := oth) (n3 := no) H rfl rfl rfl rfl rfl (by decide) (by decide) rfl pk rfl HRO.out (H.known HK pk) encT_len encT_one' (by have := HB.out.2.1; simp only [List.length_nil]; omega) HB.out.2.2.2 ?_; clear H; intro ad9 cp9 _ H; simp only [Act.put, puA, puB, puC]))
   (try simp only [List.nil_append] at H)
   obtain ⟨P2, hr2, H2⟩ := St.to_pool (H.pick (A := rowsA encT 5 1 (.slice ad9 no cp9) oth) pk) encT_len
   clear H
   have H := H2
   clear H2
   have HOFX := Lib.hid (HOF.out X id P2 _ HX.out hr2)
   clear hr2
   go_at_call 16; with_reducible refine Calls.mono (HOFX.out _ (H.sepK (A := pA X) HK pk pk) (H.sepO (A := pA X) (B := poolA P2) pk pk)) ?_; rintro e9 wc ⟨X2, idy, rfl, y1, y2, y3, y4, hb⟩; have HY := Lib.hid (And.intro y1 (And.intro y2 (And.intro y3 y4))); clear y1 y2 y3 y4; replace H := (H.pick (A := pA X) pk).call hb; clear hb; simp only [List.cons_append, List.nil_append] at H
   go_wp2_with (first | refine sL ?_ | (refine sS ?_; clear H; intros; rename_i H) | (go_at_call 9; (first | (with_reducible refine Calls.mono (HO1.out _) ?_)); rintro e9 wc ⟨rfl, rfl⟩) | (go_at_call 17; with_reducible refine Calls.mono (HNO.out X X2 id idy HX.out HY.out _ (H.sepK (A := pA X2) HK pk pk)) ?_; rintro e9 wc ⟨X3, y1, y2, y3, rfl, hb⟩; have HZ := Lib.hid (And.intro y1 (And.intro y2 y3)); clear y1 y2 y3; replace H := (H.pick (A := pA X2) pk).call hb; clear hb; simp only [List.cons_append, List.nil_append] at H) | (go_at_call 12; with_reducible refine same (HEI.out _) ?_))
   go_ret
   exact ⟨rfl, H.nix⟩
end
section
open Go.ChangeShapes Go.WideShapes Go.ChangeAt Go.RowKit Go.Deep
def fits64 (z : Int) : Prop := -9223372036854775808 ≤ z ∧ z ≤ 9223372036854775807
theorem ownK : ownKnob Tryz.prog.godebug = none := by kernel_rfl
theorem i64_wf {x : Int} (h : (Lit.int .i64 x).wf = true) : fits64 x := by
 simp [Lit.wf, IntKind.min, IntKind.max, IntKind.signed, IntKind.bits] at h
 unfold fits64
 omega
theorem u8_wf {x : Int} (h : (Lit.int .u8 x).wf = true) : ∃ n : Nat, x = (n : Int) ∧ n < 256 := by
 simp [Lit.wf, IntKind.min, IntKind.max, IntKind.signed, IntKind.bits] at h
 exact ⟨x.toNat, by omega, by omega⟩
section
variable {H : Type} {enc : TypeId × Value → H} {w : World} {base : Nat} {spare : Nat → Bool} {held : Bool}
theorem open_row {α : Type} [Inhabited α] {ec : α → List Value} {k : Nat} (hk : ∀ x, (ec x).length = k) (hk0 : 0 < k) {t e : TypeId} (ht : Tryz.prog.underlying t = some (.slice e)) (hc : Tryz.prog.cellsOf e = k) (Ok : α → Prop)
  (el : ∀ n cs y, cs.length = k → DataW.trod enc Tryz.prog w base spare held n e cs = some y → ∃ x, cs = ec x ∧ Ok x) {fuel : Nat} {cs : List Value} {x : DataW H × List MemPlace} (h : DataW.trod enc Tryz.prog w base spare held fuel t cs = some x) :
  ∃ (v : Value) (xs : List α) (P : PoolT), cs = [v] ∧ RowIn P ec k v xs ∧ (poolA P).ho w ∧ (∀ x ∈ xs, Ok x) ∧ ∃ ad c, v = .slice ad xs.length c ∧ xs.length ≤ c := by
 rcases open_slice ht h with ⟨hcs, _⟩ | ⟨a, len, cap, m, n, D, Pl, hcs, _, hl, hm, hmm, _, hx⟩
 ·exact ⟨_, [], [], hcs, RowIn.nil 0, poolA_nil w, by simp, _, _, rfl, Nat.le_refl _⟩
 ·have hml : len ≤ m := by rw [hmm]; split <;> omega
  rw [hc] at hx
  by_cases h0 : len = 0
  ·subst h0
   exact ⟨_, [], [], hcs, ⟨some a, cap, rfl, by simp, fun h => by simp at h⟩, poolA_nil w, by simp, _, _, rfl, Nat.zero_le _⟩
  obtain ⟨b, o, spot⟩ := a
  have key : ∀ i, i < len → ∃ x : α, w.cells? base ((⟨b, o, spot⟩ : Addr).add (i * k)) k = some (ec x) ∧ Ok x := fun i hi => by
   obtain ⟨cs', h1, h2⟩ := hx i (by omega)
   obtain ⟨x, rfl, hok⟩ := el _ _ _ (World.cells?_some h1).2.1 h2
   exact ⟨x, h1, hok⟩
  obtain ⟨f, hf2⟩ := choose_lt (α := α) key
  have hcell : ∀ i, i < len → ∀ j u, (ec (f i))[j]? = some u → w.cell? (((⟨b, o, spot⟩ : Addr).add (i * k)).add j) = some u := fun i hi j u hj => by
   have hj4 : j < k := by have := (List.getElem?_eq_some_iff.1 hj).1; rwa [hk] at this
   have := (World.cells?_some (hf2 i hi).1).2.2 j hj4
   rw [this, hj]
  have hl4 : 0 < (ec (f 0)).length := by rw [hk]; omega
  have hspot : spot = none := by
   have := World.cell?_spot (hcell 0 (by omega) 0 _ (List.getElem?_eq_getElem hl4))
   simpa [Addr.add] using this
  subst hspot
  have hadd : ∀ i j, ((⟨b, o, none⟩ : Addr).add (i * k)).add j = ⟨b, o + (i * k + j), none⟩ := fun i j => by rw [Addr.add_mid, Addr.add_mid]; congr 1; omega
  have hblk : b < w.heap.size := by
   have := block_lt_of_cell (hcell 0 (by omega) 0 _ (List.getElem?_eq_getElem hl4))
   rw [hadd] at this
   exact this
  unfold maxLen at hm
  have hlen : ((List.range len).map f).length = len := by simp
  refine ⟨_, (List.range len).map f, [(b, o, flatG ec ((List.range len).map f))], hcs, ⟨some ⟨b, o, none⟩, cap, by rw [hlen], by rw [hlen]; unfold maxLen; omega, fun _ => ⟨b, o, rfl, by simp⟩⟩, ?_, ?_, _, cap, by rw [hlen], by rw [hlen]; exact hl⟩
  ·rw [poolA_ho]
   intro y hy
   simp only [List.mem_singleton] at hy
   subst hy
   refine ⟨hblk, fun jj u hj => ?_⟩
   have hjl := getElem_len hj
   rw [flatG_len ec k hk, hlen] at hjl
   have hi : jj / k < len := by rw [Nat.div_lt_iff_lt_mul hk0]; exact hjl
   have hjk : jj % k < k := Nat.mod_lt _ hk0
   have hget : ((List.range len).map f)[jj / k]? = some (f (jj / k)) := by rw [List.getElem?_map, List.getElem?_range hi]; rfl
   have hfl := flatG_get ec k hk _ (jj / k) _ hget (jj % k) hjk
   have hdm : jj / k * k + jj % k = jj := by have := Nat.div_add_mod jj k; rw [Nat.mul_comm] at this; exact this
   rw [hdm, hj] at hfl
   have := hcell (jj / k) hi (jj % k) u hfl.symm
   rw [hadd, hdm] at this
   exact this
  ·intro y hy
   obtain ⟨i, hi, rfl⟩ := List.mem_map.1 hy
   exact (hf2 i (List.mem_range.1 hi)).2
theorem arg_text {r : Reach} {b0 : Nat} {v : Value} {d : DataW H} {p : List MemPlace} (hv : Value.okWide Tryz.prog w r b0 22 v) (h : DataW.Trod enc Tryz.prog w base spare held 22 v d p) :
  ∃ (xs : List Nat) (P : PoolT), TxtIn P v xs ∧ (∀ x ∈ xs, x < 256) ∧ (poolA P).ho w := by
 obtain ⟨a, n, c, rfl⟩ := okWide_slice Tryz.underlying22 hv
 obtain ⟨fuel, hf⟩ := h
 have c5 : Tryz.prog.cellsOf 5 = 1 := by kernel_rfl
 obtain ⟨v2, xs, P, e, h1, h2, h3, ad, c2, h4, h5⟩ := open_row (ec := encT) encT_len (by omega) Tryz.underlying22 c5 (fun x => x < 256) (fun n cs y hl hy => by
  obtain ⟨z, rfl, _, hz⟩ := DataW.trod_int Tryz.underlying5 hy
  obtain ⟨x, rfl, hx⟩ := u8_wf hz
  exact ⟨x, rfl, hx⟩) hf
 simp only [Value.cells, List.cons.injEq, and_true] at e
 first | subst e | (have e := (List.cons.inj e).1; subst e)
 exact ⟨xs, P, ⟨ad, c2, h4, h5, h1⟩, h3, h2⟩
theorem arg_int {r : Reach} {b0 : Nat} {v : Value} {d : DataW H} {p : List MemPlace} (hv : Value.okWide Tryz.prog w r b0 3 v) (h : DataW.Trod enc Tryz.prog w base spare held 3 v d p) : ∃ z, v = .int .i64 z ∧ fits64 z := by
 obtain ⟨z, rfl, h1, h2, h3⟩ := open_int Tryz.underlying3 hv h
 exact ⟨z, rfl, i64_wf h3⟩
end
theorem gTab : Tryz.prog.globalNamed "math/bits.deBruijn64tab" = some 0 := by kernel_rfl
theorem tTab : (Tryz.prog.globals[0]?).map (·.type) = some 187 := by kernel_rfl
theorem tab_is {H : Type} : (Rows.laid_math_bits_deBruijn64tab : DataW H) = .agg (Lib.deBruijn64tab.map fun (n : Nat) => .lit (.int .u8 n)) := rfl
theorem tab_of {W : World} (h : laidMetH Tryz.prog [("math/bits.deBruijn64tab", Rows.laid_math_bits_deBruijn64tab)] W) : deA.ho W := by
  rw [deA_ho]
  rw [MakeChecks.laidMetH_plain _ _ _ (by kernel_rfl)] at h
  obtain ⟨ps, ⟨g0, t0, cs0, f0, p0, q0, hg0, ht0, hv0, hd0, _, _⟩, _, _⟩ := h
  obtain rfl := Option.some.inj (gTab.symm.trans hg0)
  obtain rfl := Option.some.inj (tTab.symm.trans ht0)
  obtain ⟨xs, m1, hfu, hx1, hlen, hn3, hel⟩ := DataW.trod_array Tryz.underlying187 hd0
  have c5 : Tryz.prog.cellsOf 5 = 1 := by kernel_rfl
  have key : ∀ j, j < 64 → W.cell? ⟨0, j, none⟩ = some (.int .u8 (Lib.deBruijn64tab.getD j 0 : Nat)) := fun j hj => by
    have h0 := hel j hj
    rw [c5] at h0
    obtain ⟨y, hy⟩ : ∃ y, xs[j]? = some y := ⟨xs[j]'(by omega), List.getElem?_eq_getElem _⟩
    rw [hy] at h0
    obtain ⟨k, e1, e2, _⟩ := DataW.trod_int Tryz.underlying5 h0
    rw [tab_is] at hx1
    simp only [Prod.mk.injEq, DataW.agg.injEq] at hx1
    have e3 := congrArg (fun l : List (DataW Unit) => l[j]?) hx1.1
    simp only [List.getElem?_map, hy, Option.map_some] at e3
    have hl : j < Lib.deBruijn64tab.length := by have : Lib.deBruijn64tab.length = 64 := by decide
                                                 omega
    rw [List.getElem?_eq_getElem hl, Option.map_some] at e3
    have hk : k = (Lib.deBruijn64tab[j] : Nat) := by
      have := Option.some.inj e3
      rw [e2] at this
      simp at this
      exact this.symm
    have hcl := World.var?_cell hg0 hv0 j
    have e4 : cs0.toList[j]? = some (.int .u8 k) := by
      have := congrArg List.head? e1
      rw [Nat.mul_one, List.head?_take, if_neg (by omega), List.head?_drop] at this
      simpa using this
    rw [hcl, ← Array.getElem?_toList, e4, hk]
    simp [List.getD, hl]
  have h64 : Lib.deBruijn64tab.length = 64 := by decide
  exact ⟨fun j hj => key j (by omega), by have := block_lt_of_cell (key 0 (by omega)); exact this⟩
theorem door_met (os : Os) (args : Array Value) : laidMetH Tryz.prog [("math/bits.deBruijn64tab", Rows.laid_math_bits_deBruijn64tab)] ((World.doorLaid Tryz.prog 400 os).forCall (fun _ _ => 0) ⟨#[], args, []⟩).memory :=
 laidMetH_of_parts3 (fuel := 80) (laidMet_of_run' 80 (by kernel_rfl) (by kernel_rfl)) (by kernel_rfl) (by kernel_rfl)
end
end Go.Proofs.YtnnbeldbccejpaaGreatDoor
section
namespace Go.Proofs.YtnnbeldbccejpaaGreatDoor.lawExcerptInserts
open Go.ChangeShapes Go.WideShapes Go.ChangeAt Go.RowKit
open Go.Proofs.YtnnbeldbccejpaaGreatDoor
set_option linter.unusedVariables false
set_option maxRecDepth 100000 in
theorem lifted (os : Os) (started : os.Started) (H : Type) (enc : TypeId × Value → H) :
  ReturnsInHanded {} Tryz.checked os 5 .any (fun w args => (Rows.excerptInsertsSpec.pre enc Tryz.prog Tryz.f5 [] false w args ∧ laidMetH Tryz.prog [("math/bits.deBruijn64tab", Rows.laid_math_bits_deBruijn64tab)] w) ∧ sizedMet enc Tryz.prog Tryz.f5 (OpenSpec.ofChange Rows.excerptInsertsSpec) false w args)
   (Rows.excerptInsertsSpec.post enc Tryz.prog Tryz.f5 false true false false) := by
 refine returnsInHanded_of_change_and (C := Tryz.checked) (X := fun w _ => laidMetH Tryz.prog [("math/bits.deBruijn64tab", Rows.laid_math_bits_deBruijn64tab)] w) (fun _ _ _ hh h => h.of_heap hh) ownK started (by kernel_rfl) Tryz.func5
  (ChangeSpec.witness_shaped (enc := enc) (C := Tryz.checked) (os := os) (X := fun w _ => laidMetH Tryz.prog [("math/bits.deBruijn64tab", Rows.laid_math_bits_deBruijn64tab)] w) false (World.doorLaid Tryz.prog 400 os) #[.slice none 0 0, .slice none 0 0, .int .i64 0] 8 rfl (World.shaped_of_RefB (by kernel_rfl) (by kernel_rfl)) (by kernel_rfl) (by kernel_rfl) (by kernel_rfl) (door_met os _)) ?_
 intro W base args ds gs before hval0 hW _ _ hL _
 have hval : ∀ (j : Nat) t v, Tryz.f5.params[j]? = some t → args[j]? = some v → Value.okWide Tryz.prog W .any base t v := hval0
 have hW' := hW
 obtain ⟨p, q, hA0, hV, rfl, hfz, hnd⟩ := hW
 have hA : DataW.TrodAll enc Tryz.prog W 0 (fun _ => true) true Tryz.f5.params.toList args.toList ds p := hA0
 rw [Tryz.params5] at hA hval
 obtain ⟨v0, vs0, d0, ds0, p0, q0, hargs, rfl, rfl, h0, r0⟩ := trodAll_cons hA
 obtain ⟨v1, vs1, d1, ds1, p1, q1, rfl, rfl, rfl, h1, r1⟩ := trodAll_cons r0
 obtain ⟨v2, vs2, d2, ds2, p2, q2, rfl, rfl, rfl, h2, r2⟩ := trodAll_cons r1
 obtain ⟨rfl, rfl, rfl⟩ := trodAll_nil r2
 obtain rfl : args = #[v0, v1, v2] := by cases args; simp_all
 obtain ⟨rfl, rfl⟩ := trodVars_none hV
 have k0 := h0
 have lt0 : ∀ x ∈ p0, x.block < W.heap.size := by obtain ⟨m, hm⟩ := k0; exact DataW.trod_lt m _ _ _ hm
 have k1 := h1
 have lt1 : ∀ x ∈ p1, x.block < W.heap.size := by obtain ⟨m, hm⟩ := k1; exact DataW.trod_lt m _ _ _ hm
 have k2 := h2
 have lt2 : ∀ x ∈ p2, x.block < W.heap.size := by obtain ⟨m, hm⟩ := k2; exact DataW.trod_lt m _ _ _ hm
 obtain ⟨x0, P0, t0, b0, w0⟩ := arg_text (hval 0 22 v0 rfl rfl) h0
 obtain ⟨x1, P1, t1, b1, w1⟩ := arg_text (hval 1 22 v1 rfl rfl) h1
 obtain ⟨z2, rfl, _⟩ := arg_int (hval 2 3 v2 rfl rfl) h2
 have hde := tab_of hL
 clear hA0 hval0
 refine (inserts_c (t0.mono fun x hx => List.mem_append.2 (.inl hx)) (t1.mono fun x hx => List.mem_append.2 (.inr hx)) b0 b1 z2 W hde (poolA_append w0 w1)).mono fun e W' ⟨he, bel⟩ => ?_
 subst he
 exact ⟨_, rfl, _, _, _, [], _, [], hW', trodAll_mk1 (shut_bool Tryz.underlying4 _), (trodAll_cons_mk (Below.trod laidOut_ok (by kernel_rfl) (of_decide_eq_true (by kernel_rfl)) k0 bel.below lt0) (trodAll_cons_mk (Below.trod laidOut_ok (by kernel_rfl) (of_decide_eq_true (by kernel_rfl)) k1 bel.below lt1) (trodAll_cons_mk (Below.trod laidOut_ok (by kernel_rfl) (of_decide_eq_true (by kernel_rfl)) k2 bel.below lt2) trodAll_mk0))), rfl, bel.below.frame _, fun h => by cases h⟩
theorem over : Rows.excerptInsertsRow.holds Tryz.pinned (OpenSpec.ofChange Rows.excerptInsertsSpec) :=
 OpenClaim.holds_of_wide 5 Tryz.f5 rfl rfl rfl rfl rfl rfl rfl ⟨rfl, rfl, rfl, rfl, rfl⟩ rfl rfl rfl rfl rfl (by kernel_rfl) Tryz.func5 (by kernel_rfl)
  (of_decide_eq_true (by kernel_rfl)) (by unfold Func.isWrapper; first | (rw [if_pos (by decide +kernel)]; kernel_rfl) | (rw [if_neg (by decide +kernel)]; exact ⟨rfl, rfl⟩))
  (fun os started H enc _ => lifted os started H enc)
theorem proved : Rows.ExcerptInsertsCardSaid :=
 Claim7.holds_tied_plain_at .later [] [.data] true (true, "8dc37b1e0219d412a8dd9a2919d06126e03b70f6032098edfd9f6ea9ebf7f350") true
  over (fun _ h => by cases h) (by kernel_rfl) (fun _ h => by cases h) excerptInserts_row_tie rfl ⟨rfl, rfl⟩ (by kernel_rfl) rfl
  (fun f fn hf hfn => by
   obtain rfl : f = 5 := Option.some.inj ((show Tryz.prog.funcNamed "evergreen/evergreenlaw24.ExcerptInserts" = some 5 by kernel_rfl).symm.trans hf) |>.symm
   obtain rfl : fn = Tryz.f5 := (Option.some.inj (Tryz.func5.symm.trans hfn)).symm
   exact ⟨by kernel_rfl, fun j t ht => by
    rw [Tryz.params5] at ht
    have hm : t ∈ [22, 22, 3] := by simpa using Array.mem_of_getElem? ht
    have hall : ([22, 22, 3].all fun u => !Tryz.prog.wantsStandIn u) = true := by kernel_rfl
    exact (show Tryz.prog.wantsStandIn t = false by simpa using List.all_eq_true.1 hall t hm)⟩)
  (by kernel_rfl)
#print axioms proved
end Go.Proofs.YtnnbeldbccejpaaGreatDoor.lawExcerptInserts
end
namespace Go.Proofs.YtnnbeldbccejpaaGreatDoor
end Go.Proofs.YtnnbeldbccejpaaGreatDoor
