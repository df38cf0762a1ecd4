/-
  ExcerptErrors: the given tied card: for every input the law returns true and leaves its arguments; the library's table is tied to the program's text by the given tie. No condition beyond the statement's own.
-/
import Derived.Test.YtnnbeldbccejpaaGreatDoorBa8
import Derived.ChangeOld
import Derived.Deep.Slices
import Derived.LaidMore
import Derived.Laws.Rows
import Derived.OpenShut
import Derived.ProofKit
import Derived.SevenTiedAt
import Derived.ShutString
import Derived.Stop.Joined
import Derived.Test.YtnnbeldbccejpaaGreatDoorCards
import Derived.Test.YtnnbeldbccejpaaGreatDoorTie
set_option linter.unusedSimpArgs false
set_option linter.unusedVariables false
set_option maxRecDepth 100000
set_option maxHeartbeats 80000000
namespace Go.Proofs.YtnnbeldbccejpaaGreatDoor
section
open Go.RowKit Go.Maps
attribute [local go_sem] InGr
end
section
open Go.RowKit Go.Maps
attribute [local go_sem] InGr
theorem St.dropHead {w0 w : World} {M : List Nat} {A : As} {L : List As} (h : St w0 M (A :: L) w) : St w0 M L w := ⟨h.os, h.tape, h.output, h.size, h.keep, fun B hB => h.ho B (List.mem_cons_of_mem _ hB), fun B hB => h.own B (List.mem_cons_of_mem _ hB), (List.pairwise_cons.1 h.dis).2⟩
theorem Section_err {pv : Value} {x : Int} {a b : Int} {k : Nat} {w : World} {Q : World → Prop} (hc : Calls Tryz.prog 30 #[pv, .int .i64 x] w fun e w' => e = .returned (.tuple #[.int .i64 0, EV k]) ∧ Q w') :
  Calls Tryz.prog 10 #[pv, .int .i64 x, .int .i64 a, .int .i64 b] w fun e w' => e = .returned (.tuple #[.int .i64 0, EV k]) ∧ Q w' := by
 simp only [EV] at hc
 have HC := Lib.hid hc
 clear hc
 go_enter Tryz.func10, Tryz.ntmps10
 go_wp2_with (first | refine sL ?_ | (refine sS ?_; clear H; intros; rename_i H) | (go_at_call 30; with_reducible refine Calls.mono HC.out ?_; rintro e wc ⟨rfl, hq⟩))
 go_ret2
 exact ⟨rfl, hq⟩
theorem Without_err {pv : Value} {x : Int} {a b : Int} {k : Nat} {w : World} {Q : World → Prop} (hc : Calls Tryz.prog 30 #[pv, .int .i64 x] w fun e w' => e = .returned (.tuple #[.int .i64 0, EV k]) ∧ Q w') :
  Calls Tryz.prog 14 #[pv, .int .i64 x, .int .i64 a, .int .i64 b] w fun e w' => e = .returned (.tuple #[.int .i64 0, EV k]) ∧ Q w' := by
 simp only [EV] at hc
 have HC := Lib.hid hc
 clear hc
 go_enter Tryz.func14, Tryz.ntmps14
 go_wp2_with (first | refine sL ?_ | (refine sS ?_; clear H; intros; rename_i H) | (go_at_call 30; with_reducible refine Calls.mono HC.out ?_; rintro e wc ⟨rfl, hq⟩))
 go_ret2
 exact ⟨rfl, hq⟩
theorem Split_err {pv : Value} {x : Int} {a : Int} {k : Nat} {w : World} {Q : World → Prop} (hc : Calls Tryz.prog 30 #[pv, .int .i64 x] w fun e w' => e = .returned (.tuple #[.int .i64 0, EV k]) ∧ Q w') :
  Calls Tryz.prog 53 #[pv, .int .i64 x, .int .i64 a] w fun e w' => e = .returned (.tuple #[.int .i64 0, .int .i64 0, EV k]) ∧ Q w' := by
 simp only [EV] at hc
 have HC := Lib.hid hc
 clear hc
 go_enter Tryz.func53, Tryz.ntmps53
 go_wp2_with (first | refine sL ?_ | (refine sS ?_; clear H; intros; rename_i H) | (go_at_call 30; with_reducible refine Calls.mono HC.out ?_; rintro e wc ⟨rfl, hq⟩))
 go_ret3
 exact ⟨rfl, hq⟩
theorem Cut_err {pv : Value} {x : Int} {av : Value} {k : Nat} {w : World} {Q : World → Prop} (hc : Calls Tryz.prog 30 #[pv, .int .i64 x] w fun e w' => e = .returned (.tuple #[.int .i64 0, EV k]) ∧ Q w') :
  Calls Tryz.prog 20 #[pv, .int .i64 x, av] w fun e w' => e = .returned (.tuple #[.slice none 0 0, EV k]) ∧ Q w' := by
 simp only [EV] at hc
 have HC := Lib.hid hc
 clear hc
 go_enter Tryz.func20, Tryz.ntmps20
 go_wp2_with (first | refine sL ?_ | (refine sS ?_; clear H; intros; rename_i H) | (go_at_call 30; with_reducible refine Calls.mono HC.out ?_; rintro e wc ⟨rfl, hq⟩))
 go_ret2
 exact ⟨rfl, hq⟩
theorem Insert_err {pv : Value} {x : Int} {a y : Int} {k : Nat} {w : World} {Q : World → Prop} (hc : Calls Tryz.prog 30 #[pv, .int .i64 x] w fun e w' => e = .returned (.tuple #[.int .i64 0, EV k]) ∧ Q w') :
  Calls Tryz.prog 17 #[pv, .int .i64 x, .int .i64 a, .int .i64 y] w fun e w' => e = .returned (.tuple #[.int .i64 0, EV k]) ∧ Q w' := by
 simp only [EV] at hc
 have HC := Lib.hid hc
 clear hc
 go_enter Tryz.func17, Tryz.ntmps17
 go_wp2_with (first | refine sL ?_ | (refine sS ?_; clear H; intros; rename_i H) | (go_at_call 30; with_reducible refine Calls.mono HC.out ?_; rintro e wc ⟨rfl, hq⟩))
 go_ret2
 exact ⟨rfl, hq⟩
theorem Insert_err2 {pv : Value} {x y a : Int} {k n : Nat} {w : World} {Q1 Q : World → Prop} (hc : Calls Tryz.prog 30 #[pv, .int .i64 x] w fun e w' => e = .returned (.tuple #[.int .i64 (n : Nat), .nilIface]) ∧ Q1 w') (hd : ∀ w, Q1 w → Calls Tryz.prog 30 #[pv, .int .i64 y] w fun e w' => e = .returned (.tuple #[.int .i64 0, EV k]) ∧ Q w') :
  Calls Tryz.prog 17 #[pv, .int .i64 x, .int .i64 a, .int .i64 y] w fun e w' => e = .returned (.tuple #[.int .i64 0, EV k]) ∧ Q w' := by
 simp only [EV] at hd
 have HC := Lib.hid hc
 have HD := Lib.hid hd
 clear hc hd
 go_enter Tryz.func17, Tryz.ntmps17
 go_wp2_with (first | refine sL ?_ | (refine sS ?_; clear H; intros; rename_i H) | (go_at_call 30; first | (with_reducible refine Calls.mono HC.out ?_; rintro e wc ⟨rfl, hq⟩; have HQ := Lib.hid hq; clear hq) | (with_reducible refine Calls.mono (HD.out _ HQ.out) ?_; rintro e wc ⟨rfl, hq⟩)))
 go_ret2
 exact ⟨rfl, hq⟩
theorem Insert_long {pv : Value} {x y : Int} {a n m : Nat} {w : World} {Q1 Q : World → Prop} (hc : Calls Tryz.prog 30 #[pv, .int .i64 x] w fun e w' => e = .returned (.tuple #[.int .i64 (n : Nat), .nilIface]) ∧ Q1 w') (hd : ∀ w, Q1 w → Calls Tryz.prog 30 #[pv, .int .i64 y] w fun e w' => e = .returned (.tuple #[.int .i64 (m : Nat), .nilIface]) ∧ Q w') (ha : a ≤ n) (hn : n ≤ 1152921504606846976) (hm : m ≤ 1152921504606846976) (hl : 1152921504606846976 < n + m) :
  Calls Tryz.prog 17 #[pv, .int .i64 x, .int .i64 a, .int .i64 y] w fun e w' => e = .returned (.tuple #[.int .i64 0, EV 2]) ∧ Q w' := by
 have HC := Lib.hid hc
 have HD := Lib.hid hd
 have HAD : Hid (∀ w, Calls Tryz.prog 39 #[.int .i64 (n : Nat), .int .i64 (m : Nat)] w fun e w' => e = .returned (.tuple #[.int .i64 0, .iface 34 (.int .i64 2)]) ∧ w' = w) := Lib.hid fun w => add_long n m w hn hm hl
 have d1 : decide ((a : Int) < 0) = false := by simp
 have d2 : decide ((n : Int) < (a : Int)) = false := by simp; omega
 have d2n : decide (n < a) = false := by simp; omega
 clear hc hd
 go_enter Tryz.func17, Tryz.ntmps17
 go_wp2_with (first | refine sL ?_ | (refine sS ?_; clear H; intros; rename_i H) | (go_at_call 30; first | (with_reducible refine Calls.mono HC.out ?_; rintro e wc ⟨rfl, hq⟩; have HQ := Lib.hid hq; clear hq) | (with_reducible refine Calls.mono (HD.out _ HQ.out) ?_; rintro e wc ⟨rfl, hq⟩)) | (go_at_call 39; with_reducible refine same (HAD.out _) ?_))
 go_ret2
 exact ⟨rfl, hq⟩
theorem check_form {X : Px} {x : Nat} {t : Tr} (hX : PxOk X) (hd : Den X.S x t) (hl : t.lev = none) (w : World) (h : PH X w) :
  Calls Tryz.prog 30 #[.pointer (some ⟨X.p, 0, none⟩), .int .i64 x] w (PPost X (.tuple #[.int .i64 0, EV 4]) (pA X).fp w) := by
 have h : ((pA X).sep deA).ho w := h
 rw [sep_ho] at h
 obtain ⟨k1, k2, hdd⟩ := h
 have H := St.one k1
 have HK : Ks w (pA X).fp [deA] := ⟨by simpa using k2, by simpa using fun b hb hm => hdd b hm hb⟩
 generalize (pA X).fp = N at *
 clear k1 k2 hdd
 obtain ⟨i, en, hi, hx, _⟩ := den_get hd
 have HW : Hid (∀ w, (pA X).ho w → Calls Tryz.prog 56 #[.pointer (some ⟨X.s, 0, none⟩), .int .i64 x] w fun e w' => e = .returned (.tuple #[.agg #[.int .i64 (en.w.len : Nat), .int .i64 en.w.lines, .int .i64 en.w.head, .int .i64 en.w.tail, .int .u64 en.w.val, .int .u64 en.w.scale], .nilIface]) ∧ St w [] [] w') := Lib.hid fun w h => by
  have := weight_c (i := i + 1) (S := X.S) (x := en) hx w (pA_sto h)
  rw [hi]
  exact this
 have HS : Hid (∀ w, (pA X).ho w → Calls Tryz.prog 21 #[.pointer (some ⟨X.p, 0, none⟩)] w fun e w' => e = .returned (.pointer (some ⟨X.s, 0, none⟩)) ∧ w' = w) := Lib.hid fun w h => store_p w h
 have HT : Hid (∀ w, ((pA X).sep deA).ho w → Calls Tryz.prog 46 #[.pointer (some ⟨X.p, 0, none⟩), .int .i64 x] w (PPost X (lvlV none) (pA X).fp w)) := Lib.hid fun w h => by have := top_p hX hd w h; rwa [hl] at this
 clear hX hd hl hi hx
 simp only [lvlV] at HT
 go_enter Tryz.func30, Tryz.ntmps30
 go_wp2_with (first | refine sL ?_ | (refine sS ?_; clear H; intros; rename_i H) | (go_at_call 21; with_reducible refine same (HS.out _ (H.get (A := pA X) pk)) ?_) | (go_at_call 56; with_reducible refine Calls.mono (HW.out _ (H.get (A := pA X) pk)) ?_; rintro e9 wc ⟨rfl, hb⟩; replace H := H.grew hb.below; clear hb) | (go_at_call 46; with_reducible refine Calls.mono (HT.out _ (H.sepK HK pk pk)) ?_; rintro e9 wc ⟨X2, y1, y2, y3, rfl, hb⟩; have HY := Lib.hid (And.intro y1 (And.intro y2 y3)); clear y1 y2 y3; replace H := (H.pick (A := pA X) pk).call hb; clear hb; simp only [List.cons_append, List.nil_append] at H))
 go_ret2
 exact ⟨X2, HY.out.1, HY.out.2.1, HY.out.2.2, rfl, H.picks (.cons (A := pA X2) pk .nil)⟩
theorem check_range {X : Px} {x : Int} (hX : PxOk X) (hx : ¬ (0 ≤ x ∧ x ≤ X.S.list.length)) (w : World) (h : PH X w) :
  Calls Tryz.prog 30 #[.pointer (some ⟨X.p, 0, none⟩), .int .i64 x] w (PPost X (.tuple #[.int .i64 0, EV 1]) (pA X).fp w) := by
 have h : ((pA X).sep deA).ho w := h
 rw [sep_ho] at h
 obtain ⟨k1, k2, hdd⟩ := h
 have H := St.one k1
 have HK : Ks w (pA X).fp [deA] := ⟨by simpa using k2, by simpa using fun b hb hm => hdd b hm hb⟩
 generalize (pA X).fp = N at *
 clear k1 k2 hdd
 have hw9 := fun w (h : (pA X).ho w) => weight_no x hx w (pA_sto h)
 simp only [EV] at hw9
 have HW := Lib.hid hw9
 clear hw9
 have HS : Hid (∀ w, (pA X).ho w → Calls Tryz.prog 21 #[.pointer (some ⟨X.p, 0, none⟩)] w fun e w' => e = .returned (.pointer (some ⟨X.s, 0, none⟩)) ∧ w' = w) := Lib.hid fun w h => store_p w h
 have HX := Lib.hid hX
 clear hX hx
 go_enter Tryz.func30, Tryz.ntmps30
 go_wp2_with (first | refine sL ?_ | (refine sS ?_; clear H; intros; rename_i H) | (go_at_call 21; with_reducible refine same (HS.out _ (H.get (A := pA X) pk)) ?_) | (go_at_call 56; with_reducible refine Calls.mono (HW.out _ (H.get (A := pA X) pk)) ?_; rintro e9 wc ⟨rfl, hb⟩; replace H := H.grew hb.below; clear hb))
 go_ret2
 exact ⟨X, .refl _, HX.out, rfl, rfl, H.picks (.cons (A := pA X) pk .nil)⟩
theorem check_nil {x : Int} (w : World) : Calls Tryz.prog 30 #[.pointer none, .int .i64 x] w fun e w' => e = .returned (.tuple #[.int .i64 0, EV 5]) ∧ w' = w := by
 have H := St.nil w []
 have HN := Lib.hid (fun w => store_none w)
 go_enter Tryz.func30, Tryz.ntmps30
 go_wp2_with (first | refine sL ?_ | (refine sS ?_; clear H; intros; rename_i H) | (go_at_call 21; with_reducible refine same (HN.out _) ?_))
 go_ret2
 exact ⟨rfl, rfl⟩
theorem fails_c {pv : Value} {x a : Int} {k : Nat} (hk : 0 < k) {w0 : World} {M : List Nat} (Inv : List As → Prop) (hc : ∀ L w, Inv L → St w0 M L w → Calls Tryz.prog 30 #[pv, .int .i64 x] w fun e w' => e = .returned (.tuple #[.int .i64 0, EV k]) ∧ ∃ L', Inv L' ∧ St w0 M L' w') (L0 : List As) (hI : Inv L0) (w : World) (H : St w0 M L0 w) :
  Calls Tryz.prog 25 #[pv, .int .i64 x, .int .i64 a, .int .i64 k] w fun e w' => e = .returned (.bool true) ∧ ∃ L', Inv L' ∧ St w0 M L' w' := by
 have H1 : Hid (∀ L w, Inv L → St w0 M L w → Calls Tryz.prog 10 #[pv, .int .i64 x, .int .i64 a, .int .i64 a] w fun e w' => e = .returned (.tuple #[.int .i64 0, EV k]) ∧ ∃ L', Inv L' ∧ St w0 M L' w') := Lib.hid fun L w hi h => Section_err (hc L w hi h)
 have H2 : Hid (∀ L w, Inv L → St w0 M L w → Calls Tryz.prog 53 #[pv, .int .i64 x, .int .i64 a] w fun e w' => e = .returned (.tuple #[.int .i64 0, .int .i64 0, EV k]) ∧ ∃ L', Inv L' ∧ St w0 M L' w') := Lib.hid fun L w hi h => Split_err (hc L w hi h)
 have H3 : Hid (∀ av L w, Inv L → St w0 M L w → Calls Tryz.prog 20 #[pv, .int .i64 x, av] w fun e w' => e = .returned (.tuple #[.slice none 0 0, EV k]) ∧ ∃ L', Inv L' ∧ St w0 M L' w') := Lib.hid fun av L w hi h => Cut_err (hc L w hi h)
 have H4 : Hid (∀ L w, Inv L → St w0 M L w → Calls Tryz.prog 14 #[pv, .int .i64 x, .int .i64 a, .int .i64 a] w fun e w' => e = .returned (.tuple #[.int .i64 0, EV k]) ∧ ∃ L', Inv L' ∧ St w0 M L' w') := Lib.hid fun L w hi h => Without_err (hc L w hi h)
 have H5 : Hid (∀ L w, Inv L → St w0 M L w → Calls Tryz.prog 17 #[pv, .int .i64 x, .int .i64 a, .int .i64 0] w fun e w' => e = .returned (.tuple #[.int .i64 0, EV k]) ∧ ∃ L', Inv L' ∧ St w0 M L' w') := Lib.hid fun L w hi h => Insert_err (hc L w hi h)
 have HEI : Hid (∀ w, Calls Tryz.prog 12 #[EV k, .int .i64 k] w fun e w' => e = .returned (.bool true) ∧ w' = w) := Lib.hid fun w => is_ev k k hk true (by simp) w
 have HI0 := Lib.hid hI
 clear hc hI
 go_enter Tryz.func25, Tryz.ntmps25
 go_wp2_with (first | refine sL ?_ | (refine sS ?_; clear H; intros; rename_i H) | (go_at_call 10; with_reducible refine Calls.mono (H1.out _ _ HI0.out H) ?_; rintro e9 wc ⟨rfl, L1, hi, H⟩; have HI1 := Lib.hid hi; clear hi) | (go_at_call 53; with_reducible refine Calls.mono (H2.out _ _ HI1.out H) ?_; rintro e9 wc ⟨rfl, L2, hi, H⟩; have HI2 := Lib.hid hi; clear hi) | ((with_reducible refine isSlice ?_); refine AtSlice.one H rfl rfl rfl rfl rfl rfl rfl rfl rfl ?_; clear H; intro b _ H; replace H := St.dropHead H; simp only [Act.put, puA, puB, puC]) | (go_at_call 20; with_reducible refine Calls.mono (H3.out _ _ _ HI2.out H) ?_; rintro e9 wc ⟨rfl, L3, hi, H⟩; have HI3 := Lib.hid hi; clear hi) | (go_at_call 14; with_reducible refine Calls.mono (H4.out _ _ HI3.out H) ?_; rintro e9 wc ⟨rfl, L4, hi, H⟩; have HI4 := Lib.hid hi; clear hi) | (go_at_call 17; with_reducible refine Calls.mono (H5.out _ _ HI4.out H) ?_; rintro e9 wc ⟨rfl, L5, hi, H⟩; have HI5 := Lib.hid hi; clear hi) | (go_at_call 12; with_reducible refine same (HEI.out _) ?_))
 go_ret
 exact ⟨rfl, L5, HI5.out, H⟩
end
section
open Go.RowKit Go.Maps
attribute [local go_sem] InGr
theorem leaf_canon (b : Nat) : Canon (.leaf b) := (canon_of (s := [.leaf b]) (m := 0) (fun t ht => by simp at ht; exact ⟨b, ht⟩) rfl).1
theorem apart_leaf {X : Px} {x b : Nat} (hX : PxOk X) (hd : Den X.S x (.leaf b)) (w : World) (h : PH X w) :
  Calls Tryz.prog 51 #[.pointer (some ⟨X.p, 0, none⟩), .int .i64 x] w (PPost X (.bool true) (pA X).fp w) := by
 have h : ((pA X).sep deA).ho w := h
 rw [sep_ho] at h
 obtain ⟨k1, k2, hdd⟩ := h
 have H := St.one k1
 have HK : Ks w (pA X).fp [deA] := ⟨by simpa using k2, by simpa using fun b hb hm => hdd b hm hb⟩
 generalize (pA X).fp = N at *
 clear k1 k2 hdd
 have hid : IdIs X.S x [.leaf b] := .inr ⟨_, hd, leaf_canon b, rfl⟩
 have HSZ : Hid (∀ w, (pA X).ho w → Calls Tryz.prog 48 #[.pointer (some ⟨X.p, 0, none⟩), .int .i64 x] w fun e w' => e = .returned (.int .i64 1) ∧ St w [] [] w') := Lib.hid fun w h => size_any hX hid w h
 have HN1 : Hid (∀ w, ((pA X).sep deA).ho w → Calls Tryz.prog 59 #[.pointer (some ⟨X.p, 0, none⟩), .int .i64 x, .int .i64 1, .bool false] w (NewPost X (.leaf b) false 1 (pA X).fp w)) := Lib.hid fun w h => newEnd_any (bk := false) hX (fun _ => hd) (leaf_canon b).gd (Nat.zero_le _) (Nat.le_refl 1) w h
 have HN2 : Hid (∀ X2 : Px, X.Ext X2 → PxOk X2 → X2.S = X.S → ∀ w, ((pA X2).sep deA).ho w → Calls Tryz.prog 59 #[.pointer (some ⟨X.p, 0, none⟩), .int .i64 x, .int .i64 1, .bool true] w (fun e w' => ∃ (X' : Px) (pv' : Value) (fs' : List Fr) (id' ky' : Nat) (d : EndP), e = .returned (.agg #[.pointer (some ⟨X.p, 0, none⟩), .bool true, pv', .int .i64 id', .int .u64 ky']) ∧ X2.Ext X' ∧ PxOk X' ∧ X'.S = X2.S ∧ PathOf X'.S true d.1 fs' ∧ (match d.2 with | some x => Den X'.S id' x ∧ ky' = x.key | none => id' = 0 ∧ ky' = 0) ∧ (true = false → EndL (Tr.leaf b) 0 d (((Tr.leaf b).lay 0).take 1)) ∧ (true = true → EndR (Tr.leaf b) 0 d (((Tr.leaf b).lay 0).drop ((Tr.leaf b).len - 1))) ∧ St w (pA X2).fp [pA X', rowsA encFr 143 8 pv' fs'] w')) := Lib.hid fun X2 q1 q2 q3 w h => by
  have := newEnd_any (bk := true) q2 (fun _ => (by rw [q3]; exact hd : Den X2.S x (.leaf b))) (leaf_canon b).gd (Nat.zero_le _) (Nat.le_refl 1) w h
  rw [q1.p] at this
  refine this.mono ?_
  rintro e w' ⟨X', pv', fs', id', ky', d, rfl, q⟩
  exact ⟨X', pv', fs', id', ky', d, by rw [q1.p], q⟩
 have HT : Hid (∀ X2 : Px, X.Ext X2 → PxOk X2 → X2.S = X.S → ∀ w, ((pA X2).sep deA).ho w → Calls Tryz.prog 46 #[.pointer (some ⟨X.p, 0, none⟩), .int .i64 x] w (PPost X2 (.tuple #[.int .i64 0, .nilIface]) (pA X2).fp w)) := Lib.hid fun X2 q1 q2 q3 w h => by
  have := top_p q2 (by rw [q3]; exact hd) w h
  rw [q1.p] at this
  exact this
 clear hX hd hid
 go_enter Tryz.func51, Tryz.ntmps51
 go_wp2_with (first | refine sL ?_ | (refine sS ?_; clear H; intros; rename_i H) | (go_at_call 48; with_reducible refine Calls.mono (HSZ.out _ (H.get (A := pA X) pk)) ?_; rintro e9 wc ⟨rfl, hb⟩; replace H := H.grew hb.below; clear hb) | (first | (go_at_call 59; with_reducible refine Calls.mono (HN1.out _ (H.sepK (A := pA X) HK pk pk)) ?_; rintro e9 wc ⟨X2, pl, fl, il, kl, dl, rfl, y1, y2, y3, y4, y5, y6, y7, hb⟩; have HYL := Lib.hid (And.intro y1 (And.intro y2 (And.intro y3 (And.intro y4 (And.intro y5 (And.intro y6 y7)))))); clear y1 y2 y3 y4 y5 y6 y7; replace H := (H.pick (A := pA X) pk).call hb; clear hb; simp only [List.cons_append, List.nil_append] at H; obtain ⟨al, cl, e8, _⟩ := rowsA_shape (H.get (A := rowsA encFr 143 8 pl fl) pk); obtain ⟨nl, e7⟩ : ∃ l, fl.length = l := ⟨_, rfl⟩; rw [e7] at e8; clear e7; subst e8) | (go_at_call 59; with_reducible refine Calls.mono (HN2.out X2 HYL.out.1 HYL.out.2.1 HYL.out.2.2.1 _ (H.sepK (A := pA X2) HK pk pk)) ?_; rintro e9 wc ⟨X3, pr, fr, ir, kr, dr, rfl, y1, y2, y3, y4, y5, y6, y7, hb⟩; have HYR := Lib.hid (And.intro y1 (And.intro y2 (And.intro y3 (And.intro y4 (And.intro y5 (And.intro y6 y7)))))); clear y1 y2 y3 y4 y5 y6 y7; replace H := (H.pick (A := pA X2) pk).call hb; clear hb; simp only [List.cons_append, List.nil_append] at H; obtain ⟨ar, cr, e8, _⟩ := rowsA_shape (H.get (A := rowsA encFr 143 8 pr fr) pk); obtain ⟨nr, e7⟩ : ∃ l, fr.length = l := ⟨_, rfl⟩; rw [e7] at e8; clear e7; subst e8)) | (go_at_call 46; with_reducible refine Calls.mono (HT.out X3 (HYL.out.1.trans HYR.out.1) HYR.out.2.1 (HYR.out.2.2.1.trans HYL.out.2.2.1) _ (H.sepK (A := pA X3) HK pk pk)) ?_; rintro e9 wc ⟨X4, y1, y2, y3, rfl, hb⟩; have HZ := Lib.hid (And.intro y1 (And.intro y2 y3)); clear y1 y2 y3; replace H := (H.pick (A := pA X3) pk).call hb; clear hb; simp only [List.cons_append, List.nil_append] at H))
 go_loopg [9] 0 (fun n v9 wr => n = 0 ∧ v9 = .int .i64 1 ∧ St w N [pA X4] wr)
 case atStart => exact ⟨rfl, rfl, H.picks (.cons (A := pA X4) pk .nil)⟩
 case round =>
  clear H
  obtain ⟨rfl, rfl, H⟩ := hrel
  go_wp2_with (first | refine sL ?_ | (refine sS ?_; clear H; intros; rename_i H))
  go_ret
  exact ⟨X4, HYL.out.1.trans (HYR.out.1.trans HZ.out.1), HZ.out.2.1, HZ.out.2.2.trans (HYR.out.2.2.1.trans HYL.out.2.2.1), rfl, H.picks (.cons (A := pA X4) pk .nil)⟩
theorem repeat_leaf {X : Px} {x b k : Nat} (hX : PxOk X) (hd : Den X.S x (.leaf b)) (hk : 2 ≤ k) (hk2 : k ≤ 1152921504606846976) (hroom : X.S.list.length < X.S.most) (w : World) (h : PH X w) :
  Calls Tryz.prog 24 #[.pointer (some ⟨X.p, 0, none⟩), .int .i64 x, .int .i64 (k : Nat)] w fun e w' => ∃ (X' : Px) (id : Nat), e = .returned (.tuple #[.int .i64 id, .nilIface]) ∧ X.Ext X' ∧ PxOk X' ∧ Den X'.S id (.pow (.leaf b) k) ∧ X'.S.list.length ≤ X.S.list.length + 1 ∧ St w (pA X).fp [pA X'] w' := by
 have h : ((pA X).sep deA).ho w := h
 rw [sep_ho] at h
 obtain ⟨k1, k2, hdd⟩ := h
 have H := St.one k1
 have HK : Ks w (pA X).fp [deA] := ⟨by simpa using k2, by simpa using fun b hb hm => hdd b hm hb⟩
 generalize (pA X).fp = N at *
 clear k1 k2 hdd
 have hid : IdIs X.S x [.leaf b] := .inr ⟨_, hd, leaf_canon b, rfl⟩
 obtain ⟨i, en, hi, hx, hte⟩ := den_get hd
 have hen : en.r = ⟨1, b, 0, 0, 0⟩ := by
  cases rule_of hX.ok hx with
  |letter b' hb hr hw ht' => rw [hte] at ht'; injection ht' with ht'; rw [ht']; exact hr
  |pair l r y z _ _ _ _ _ _ _ ht' => rw [hte] at ht'; cases ht'
  |pow l k y _ _ _ _ _ _ ht' => rw [hte] at ht'; cases ht'
 obtain ⟨L, hL⟩ : ∃ n, X.S.list.length = n := ⟨_, rfl⟩
 have HST : Hid (∀ X2 : Px, X.Ext X2 → ∀ w, (pA X2).ho w → Calls Tryz.prog 21 #[.pointer (some ⟨X.p, 0, none⟩)] w fun e w' => e = .returned (.pointer (some ⟨X.s, 0, none⟩)) ∧ w' = w) := Lib.hid fun X2 q w h => by have := store_p w h; rwa [q.p, q.s] at this
 have HLE : Hid (∀ w, (pA X).ho w → Calls Tryz.prog 26 #[.pointer (some ⟨X.s, 0, none⟩)] w fun e w' => e = .returned (.int .i64 (L : Nat)) ∧ w' = w) := Lib.hid fun w h => by have := len_c w (pA_sto h); rwa [hL] at this
 have HT : Hid (∀ w, ((pA X).sep deA).ho w → Calls Tryz.prog 46 #[.pointer (some ⟨X.p, 0, none⟩), .int .i64 x] w (PPost X (.tuple #[.int .i64 0, .nilIface]) (pA X).fp w)) := Lib.hid fun w h => top_p hX hd w h
 have HSZ : Hid (∀ X2 : Px, X.Ext X2 → PxOk X2 → X2.S = X.S → ∀ w, (pA X2).ho w → Calls Tryz.prog 48 #[.pointer (some ⟨X.p, 0, none⟩), .int .i64 x] w fun e w' => e = .returned (.int .i64 1) ∧ St w [] [] w') := Lib.hid fun X2 q1 q2 q3 w h => by have := size_any q2 (by rw [q3]; exact hid) w h; rwa [q1.p] at this
 have HMU : Hid (∀ w, Calls Tryz.prog 47 #[.int .i64 1, .int .i64 (k : Nat)] w fun e w' => e = .returned (.tuple #[.int .i64 (1 * k : Nat), .nilIface]) ∧ w' = w) := Lib.hid fun w => mul_ok_e 1 k w (by omega) (by decide) (by rw [Nat.one_mul]; exact hk2)
 have HRU : Hid (∀ X2 : Px, X.Ext X2 → X2.S = X.S → ∀ w, (pA X2).ho w → Calls Tryz.prog 49 #[.pointer (some ⟨X.s, 0, none⟩), .int .i64 x] w fun e w' => e = .returned (.tuple #[.agg #[.int .i64 1, .int .u8 b, .int .i64 0, .int .i64 0, .int .i64 0], .nilIface]) ∧ St w [] [] w') := Lib.hid fun X2 q1 q3 w h => by
  have := rule_c (S := X2.S) (i := i) (x := en) (by rw [q3]; exact hx) (x : Int) (by omega) w (pA_sto h)
  rw [hen, q1.s] at this
  exact this
 have HAP : Hid (∀ X2 : Px, X.Ext X2 → PxOk X2 → X2.S = X.S → ∀ w, ((pA X2).sep deA).ho w → Calls Tryz.prog 51 #[.pointer (some ⟨X.p, 0, none⟩), .int .i64 x] w (PPost X2 (.bool true) (pA X2).fp w)) := Lib.hid fun X2 q1 q2 q3 w h => by have := apart_leaf q2 (by rw [q3]; exact hd) w h; rwa [q1.p] at this
 have HPW : Hid (∀ X2 : Px, X.Ext X2 → PxOk X2 → X2.S = X.S → ∀ w, (pA X2).ho w → Calls Tryz.prog 50 #[.pointer (some ⟨X.s, 0, none⟩), .int .i64 x, .int .i64 (k : Nat)] w fun e w' => ∃ (X' : Px) (id : Nat), e = .returned (.tuple #[.int .i64 id, .nilIface]) ∧ X2.Ext X' ∧ PxOk X' ∧ Den X'.S id (.pow (.leaf b) k) ∧ X'.S.list.length ≤ X2.S.list.length + 1 ∧ St w (pA X2).fp [pA X'] w') := Lib.hid fun X2 q1 q2 q3 w h => by
  have := power_p (k := k) (by rw [q3]; exact hd : Den X2.S x (.leaf b)) hk (by omega) (by show 1 * k ≤ maxT; rw [Nat.one_mul]; exact hk2) q2 w h
  rw [q1.s] at this
  refine this.mono ?_
  rintro e w' ⟨X', id, c, rfl, m1, m2, m3, m4, m5⟩
  rcases m4 with ⟨rfl, m4⟩ | ⟨_, _, _, m4⟩
  ·exact ⟨X', id, rfl, m1, m2, m4, m3, m5⟩
  ·rw [q3] at m4; omega
 have d1 : decide ((x : Int) < 0) = false := by simp
 have d2 : decide ((L : Int) < (x : Int)) = false := by have := hd.2.1; simp; omega
 have d2n : decide (L < x) = false := by have := hd.2.1; simp; omega
 have d3 : decide ((k : Int) < 0) = false := by simp
 have d4 : ((x : Int) == 0) = false := by have := hd.1; simp; omega
 have d5 : ((k : Int) == 0) = false := by simp; omega
 have d6 : ((k : Int) == 1) = false := by simp; omega
 have HLL := Lib.hid hL
 clear hX hd hid hx hi hte hen hL hroom
 go_enter Tryz.func24, Tryz.ntmps24
 go_wp2_with (first | refine sL ?_ | (refine sS ?_; clear H; intros; rename_i H) | (go_at_call 21; first | (with_reducible refine same (HST.out X (.refl _) _ (H.get (A := pA X) pk)) ?_) | (with_reducible refine same (HST.out X2 HY.out.1 _ (H.get (A := pA X2) pk)) ?_) | (with_reducible refine same (HST.out X3 (HY.out.1.trans HZ.out.1) _ (H.get (A := pA X3) pk)) ?_)) | (go_at_call 26; with_reducible refine same (HLE.out _ (H.get (A := pA X) pk)) ?_) | (go_at_call 46; with_reducible refine Calls.mono (HT.out _ (H.sepK (A := pA X) HK pk pk)) ?_; rintro e9 wc ⟨X2, y1, y2, y3, rfl, hb⟩; have HY := Lib.hid (And.intro y1 (And.intro y2 y3)); clear y1 y2 y3; replace H := (H.pick (A := pA X) pk).call hb; clear hb; simp only [List.cons_append, List.nil_append] at H) | (go_at_call 48; with_reducible refine Calls.mono (HSZ.out X2 HY.out.1 HY.out.2.1 HY.out.2.2 _ (H.get (A := pA X2) pk)) ?_; rintro e9 wc ⟨rfl, hb⟩; replace H := H.grew hb.below; clear hb) | (go_at_call 47; with_reducible refine same (HMU.out _) ?_) | (go_at_call 49; with_reducible refine Calls.mono (HRU.out X2 HY.out.1 HY.out.2.2 _ (H.get (A := pA X2) pk)) ?_; rintro e9 wc ⟨rfl, hb⟩; replace H := H.grew hb.below; clear hb) | (go_at_call 51; with_reducible refine Calls.mono (HAP.out X2 HY.out.1 HY.out.2.1 HY.out.2.2 _ (H.sepK (A := pA X2) HK pk pk)) ?_; rintro e9 wc ⟨X3, y1, y2, y3, rfl, hb⟩; have HZ := Lib.hid (And.intro y1 (And.intro y2 y3)); clear y1 y2 y3; replace H := (H.pick (A := pA X2) pk).call hb; clear hb; simp only [List.cons_append, List.nil_append] at H) | (go_at_call 50; with_reducible refine Calls.mono (HPW.out X3 (HY.out.1.trans HZ.out.1) HZ.out.2.1 (HZ.out.2.2.trans HY.out.2.2) _ (H.get (A := pA X3) pk)) ?_; rintro e9 wc ⟨X4, id4, rfl, y1, y2, y3, y4, hb⟩; have HW := Lib.hid (And.intro y1 (And.intro y2 (And.intro y3 y4))); clear y1 y2 y3 y4; replace H := (H.pick (A := pA X3) pk).call hb; clear hb; simp only [List.cons_append, List.nil_append] at H))
 go_ret2
 exact ⟨X4, id4, rfl, HY.out.1.trans (HZ.out.1.trans HW.out.1), HW.out.2.1, HW.out.2.2.1, by have h1 := HW.out.2.2.2; rw [HZ.out.2.2, HY.out.2.2] at h1; exact h1, H.picks (.cons (A := pA X4) pk .nil)⟩
end
section
open Go.RowKit Go.Maps
attribute [local go_sem] InGr
abbrev InvP (X : Px) (w w' : World) : Prop := ∃ X' : Px, X.Ext X' ∧ PxOk X' ∧ X'.S = X.S ∧ St w [] [pA X'] w'
theorem chk_inv {X : Px} {z : Int} {v : Value} {w : World} (HK : Ks w [] [deA]) (hc : ∀ X', X.Ext X' → PxOk X' → X'.S = X.S → ∀ w, PH X' w → Calls Tryz.prog 30 #[.pointer (some ⟨X.p, 0, none⟩), .int .i64 z] w (PPost X' v (pA X').fp w)) : ∀ w', InvP X w w' → Calls Tryz.prog 30 #[.pointer (some ⟨X.p, 0, none⟩), .int .i64 z] w' fun e w'' => e = .returned v ∧ InvP X w w'' := by
 rintro w' ⟨X', e1, e2, e3, H⟩
 refine (hc X' e1 e2 e3 w' (H.sepK HK .here .here)).mono ?_
 rintro e w'' ⟨X2, y1, y2, y3, rfl, hb⟩
 exact ⟨rfl, X2, e1.trans y1, y2, y3.trans e3, by simpa using (H.pick .here).call hb⟩
theorem fails_inv {X : Px} {pv : Value} {z a : Int} {k : Nat} (hk : 0 < k) {w : World} (hc : ∀ w', InvP X w w' → Calls Tryz.prog 30 #[pv, .int .i64 z] w' fun e w'' => e = .returned (.tuple #[.int .i64 0, EV k]) ∧ InvP X w w'') : ∀ w', InvP X w w' → Calls Tryz.prog 25 #[pv, .int .i64 z, .int .i64 a, .int .i64 k] w' fun e w'' => e = .returned (.bool true) ∧ InvP X w w'' := by
 rintro w' ⟨X', e1, e2, e3, H⟩
 refine (fails_c (w0 := w) (M := []) hk (fun L => ∃ X' : Px, L = [pA X'] ∧ X.Ext X' ∧ PxOk X' ∧ X'.S = X.S) ?_ [pA X'] ⟨X', rfl, e1, e2, e3⟩ w' H).mono ?_
 ·rintro L w1 ⟨X1, rfl, f1, f2, f3⟩ H1
  refine (hc w1 ⟨X1, f1, f2, f3, H1⟩).mono ?_
  rintro e w2 ⟨rfl, X2, g1, g2, g3, H2⟩
  exact ⟨rfl, _, ⟨X2, rfl, g1, g2, g3⟩, H2⟩
 ·rintro e w2 ⟨rfl, L, ⟨X2, rfl, g1, g2, g3⟩, H2⟩
  exact ⟨rfl, X2, g1, g2, g3, H2⟩
theorem two_q : (Tr.pair (Tr.leaf 113) (Tr.leaf 113)).lev = none := by simp [Tr.lev]
theorem lev_q : (Tr.pow (Tr.leaf 113) 1152921504606846976).lev = some 1 := by simp [Tr.lev]
theorem check_big {X : Px} {x : Nat} (hX : PxOk X) (hd : Den X.S x (.pow (Tr.leaf 113) 1152921504606846976)) (w : World) (h : PH X w) :
  Calls Tryz.prog 30 #[.pointer (some ⟨X.p, 0, none⟩), .int .i64 x] w (PPost X (.tuple #[.int .i64 (1152921504606846976 : Nat), .nilIface]) (pA X).fp w) := by
 have h : ((pA X).sep deA).ho w := h
 rw [sep_ho] at h
 obtain ⟨k1, k2, hdd⟩ := h
 have H := St.one k1
 have HK : Ks w (pA X).fp [deA] := ⟨by simpa using k2, by simpa using fun b hb hm => hdd b hm hb⟩
 generalize (pA X).fp = N at *
 clear k1 k2 hdd
 obtain ⟨i, en, hi, hx, hte⟩ := den_get hd
 have hlen : en.w.len = 1152921504606846976 := by
  have := (tr_len hX.ok i en hx).1
  rw [hte] at this
  rw [← this]; rfl
 have HW : Hid (∀ w, (pA X).ho w → Calls Tryz.prog 56 #[.pointer (some ⟨X.s, 0, none⟩), .int .i64 x] w fun e w' => e = .returned (.tuple #[.agg #[.int .i64 (1152921504606846976 : Nat), .int .i64 en.w.lines, .int .i64 en.w.head, .int .i64 en.w.tail, .int .u64 en.w.val, .int .u64 en.w.scale], .nilIface]) ∧ St w [] [] w') := Lib.hid fun w h => by
  have := weight_c (i := i + 1) (S := X.S) (x := en) hx w (pA_sto h)
  simp only [WtV, hlen] at this
  rw [hi]
  exact this
 have HS : Hid (∀ w, (pA X).ho w → Calls Tryz.prog 21 #[.pointer (some ⟨X.p, 0, none⟩)] w fun e w' => e = .returned (.pointer (some ⟨X.s, 0, none⟩)) ∧ w' = w) := Lib.hid fun w h => store_p w h
 have HT : Hid (∀ w, ((pA X).sep deA).ho w → Calls Tryz.prog 46 #[.pointer (some ⟨X.p, 0, none⟩), .int .i64 x] w (PPost X (.tuple #[.int .i64 (1 : Nat), .nilIface]) (pA X).fp w)) := Lib.hid fun w h => by
  have := top_p hX hd w h
  rw [lev_q] at this
  exact this
 clear hX hd hi hx hte hlen
 go_enter Tryz.func30, Tryz.ntmps30
 go_wp2_with (first | refine sL ?_ | (refine sS ?_; clear H; intros; rename_i H) | (go_at_call 21; with_reducible refine same (HS.out _ (H.get (A := pA X) pk)) ?_) | (go_at_call 56; with_reducible refine Calls.mono (HW.out _ (H.get (A := pA X) pk)) ?_; rintro e9 wc ⟨rfl, hb⟩; replace H := H.grew hb.below; clear hb) | (go_at_call 46; with_reducible refine Calls.mono (HT.out _ (H.sepK HK pk pk)) ?_; rintro e9 wc ⟨X2, y1, y2, y3, rfl, hb⟩; have HY := Lib.hid (And.intro y1 (And.intro y2 y3)); clear y1 y2 y3; replace H := (H.pick (A := pA X) pk).call hb; clear hb; simp only [List.cons_append, List.nil_append] at H))
 go_ret2
 exact ⟨X2, HY.out.1, HY.out.2.1, HY.out.2.2, rfl, H.picks (.cons (A := pA X2) pk .nil)⟩
theorem errors_c {P0 : PoolT} {text : List Nat} {v : Value} (ht0 : TxtIn P0 v text) (hb : ∀ x ∈ text, x < 256) (raw a : Int) (w : World) (hde : deA.ho w) (hp0 : (poolA P0).ho w) :
    Calls Tryz.prog 7 #[v, .int .i64 raw, .int .i64 a] w fun e w' => e = .returned (.bool true) ∧ St w [] [] w' := by
  obtain ⟨ad, c, rfl, hc, hr0⟩ := id ht0
  obtain ⟨n, hn⟩ : ∃ n, text.length = n := ⟨_, rfl⟩
  rcases Nat.lt_or_ge 200 text.length with h0 | hlen
  · rw [hn] at h0 ⊢
    have H := St.nil w []
    have HK : Ks w [] [deA] := Ks.one hde
    have d1 : decide ((200 : Int) < (n : Int)) = true := by simp; omega
    have d2 : decide (200 < n) = true := by simp; omega
    have d3 : (200 : Int) < (n : Int) := by omega
    clear ht0 hr0 hn hc hb hp0 hde
    go_enter Tryz.func7, Tryz.ntmps7
    go_wp2_with (first | refine sL ?_ | (refine sS ?_; clear H; intros; rename_i H))
    go_ret
    exact ⟨rfl, H⟩
  have d1 : decide ((200 : Int) < (n : Int)) = false := by simp; omega
  have d2 : decide (200 < n) = false := by simp; omega
  have ht := ht0
  have HPA : Hid (∀ w, deA.ho w → (poolA P0).ho w → Calls Tryz.prog 8 #[.slice ad n c] w fun e w' => ∃ (X : Px) (id : Nat), e = .returned (.tuple #[.pointer (some ⟨X.p, 0, none⟩), .int .i64 id, .bool true]) ∧ PxOk X ∧ X.S.most = 1048576 ∧ IdIs X.S id (text.map Tr.leaf) ∧ X.S.list.length ≤ 2 * text.length ∧ St w [] [pA X] w') := Lib.hid fun w h1 h2 => parsed_c (by have := ht.row; rwa [hn] at this) hb (by omega) w h1 h2
  have HTL : Hid (text.length ≤ 200) := Lib.hid hlen
  have HDE : Hid (Ks w [] [deA]) := Lib.hid (Ks.one hde)
  rw [hn]
  have HK : Ks w [] [deA, poolA P0] := Ks.two hde hp0
  have H := St.nil w []
  clear ht0 ht hr0 hn hc hb hp0 hde hlen
  go_enter Tryz.func7, Tryz.ntmps7
  go_wp2_with (first | refine sL ?_ | (refine sS ?_; clear H; intros; rename_i H) | (go_at_call 8; with_reducible refine Calls.mono (HPA.out _ (H.known HK (A := deA) pk) (H.known HK (A := poolA P0) pk)) ?_; rintro e9 wc ⟨X, id, rfl, y1, y2, y3, y4, hb⟩; have HX := Lib.hid (And.intro y1 (And.intro y2 (And.intro y3 y4))); clear y1 y2 y3 y4; replace H := H.call0 hb; clear hb; simp only [List.cons_append, List.nil_append] at H))
  have hX := HX.out.1
  have hmost := HX.out.2.1
  have hidT := HX.out.2.2.1
  have HST : Hid (∀ w, (pA X).ho w → Calls Tryz.prog 21 #[.pointer (some ⟨X.p, 0, none⟩)] w fun e w' => e = .returned (.pointer (some ⟨X.s, 0, none⟩)) ∧ w' = w) := Lib.hid fun w h => store_p w h
  have HLT : Hid (∀ (X2 : Px), X.Ext X2 → PxOk X2 → X2.S.list.length ≤ 500 → ∀ w, (pA X2).ho w → Calls Tryz.prog 22 #[.pointer (some ⟨X.s, 0, none⟩), .int .u8 113] w fun e w' => ∃ (X' : Px) (id : Nat), e = .returned (.tuple #[.int .i64 id, .nilIface]) ∧ X2.Ext X' ∧ PxOk X' ∧ Den X'.S id (Tr.leaf 113) ∧ X'.S.list.length ≤ X2.S.list.length + 1 ∧ St w (pA X2).fp [pA X'] w') := Lib.hid fun X2 q1 q2 q4 w h => by
    have := letter_p 113 (by decide) q2 w h
    rw [q1.s] at this
    refine this.mono ?_
    rintro e w' ⟨X', id, c, rfl, m1, m2, m3, m4, m5⟩
    rcases m4 with ⟨rfl, m4⟩ | ⟨_, _, _, m4⟩
    · exact ⟨X', id, rfl, m1, m2, m4, m3, m5⟩
    · have h9 : X2.S.most = 1048576 := by rw [q1.le.1]; exact hmost
      omega
  have HPR : Hid (∀ (X2 : Px) (one : Nat), X.Ext X2 → PxOk X2 → X2.S.list.length ≤ 500 → Den X2.S one (Tr.leaf 113) → ∀ w, (pA X2).ho w → Calls Tryz.prog 23 #[.pointer (some ⟨X.s, 0, none⟩), .int .i64 one, .int .i64 one] w fun e w' => ∃ (X' : Px) (id : Nat), e = .returned (.tuple #[.int .i64 id, .nilIface]) ∧ X2.Ext X' ∧ PxOk X' ∧ Den X'.S id (Tr.pair (Tr.leaf 113) (Tr.leaf 113)) ∧ X'.S.list.length ≤ X2.S.list.length + 1 ∧ St w (pA X2).fp [pA X'] w') := Lib.hid fun X2 one q1 q2 q4 q5 w h => by
    have := pair_p q5 q5 (by decide) q2 w h
    rw [q1.s] at this
    refine this.mono ?_
    rintro e w' ⟨X', id, c, rfl, m1, m2, m3, m4, m5⟩
    rcases m4 with ⟨rfl, m4⟩ | ⟨_, _, _, m4⟩
    · exact ⟨X', id, rfl, m1, m2, m4, m3, m5⟩
    · have h9 : X2.S.most = 1048576 := by rw [q1.le.1]; exact hmost
      omega
  have HRP : Hid (∀ (X2 : Px) (one : Nat), X.Ext X2 → PxOk X2 → X2.S.list.length ≤ 500 → Den X2.S one (Tr.leaf 113) → ∀ w, ((pA X2).sep deA).ho w → Calls Tryz.prog 24 #[.pointer (some ⟨X.p, 0, none⟩), .int .i64 one, .int .i64 1152921504606846976] w fun e w' => ∃ (X' : Px) (id : Nat), e = .returned (.tuple #[.int .i64 id, .nilIface]) ∧ X2.Ext X' ∧ PxOk X' ∧ Den X'.S id (.pow (Tr.leaf 113) 1152921504606846976) ∧ X'.S.list.length ≤ X2.S.list.length + 1 ∧ St w (pA X2).fp [pA X'] w') := Lib.hid fun X2 one q1 q2 q4 q5 w h => by
    have := repeat_leaf (k := 1152921504606846976) q2 q5 (by decide) (by decide) (by have h9 : X2.S.most = 1048576 := by rw [q1.le.1]; exact hmost
                                                                                     omega) w h
    rw [q1.p] at this
    exact this
  have HLX : Hid (X.S.list.length ≤ 400) := Lib.hid (by have h1 := HX.out.2.2.2; have h2 := HTL.out; omega)
  clear hX hmost hidT
  go_wp2_with (first | refine sL ?_ | (refine sS ?_; clear H; intros; rename_i H) | (go_at_call 21; with_reducible refine same (HST.out _ (H.get (A := pA X) pk)) ?_) | (go_at_call 22; with_reducible refine Calls.mono (HLT.out X (.refl _) HX.out.1 (by have := HLX.out; omega) _ (H.get (A := pA X) pk)) ?_; rintro e9 wc ⟨X2, one, rfl, y1, y2, y3, y4, hb⟩; have HY := Lib.hid (And.intro y1 (And.intro y2 (And.intro y3 y4))); clear y1 y2 y3 y4; replace H := (H.pick (A := pA X) pk).call hb; clear hb; simp only [List.cons_append, List.nil_append] at H) | (go_at_call 23; with_reducible refine Calls.mono (HPR.out X2 one HY.out.1 HY.out.2.1 (by have h1 := HLX.out; have h2 := HY.out.2.2.2; omega) HY.out.2.2.1 _ (H.get (A := pA X2) pk)) ?_; rintro e9 wc ⟨X3, bad, rfl, y1, y2, y3, y4, hb⟩; have HZ := Lib.hid (And.intro y1 (And.intro y2 (And.intro y3 y4))); clear y1 y2 y3 y4; replace H := (H.pick (A := pA X2) pk).call hb; clear hb; simp only [List.cons_append, List.nil_append] at H))
  go_at_call 24; with_reducible refine Calls.mono (HRP.out X3 one (HY.out.1.trans HZ.out.1) HZ.out.2.1 (by have h1 := HLX.out; have h2 := HY.out.2.2.2; have h3 := HZ.out.2.2.2; omega) (HY.out.2.2.1.le HY.out.2.1.ok HZ.out.1.le) _ (H.sepK (A := pA X3) HK pk pk)) ?_
  rintro e9 wc ⟨X4, lg, rfl, y1, y2, y3, y4, hb⟩
  replace H := (H.pick (A := pA X3) pk).call hb
  clear hb
  simp only [List.cons_append, List.nil_append] at H
  have hE : X.Ext X4 := HY.out.1.trans (HZ.out.1.trans y1)
  have hone : Den X4.S one (Tr.leaf 113) := (HY.out.2.2.1.le HY.out.2.1.ok HZ.out.1.le).le HZ.out.2.1.ok y1.le
  have hbad : Den X4.S bad (Tr.pair (Tr.leaf 113) (Tr.leaf 113)) := HZ.out.2.2.1.le HZ.out.2.1.ok y1.le
  have hidx : IdIs X4.S id (text.map Tr.leaf) := HX.out.2.2.1.le HX.out.1.ok hE.le
  have hoi : IdIs X4.S one [(Tr.leaf 113)] := .inr ⟨_, hone, leaf_canon 113, rfl⟩
  have HI : Hid (InvP X4 w _) := Lib.hid ⟨X4, .refl _, y2, rfl, H.picks (.cons (A := pA X4) pk .nil)⟩
  have ckF : ∀ w', InvP X4 w w' → Calls Tryz.prog 30 #[.pointer (some ⟨X.p, 0, none⟩), .int .i64 bad] w' fun e w'' => e = .returned (.tuple #[.int .i64 0, EV 4]) ∧ InvP X4 w w'' := by
    have := chk_inv (X := X4) HDE.out (z := bad) fun X' q1 q2 q3 w h => by
      have := check_form q2 (by rw [q3]; exact hbad) two_q w h
      rwa [q1.p] at this
    rwa [hE.p] at this
  have ckX : ∀ w', InvP X4 w w' → Calls Tryz.prog 30 #[.pointer (some ⟨X.p, 0, none⟩), .int .i64 id] w' fun e w'' => e = .returned (.tuple #[.int .i64 ((text.map Tr.leaf).length : Nat), .nilIface]) ∧ InvP X4 w w'' := by
    have := chk_inv (X := X4) HDE.out (z := id) fun X' q1 q2 q3 w h => by
      have := check_c q2 (by rw [q3]; exact hidx) w h
      rwa [q1.p] at this
    rwa [hE.p] at this
  have ckO : ∀ w', InvP X4 w w' → Calls Tryz.prog 30 #[.pointer (some ⟨X.p, 0, none⟩), .int .i64 one] w' fun e w'' => e = .returned (.tuple #[.int .i64 (1 : Nat), .nilIface]) ∧ InvP X4 w w'' := by
    have := chk_inv (X := X4) HDE.out (z := one) fun X' q1 q2 q3 w h => by
      have := check_c q2 (by rw [q3]; exact hoi) w h
      rwa [q1.p] at this
    rwa [hE.p] at this
  have ckL : ∀ w', InvP X4 w w' → Calls Tryz.prog 30 #[.pointer (some ⟨X.p, 0, none⟩), .int .i64 lg] w' fun e w'' => e = .returned (.tuple #[.int .i64 (1152921504606846976 : Nat), .nilIface]) ∧ InvP X4 w w'' := by
    have := chk_inv (X := X4) HDE.out (z := lg) fun X' q1 q2 q3 w h => by
      have := check_big q2 (by rw [q3]; exact y3) w h
      rwa [q1.p] at this
    rwa [hE.p] at this
  have HF1 : Hid (∀ w', InvP X4 w w' → Calls Tryz.prog 25 #[.pointer none, .int .i64 id, .int .i64 a, .int .i64 5] w' fun e w'' => e = .returned (.bool true) ∧ InvP X4 w w'') := Lib.hid (fails_inv (k := 5) (by decide) fun w' h => (check_nil w').mono (by rintro e w'' ⟨rfl, rfl⟩; exact ⟨rfl, h⟩))
  have HF2 : Hid (∀ w', InvP X4 w w' → Calls Tryz.prog 25 #[.pointer (some ⟨X.p, 0, none⟩), .int .i64 bad, .int .i64 a, .int .i64 4] w' fun e w'' => e = .returned (.bool true) ∧ InvP X4 w w'') := Lib.hid (fails_inv (k := 4) (by decide) ckF)
  obtain ⟨L, hL⟩ : ∃ n, X4.S.list.length = n := ⟨_, rfl⟩
  have HLE : Hid (∀ w', InvP X4 w w' → Calls Tryz.prog 26 #[.pointer (some ⟨X.s, 0, none⟩)] w' fun e w'' => e = .returned (.int .i64 (L : Nat)) ∧ InvP X4 w w'') := Lib.hid (by
    rintro w' ⟨X', e1, e2, e3, H⟩
    have := len_c w' (pA_sto (H.get (A := pA X') pk))
    rw [e3, hL, e1.s, hE.s] at this
    refine this.mono ?_
    rintro e w'' ⟨rfl, rfl⟩
    exact ⟨rfl, X', e1, e2, e3, H⟩)
  have HF3 : Hid (¬ (0 ≤ raw ∧ raw ≤ (L : Int)) → ∀ w', InvP X4 w w' → Calls Tryz.prog 25 #[.pointer (some ⟨X.p, 0, none⟩), .int .i64 raw, .int .i64 a, .int .i64 1] w' fun e w'' => e = .returned (.bool true) ∧ InvP X4 w w'') := Lib.hid fun hq => fails_inv (k := 1) (by decide) (by
    have := chk_inv (X := X4) HDE.out (z := raw) fun X' q1 q2 q3 w h => by
      have := check_range q2 (by rw [q3, hL]; exact hq) w h
      rwa [q1.p] at this
    rwa [hE.p] at this)
  have HN1 : Hid (∀ w', InvP X4 w w' → Calls Tryz.prog 17 #[.pointer (some ⟨X.p, 0, none⟩), .int .i64 id, .int .i64 0, .int .i64 bad] w' fun e w'' => e = .returned (.tuple #[.int .i64 0, EV 4]) ∧ InvP X4 w w'') := Lib.hid fun w' h => Insert_err2 (ckX w' h) ckF
  have HN2 : Hid (∀ w', InvP X4 w w' → Calls Tryz.prog 17 #[.pointer (some ⟨X.p, 0, none⟩), .int .i64 one, .int .i64 1, .int .i64 lg] w' fun e w'' => e = .returned (.tuple #[.int .i64 0, EV 2]) ∧ InvP X4 w w'') := Lib.hid fun w' h => Insert_long (a := 1) (ckO w' h) ckL (by decide) (by decide) (by decide) (by decide)
  have HE4 : Hid (∀ w, Calls Tryz.prog 12 #[EV 4, .int .i64 (4 : Int)] w fun e w' => e = .returned (.bool true) ∧ w' = w) := Lib.hid fun w => is_ev 4 4 (by decide) true (by decide) w
  have HE2 : Hid (∀ w, Calls Tryz.prog 12 #[EV 2, .int .i64 (2 : Int)] w fun e w' => e = .returned (.bool true) ∧ w' = w) := Lib.hid fun w => is_ev 2 2 (by decide) true (by decide) w
  clear ckF ckX ckO ckL y1 y2 y3 y4 hE hone hbad hidx hoi hL H
  rcases Int.lt_or_le raw 0 with h1 | h1
  case' inl => have e1 : decide (raw < 0) = true := by simpa using h1
  case' inr =>
    have e1 : decide (raw < 0) = false := by simpa using h1
    rcases Int.lt_or_le (L : Int) raw with h2 | h2
    case' inl => have e2 : decide ((L : Int) < raw) = true := by simpa using h2
    case' inr => have e2 : decide ((L : Int) < raw) = false := by simpa using h2
  all_goals
    go_wp2_with (first | refine sL ?_ | (refine sS ?_; clear H; intros; rename_i H) | (go_at_call 25; (first | (with_reducible refine Calls.mono (HF1.out _ HI.out) ?_) | (with_reducible refine Calls.mono (HF2.out _ HI.out) ?_) | (with_reducible refine Calls.mono (HF3.out (by omega) _ HI.out) ?_)); rintro e9 wc ⟨rfl, hq⟩; have HI := Lib.hid hq; clear hq) | (go_at_call 26; with_reducible refine Calls.mono (HLE.out _ HI.out) ?_; rintro e9 wc ⟨rfl, hq⟩; have HI := Lib.hid hq; clear hq) | (go_at_call 17; (first | (with_reducible refine Calls.mono (HN1.out _ HI.out) ?_) | (with_reducible refine Calls.mono (HN2.out _ HI.out) ?_)); rintro e9 wc ⟨rfl, hq⟩; have HI := Lib.hid hq; clear hq) | (go_at_call 12; first | (with_reducible refine same (HE4.out _) ?_) | (with_reducible refine same (HE2.out _) ?_)))
    go_ret
    obtain ⟨X9, _, _, _, H⟩ := HI.out
    exact ⟨rfl, H.nix⟩
end
section
open Go.ChangeShapes Go.WideShapes Go.ChangeAt Go.RowKit Go.Deep
def fits64 (z : Int) : Prop := -9223372036854775808 ≤ z ∧ z ≤ 9223372036854775807
theorem ownK : ownKnob Tryz.prog.godebug = none := by kernel_rfl
theorem i64_wf {x : Int} (h : (Lit.int .i64 x).wf = true) : fits64 x := by
 simp [Lit.wf, IntKind.min, IntKind.max, IntKind.signed, IntKind.bits] at h
 unfold fits64
 omega
theorem u8_wf {x : Int} (h : (Lit.int .u8 x).wf = true) : ∃ n : Nat, x = (n : Int) ∧ n < 256 := by
 simp [Lit.wf, IntKind.min, IntKind.max, IntKind.signed, IntKind.bits] at h
 exact ⟨x.toNat, by omega, by omega⟩
section
variable {H : Type} {enc : TypeId × Value → H} {w : World} {base : Nat} {spare : Nat → Bool} {held : Bool}
theorem open_row {α : Type} [Inhabited α] {ec : α → List Value} {k : Nat} (hk : ∀ x, (ec x).length = k) (hk0 : 0 < k) {t e : TypeId} (ht : Tryz.prog.underlying t = some (.slice e)) (hc : Tryz.prog.cellsOf e = k) (Ok : α → Prop)
  (el : ∀ n cs y, cs.length = k → DataW.trod enc Tryz.prog w base spare held n e cs = some y → ∃ x, cs = ec x ∧ Ok x) {fuel : Nat} {cs : List Value} {x : DataW H × List MemPlace} (h : DataW.trod enc Tryz.prog w base spare held fuel t cs = some x) :
  ∃ (v : Value) (xs : List α) (P : PoolT), cs = [v] ∧ RowIn P ec k v xs ∧ (poolA P).ho w ∧ (∀ x ∈ xs, Ok x) ∧ ∃ ad c, v = .slice ad xs.length c ∧ xs.length ≤ c := by
 rcases open_slice ht h with ⟨hcs, _⟩ | ⟨a, len, cap, m, n, D, Pl, hcs, _, hl, hm, hmm, _, hx⟩
 ·exact ⟨_, [], [], hcs, RowIn.nil 0, poolA_nil w, by simp, _, _, rfl, Nat.le_refl _⟩
 ·have hml : len ≤ m := by rw [hmm]; split <;> omega
  rw [hc] at hx
  by_cases h0 : len = 0
  ·subst h0
   exact ⟨_, [], [], hcs, ⟨some a, cap, rfl, by simp, fun h => by simp at h⟩, poolA_nil w, by simp, _, _, rfl, Nat.zero_le _⟩
  obtain ⟨b, o, spot⟩ := a
  have key : ∀ i, i < len → ∃ x : α, w.cells? base ((⟨b, o, spot⟩ : Addr).add (i * k)) k = some (ec x) ∧ Ok x := fun i hi => by
   obtain ⟨cs', h1, h2⟩ := hx i (by omega)
   obtain ⟨x, rfl, hok⟩ := el _ _ _ (World.cells?_some h1).2.1 h2
   exact ⟨x, h1, hok⟩
  obtain ⟨f, hf2⟩ := choose_lt (α := α) key
  have hcell : ∀ i, i < len → ∀ j u, (ec (f i))[j]? = some u → w.cell? (((⟨b, o, spot⟩ : Addr).add (i * k)).add j) = some u := fun i hi j u hj => by
   have hj4 : j < k := by have := (List.getElem?_eq_some_iff.1 hj).1; rwa [hk] at this
   have := (World.cells?_some (hf2 i hi).1).2.2 j hj4
   rw [this, hj]
  have hl4 : 0 < (ec (f 0)).length := by rw [hk]; omega
  have hspot : spot = none := by
   have := World.cell?_spot (hcell 0 (by omega) 0 _ (List.getElem?_eq_getElem hl4))
   simpa [Addr.add] using this
  subst hspot
  have hadd : ∀ i j, ((⟨b, o, none⟩ : Addr).add (i * k)).add j = ⟨b, o + (i * k + j), none⟩ := fun i j => by rw [Addr.add_mid, Addr.add_mid]; congr 1; omega
  have hblk : b < w.heap.size := by
   have := block_lt_of_cell (hcell 0 (by omega) 0 _ (List.getElem?_eq_getElem hl4))
   rw [hadd] at this
   exact this
  unfold maxLen at hm
  have hlen : ((List.range len).map f).length = len := by simp
  refine ⟨_, (List.range len).map f, [(b, o, flatG ec ((List.range len).map f))], hcs, ⟨some ⟨b, o, none⟩, cap, by rw [hlen], by rw [hlen]; unfold maxLen; omega, fun _ => ⟨b, o, rfl, by simp⟩⟩, ?_, ?_, _, cap, by rw [hlen], by rw [hlen]; exact hl⟩
  ·rw [poolA_ho]
   intro y hy
   simp only [List.mem_singleton] at hy
   subst hy
   refine ⟨hblk, fun jj u hj => ?_⟩
   have hjl := getElem_len hj
   rw [flatG_len ec k hk, hlen] at hjl
   have hi : jj / k < len := by rw [Nat.div_lt_iff_lt_mul hk0]; exact hjl
   have hjk : jj % k < k := Nat.mod_lt _ hk0
   have hget : ((List.range len).map f)[jj / k]? = some (f (jj / k)) := by rw [List.getElem?_map, List.getElem?_range hi]; rfl
   have hfl := flatG_get ec k hk _ (jj / k) _ hget (jj % k) hjk
   have hdm : jj / k * k + jj % k = jj := by have := Nat.div_add_mod jj k; rw [Nat.mul_comm] at this; exact this
   rw [hdm, hj] at hfl
   have := hcell (jj / k) hi (jj % k) u hfl.symm
   rw [hadd, hdm] at this
   exact this
  ·intro y hy
   obtain ⟨i, hi, rfl⟩ := List.mem_map.1 hy
   exact (hf2 i (List.mem_range.1 hi)).2
theorem arg_text {r : Reach} {b0 : Nat} {v : Value} {d : DataW H} {p : List MemPlace} (hv : Value.okWide Tryz.prog w r b0 22 v) (h : DataW.Trod enc Tryz.prog w base spare held 22 v d p) :
  ∃ (xs : List Nat) (P : PoolT), TxtIn P v xs ∧ (∀ x ∈ xs, x < 256) ∧ (poolA P).ho w := by
 obtain ⟨a, n, c, rfl⟩ := okWide_slice Tryz.underlying22 hv
 obtain ⟨fuel, hf⟩ := h
 have c5 : Tryz.prog.cellsOf 5 = 1 := by kernel_rfl
 obtain ⟨v2, xs, P, e, h1, h2, h3, ad, c2, h4, h5⟩ := open_row (ec := encT) encT_len (by omega) Tryz.underlying22 c5 (fun x => x < 256) (fun n cs y hl hy => by
  obtain ⟨z, rfl, _, hz⟩ := DataW.trod_int Tryz.underlying5 hy
  obtain ⟨x, rfl, hx⟩ := u8_wf hz
  exact ⟨x, rfl, hx⟩) hf
 simp only [Value.cells, List.cons.injEq, and_true] at e
 first | subst e | (have e := (List.cons.inj e).1; subst e)
 exact ⟨xs, P, ⟨ad, c2, h4, h5, h1⟩, h3, h2⟩
theorem arg_int {r : Reach} {b0 : Nat} {v : Value} {d : DataW H} {p : List MemPlace} (hv : Value.okWide Tryz.prog w r b0 3 v) (h : DataW.Trod enc Tryz.prog w base spare held 3 v d p) : ∃ z, v = .int .i64 z ∧ fits64 z := by
 obtain ⟨z, rfl, h1, h2, h3⟩ := open_int Tryz.underlying3 hv h
 exact ⟨z, rfl, i64_wf h3⟩
end
theorem gTab : Tryz.prog.globalNamed "math/bits.deBruijn64tab" = some 0 := by kernel_rfl
theorem tTab : (Tryz.prog.globals[0]?).map (·.type) = some 187 := by kernel_rfl
theorem tab_is {H : Type} : (Rows.laid_math_bits_deBruijn64tab : DataW H) = .agg (Lib.deBruijn64tab.map fun (n : Nat) => .lit (.int .u8 n)) := rfl
theorem tab_of {W : World} (h : laidMetH Tryz.prog [("math/bits.deBruijn64tab", Rows.laid_math_bits_deBruijn64tab)] W) : deA.ho W := by
  rw [deA_ho]
  rw [MakeChecks.laidMetH_plain _ _ _ (by kernel_rfl)] at h
  obtain ⟨ps, ⟨g0, t0, cs0, f0, p0, q0, hg0, ht0, hv0, hd0, _, _⟩, _, _⟩ := h
  obtain rfl := Option.some.inj (gTab.symm.trans hg0)
  obtain rfl := Option.some.inj (tTab.symm.trans ht0)
  obtain ⟨xs, m1, hfu, hx1, hlen, hn3, hel⟩ := DataW.trod_array Tryz.underlying187 hd0
  have c5 : Tryz.prog.cellsOf 5 = 1 := by kernel_rfl
  have key : ∀ j, j < 64 → W.cell? ⟨0, j, none⟩ = some (.int .u8 (Lib.deBruijn64tab.getD j 0 : Nat)) := fun j hj => by
    have h0 := hel j hj
    rw [c5] at h0
    obtain ⟨y, hy⟩ : ∃ y, xs[j]? = some y := ⟨xs[j]'(by omega), List.getElem?_eq_getElem _⟩
    rw [hy] at h0
    obtain ⟨k, e1, e2, _⟩ := DataW.trod_int Tryz.underlying5 h0
    rw [tab_is] at hx1
    simp only [Prod.mk.injEq, DataW.agg.injEq] at hx1
    have e3 := congrArg (fun l : List (DataW Unit) => l[j]?) hx1.1
    simp only [List.getElem?_map, hy, Option.map_some] at e3
    have hl : j < Lib.deBruijn64tab.length := by have : Lib.deBruijn64tab.length = 64 := by decide
                                                 omega
    rw [List.getElem?_eq_getElem hl, Option.map_some] at e3
    have hk : k = (Lib.deBruijn64tab[j] : Nat) := by
      have := Option.some.inj e3
      rw [e2] at this
      simp at this
      exact this.symm
    have hcl := World.var?_cell hg0 hv0 j
    have e4 : cs0.toList[j]? = some (.int .u8 k) := by
      have := congrArg List.head? e1
      rw [Nat.mul_one, List.head?_take, if_neg (by omega), List.head?_drop] at this
      simpa using this
    rw [hcl, ← Array.getElem?_toList, e4, hk]
    simp [List.getD, hl]
  have h64 : Lib.deBruijn64tab.length = 64 := by decide
  exact ⟨fun j hj => key j (by omega), by have := block_lt_of_cell (key 0 (by omega)); exact this⟩
theorem door_met (os : Os) (args : Array Value) : laidMetH Tryz.prog [("math/bits.deBruijn64tab", Rows.laid_math_bits_deBruijn64tab)] ((World.doorLaid Tryz.prog 400 os).forCall (fun _ _ => 0) ⟨#[], args, []⟩).memory :=
 laidMetH_of_parts3 (fuel := 80) (laidMet_of_run' 80 (by kernel_rfl) (by kernel_rfl)) (by kernel_rfl) (by kernel_rfl)
end
end Go.Proofs.YtnnbeldbccejpaaGreatDoor
section
namespace Go.Proofs.YtnnbeldbccejpaaGreatDoor.lawExcerptErrors
open Go.ChangeShapes Go.WideShapes Go.ChangeAt Go.RowKit
open Go.Proofs.YtnnbeldbccejpaaGreatDoor
set_option linter.unusedVariables false
set_option maxRecDepth 100000 in
theorem lifted (os : Os) (started : os.Started) (H : Type) (enc : TypeId × Value → H) :
  ReturnsInHanded {} Tryz.checked os 7 .any (fun w args => (Rows.excerptErrorsSpec.pre enc Tryz.prog Tryz.f7 [] false w args ∧ laidMetH Tryz.prog [("math/bits.deBruijn64tab", Rows.laid_math_bits_deBruijn64tab)] w) ∧ sizedMet enc Tryz.prog Tryz.f7 (OpenSpec.ofChange Rows.excerptErrorsSpec) false w args)
   (Rows.excerptErrorsSpec.post enc Tryz.prog Tryz.f7 false true false false) := by
 refine returnsInHanded_of_change_and (C := Tryz.checked) (X := fun w _ => laidMetH Tryz.prog [("math/bits.deBruijn64tab", Rows.laid_math_bits_deBruijn64tab)] w) (fun _ _ _ hh h => h.of_heap hh) ownK started (by kernel_rfl) Tryz.func7
  (ChangeSpec.witness_shaped (enc := enc) (C := Tryz.checked) (os := os) (X := fun w _ => laidMetH Tryz.prog [("math/bits.deBruijn64tab", Rows.laid_math_bits_deBruijn64tab)] w) false (World.doorLaid Tryz.prog 400 os) #[.slice none 0 0, .int .i64 0, .int .i64 0] 8 rfl (World.shaped_of_RefB (by kernel_rfl) (by kernel_rfl)) (by kernel_rfl) (by kernel_rfl) (by kernel_rfl) (door_met os _)) ?_
 intro W base args ds gs before hval0 hW _ _ hL _
 have hval : ∀ (j : Nat) t v, Tryz.f7.params[j]? = some t → args[j]? = some v → Value.okWide Tryz.prog W .any base t v := hval0
 have hW' := hW
 obtain ⟨p, q, hA0, hV, rfl, hfz, hnd⟩ := hW
 have hA : DataW.TrodAll enc Tryz.prog W 0 (fun _ => true) true Tryz.f7.params.toList args.toList ds p := hA0
 rw [Tryz.params7] at hA hval
 obtain ⟨v0, vs0, d0, ds0, p0, q0, hargs, rfl, rfl, h0, r0⟩ := trodAll_cons hA
 obtain ⟨v1, vs1, d1, ds1, p1, q1, rfl, rfl, rfl, h1, r1⟩ := trodAll_cons r0
 obtain ⟨v2, vs2, d2, ds2, p2, q2, rfl, rfl, rfl, h2, r2⟩ := trodAll_cons r1
 obtain ⟨rfl, rfl, rfl⟩ := trodAll_nil r2
 obtain rfl : args = #[v0, v1, v2] := by cases args; simp_all
 obtain ⟨rfl, rfl⟩ := trodVars_none hV
 have k0 := h0
 have lt0 : ∀ x ∈ p0, x.block < W.heap.size := by obtain ⟨m, hm⟩ := k0; exact DataW.trod_lt m _ _ _ hm
 have k1 := h1
 have lt1 : ∀ x ∈ p1, x.block < W.heap.size := by obtain ⟨m, hm⟩ := k1; exact DataW.trod_lt m _ _ _ hm
 have k2 := h2
 have lt2 : ∀ x ∈ p2, x.block < W.heap.size := by obtain ⟨m, hm⟩ := k2; exact DataW.trod_lt m _ _ _ hm
 obtain ⟨x0, P0, t0, b0, w0⟩ := arg_text (hval 0 22 v0 rfl rfl) h0
 obtain ⟨z1, rfl, _⟩ := arg_int (hval 1 3 v1 rfl rfl) h1
 obtain ⟨z2, rfl, _⟩ := arg_int (hval 2 3 v2 rfl rfl) h2
 have hde := tab_of hL
 clear hA0 hval0
 refine (errors_c t0 b0 z1 z2 W hde w0).mono fun e W' ⟨he, bel⟩ => ?_
 subst he
 exact ⟨_, rfl, _, _, _, [], _, [], hW', trodAll_mk1 (shut_bool Tryz.underlying4 _), (trodAll_cons_mk (Below.trod laidOut_ok (by kernel_rfl) (of_decide_eq_true (by kernel_rfl)) k0 bel.below lt0) (trodAll_cons_mk (Below.trod laidOut_ok (by kernel_rfl) (of_decide_eq_true (by kernel_rfl)) k1 bel.below lt1) (trodAll_cons_mk (Below.trod laidOut_ok (by kernel_rfl) (of_decide_eq_true (by kernel_rfl)) k2 bel.below lt2) trodAll_mk0))), rfl, bel.below.frame _, fun h => by cases h⟩
theorem over : Rows.excerptErrorsRow.holds Tryz.pinned (OpenSpec.ofChange Rows.excerptErrorsSpec) :=
 OpenClaim.holds_of_wide 7 Tryz.f7 rfl rfl rfl rfl rfl rfl rfl ⟨rfl, rfl, rfl, rfl, rfl⟩ rfl rfl rfl rfl rfl (by kernel_rfl) Tryz.func7 (by kernel_rfl)
  (of_decide_eq_true (by kernel_rfl)) (by unfold Func.isWrapper; first | (rw [if_pos (by decide +kernel)]; kernel_rfl) | (rw [if_neg (by decide +kernel)]; exact ⟨rfl, rfl⟩))
  (fun os started H enc _ => lifted os started H enc)
theorem proved : Rows.ExcerptErrorsCardSaid :=
 Claim7.holds_tied_plain_at .later [] [.data] true (true, "8dc37b1e0219d412a8dd9a2919d06126e03b70f6032098edfd9f6ea9ebf7f350") true
  over (fun _ h => by cases h) (by kernel_rfl) (fun _ h => by cases h) excerptErrors_row_tie rfl ⟨rfl, rfl⟩ (by kernel_rfl) rfl
  (fun f fn hf hfn => by
   obtain rfl : f = 7 := Option.some.inj ((show Tryz.prog.funcNamed "evergreen/evergreenlaw24.ExcerptErrors" = some 7 by kernel_rfl).symm.trans hf) |>.symm
   obtain rfl : fn = Tryz.f7 := (Option.some.inj (Tryz.func7.symm.trans hfn)).symm
   exact ⟨by kernel_rfl, fun j t ht => by
    rw [Tryz.params7] at ht
    have hm : t ∈ [22, 3, 3] := by simpa using Array.mem_of_getElem? ht
    have hall : ([22, 3, 3].all fun u => !Tryz.prog.wantsStandIn u) = true := by kernel_rfl
    exact (show Tryz.prog.wantsStandIn t = false by simpa using List.all_eq_true.1 hall t hm)⟩)
  (by kernel_rfl)
#print axioms proved
end Go.Proofs.YtnnbeldbccejpaaGreatDoor.lawExcerptErrors
end
namespace Go.Proofs.YtnnbeldbccejpaaGreatDoor
end Go.Proofs.YtnnbeldbccejpaaGreatDoor
