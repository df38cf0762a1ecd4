/-
  LocateAdds: the given statement. For every input the law returns true and leaves its arguments. No condition beyond the statement's own.
-/
import Derived.Test.YtijnhpaafhcndaaBa5
import Derived.ChangeOld
import Derived.Deep.Slices
import Derived.Lib.SmallJoins
import Derived.OpenShut
import Derived.ProofKit
import Derived.ShutString
import Derived.Test.YtijnhpaafhcndaaRows
section
namespace Go.Proofs.Ytijnhpaafhcndaa
open Go.RowKit Go.Maps
attribute [local go_sem] InGr
set_option maxHeartbeats 8000000
set_option maxRecDepth 100000
set_option linter.unusedSimpArgs false
set_option linter.unusedVariables false
theorem count_x {S : Sto} {T T' : Tab} {lv : Value} {m id s n : Nat} (hS : S.Ok) (hb : T.back = false) (hid : id ≤ S.list.length) (hf : s + n ≤ (S.txt id).length) (hx : T.Ext T') (hT' : TabOk S T') (w : World) (h : ((tabA T').sep (stoA T.s lv m S)).ho w) :
    Calls Try.prog 12 #[.pointer (some ⟨T.p, 0, none⟩), .int .i64 id, .int .i64 s, .int .i64 n] w fun e w' => ∃ T'', e = .returned (cntV (S.rsum T.mc id s n)) ∧ T.Ext T'' ∧ TabOk S T'' ∧ St w (tabA T').fp [tabA T''] w' := by
  obtain ⟨x1, x2, x3, x4, x5, x6⟩ := hx.same
  have hc := count_c (lv := lv) (m := m) hS hT' (by rw [x6]; exact hb) hid hf w (by rw [x2]; exact h)
  rw [x1, x5] at hc
  with_reducible refine Calls.mono hc ?_
  rintro e w' ⟨T'', he, hx', hT'', hs⟩
  exact ⟨T'', he, hx.trans hx', hT'', hs⟩
theorem rsum_two (S : Sto) (mc : Mc) (id s a b : Nat) : S.rsum mc id s (a + b) = S.rsum mc id s a + S.rsum mc id (s + a) b := sum_two _ _ _ _ _ _
theorem adds_walk {P : PoolT} {cv nv av hv lv : Value} {rvs : List Value} {R : Raw} {ms : List Mk} {N f n m : Int} (h : RawAt P cv nv av hv rvs R) (hms : RowIn P mkL 5 lv ms) (hf : ∀ m ∈ ms, m.Fits) (hs : fits64 R.start) (hN : fits64 N) (h1 : fits64 f) (h2 : fits64 n) (h3 : fits64 m) (w : World) (hp : (poolA P).ho w) :
    Calls Try.prog 4 #[.agg #[.int .i64 R.start, cv, nv, av, hv, lv, .int .i64 N], .int .i64 f, .agg #[.int .i64 n, .int .i64 m]] w fun e w' => e = .returned (.bool true) ∧ St w [] [] w' := by
  have H := St.nil w []
  have HK := Ks.one hp
  unfold fits64 at hs h1 h2 h3
  have HG := Lib.hid (fun w hp => good_c h hms hs.1 hs.2 (N := N) w hp)
  have HB : Hid (∀ c, R.Snd c → ms.length ≤ 100 → ∀ w, (poolA P).ho w → _) := Lib.hid (fun c hR hl w hp => begun_c h hR hms hf hl hN w hp)
  have HID := Lib.hid (idOf_le hf N)
  obtain ⟨a1, c1, rfl, hm1⟩ := h.cls.shape
  obtain ⟨a2, c2, rfl, hm2⟩ := h.next.shape
  obtain ⟨a3, c3, rfl, hm3⟩ := h.acc.shape
  obtain ⟨a4, c4, rfl, hm4⟩ := h.wts.shape
  obtain ⟨a5, c5, rfl, hm5⟩ := hms.shape
  clear h hms hf hs hN hp hm1 hm2 hm3 hm4 hm5
  go_enter Try.func4, Try.ntmps4
  go_wp2_with (first | refine sL ?_ | (refine sB ?_; clear H; intro _ _ H))
  refine wp_region_h H 6 [] [] (by kernel_rfl) (by kernel_rfl) ?_
  apply Exists.intro
  refine ⟨fun w1 hw1 HX => ?_, fun bs wr Hr => ?_⟩
  · refine sG ?_
    repeat (first | refine sQ ?_ | fail | go_big_quiet_step (fail))
    exact wpQuiet_nil rfl
  clear H
  have H := Hr
  clear Hr
  replace H := sH H; refine sT ?_
  go_wp2_with (first | refine sL ?_ | (refine sB ?_; clear H; intro _ _ H))
  with_reducible refine Calls.mono (HG.out _ (H.known HK pk)) ?_
  rintro e wc ⟨b, rfl, hgood, hb⟩
  replace H := H.grew hb.below
  clear hb
  cases b with
  | false =>
    clear hgood
    go_wp2_with (first | refine sL ?_ | (refine sB ?_; clear H; intro _ _ H))
    go_ret
    exact ⟨rfl, H.nix⟩
  | true =>
    obtain ⟨hl, c, hR⟩ := hgood rfl
    have HR := Lib.hid hR
    have HL := Lib.hid hl
    clear hgood hl hR
    go_wp2_with (first | refine sL ?_ | (refine sB ?_; clear H; intro _ _ H))
    with_reducible refine Calls.mono (HB.out c HR.out HL.out _ (H.known HK pk)) ?_
    rintro e wc ⟨T, mm, lv1, rfl, hmc, hbk, hT, hb⟩
    replace H := H.call0 hb
    clear hb
    simp only [List.cons_append, List.nil_append] at H
    obtain ⟨hok, hid, _, _⟩ := HID.out
    have hmax := txt_max hok hid
    generalize hln : ((stoOf ms).txt (idOf ms N)).length = ln at *
    generalize hii : idOf ms N = id at *
    generalize hSS : stoOf ms = S at *
    have HLN := Lib.hid hln
    have HOK := Lib.hid (And.intro hok (And.intro hid (And.intro hmc (And.intro hbk hT))))
    clear HB HG HID hok hid hln hii hSS hmc hbk hT
    by_cases k1 : f < 0
    · have ek1 : decide (f < 0) = true := by simp; omega
      clear k1
      go_wp2_with (first | refine sL ?_ | (refine sB ?_; clear H; intro _ _ H))
      go_ret
      exact ⟨rfl, H.nix⟩
    have ek1 : decide (f < 0) = false := by simp; omega
    by_cases k2 : n < 0
    · have ek2 : decide (n < 0) = true := by simp; omega
      clear k2
      go_wp2_with (first | refine sL ?_ | (refine sB ?_; clear H; intro _ _ H))
      go_ret
      exact ⟨rfl, H.nix⟩
    have ek2 : decide (n < 0) = false := by simp; omega
    by_cases k3 : m < 0
    · have ek3 : decide (m < 0) = true := by simp; omega
      clear k3
      go_wp2_with (first | refine sL ?_ | (refine sB ?_; clear H; intro _ _ H))
      go_ret
      exact ⟨rfl, H.nix⟩
    have ek3 : decide (m < 0) = false := by simp; omega
    by_cases k4 : (ln : Int) < f
    · have ek4 : decide ((ln : Int) < f) = true := by simp; omega
      clear k4
      go_wp2_with (first | refine sL ?_ | (refine sB ?_; clear H; intro _ _ H))
      go_ret
      exact ⟨rfl, H.nix⟩
    have ek4 : decide ((ln : Int) < f) = false := by simp; omega
    have i1 := IntWalk.i64_in ((ln : Int) - f) (by omega)
    by_cases k5 : (ln : Int) - f < n
    · have ek5 : decide ((ln : Int) - f < n) = true := by simp; omega
      clear k5
      go_wp2_with (first | refine sL ?_ | (refine sB ?_; clear H; intro _ _ H))
      go_ret
      exact ⟨rfl, H.nix⟩
    have ek5 : decide ((ln : Int) - f < n) = false := by simp; omega
    have i2 := IntWalk.i64_in ((ln : Int) - f - n) (by omega)
    by_cases k6 : (ln : Int) - f - n < m
    · have ek6 : decide ((ln : Int) - f - n < m) = true := by simp; omega
      clear k6
      go_wp2_with (first | refine sL ?_ | (refine sB ?_; clear H; intro _ _ H))
      go_ret
      exact ⟨rfl, H.nix⟩
    have ek6 : decide ((ln : Int) - f - n < m) = false := by simp; omega
    obtain ⟨s, rfl⟩ : ∃ s : Nat, f = s := ⟨f.toNat, by omega⟩
    obtain ⟨a, rfl⟩ : ∃ a : Nat, n = a := ⟨n.toNat, by omega⟩
    obtain ⟨d, rfl⟩ : ∃ d : Nat, m = d := ⟨m.toNat, by omega⟩
    have hin : s + a + d ≤ ln := by omega
    have j1 := IntWalk.i64_in ((s : Int) + a) (by omega)
    have j2 := IntWalk.i64_in ((a : Int) + d) (by omega)
    obtain ⟨hok, hid, hmc, hbk, hT⟩ := HOK.out
    have HCA := Lib.hid (fun T' (hx : T.Ext T') (hT' : TabOk S T') w h => count_x (lv := lv1) (m := mm) (s := s) (n := a) hok hbk hid (by rw [HLN.out]; omega) hx hT' w h)
    have HCB := Lib.hid (fun T' (hx : T.Ext T') (hT' : TabOk S T') w h => count_x (lv := lv1) (m := mm) (s := s + a) (n := d) hok hbk hid (by rw [HLN.out]; omega) hx hT' w h)
    have HCC := Lib.hid (fun T' (hx : T.Ext T') (hT' : TabOk S T') w h => count_x (lv := lv1) (m := mm) (s := s) (n := a + d) hok hbk hid (by rw [HLN.out]; omega) hx hT' w h)
    have hsum := rsum_two S T.mc id s a d
    have HX0 := Lib.hid (Tab.Ext.refl T)
    have HT0 := Lib.hid hT
    have HIS := Lib.hid (fun w => is_ev 2 2 (by omega) true rfl w)
    clear k1 k2 k3 k4 k5 k6 hok hid hmc hbk hT HOK i1 i2
    generalize S.rsum T.mc id s a = A at *
    generalize S.rsum T.mc id (s + a) d = B at *
    generalize S.rsum T.mc id s (a + d) = C at *
    have HSUM := Lib.hid hsum
    clear hsum
    have hsum := HSUM.out
    by_cases hA : A ≤ 1152921504606846976
    · by_cases hB : B ≤ 1152921504606846976
      · by_cases hC : C ≤ 1152921504606846976
        · have HC1 : Hid (∀ T', T.Ext T' → TabOk S T' → ∀ w, ((tabA T').sep (stoA T.s lv1 mm S)).ho w → Calls Try.prog 12 #[.pointer (some ⟨T.p, 0, none⟩), .int .i64 id, .int .i64 (s : Nat), .int .i64 (a : Nat)] w fun e w' => ∃ T'', e = .returned (.tuple #[.int .i64 (A : Nat), .nilIface]) ∧ T.Ext T'' ∧ TabOk S T'' ∧ St w (tabA T').fp [tabA T''] w') := Lib.hid fun T' hx hT' w h => by have := HCA.out T' hx hT' w h; (try simp only [Int.natCast_add] at this); simpa only [cntV_in hA] using this
          have HC2 : Hid (∀ T', T.Ext T' → TabOk S T' → ∀ w, ((tabA T').sep (stoA T.s lv1 mm S)).ho w → Calls Try.prog 12 #[.pointer (some ⟨T.p, 0, none⟩), .int .i64 id, .int .i64 ((s : Int) + a), .int .i64 (d : Nat)] w fun e w' => ∃ T'', e = .returned (.tuple #[.int .i64 (B : Nat), .nilIface]) ∧ T.Ext T'' ∧ TabOk S T'' ∧ St w (tabA T').fp [tabA T''] w') := Lib.hid fun T' hx hT' w h => by have := HCB.out T' hx hT' w h; (try simp only [Int.natCast_add] at this); simpa only [cntV_in hB] using this
          have HC3 : Hid (∀ T', T.Ext T' → TabOk S T' → ∀ w, ((tabA T').sep (stoA T.s lv1 mm S)).ho w → Calls Try.prog 12 #[.pointer (some ⟨T.p, 0, none⟩), .int .i64 id, .int .i64 (s : Nat), .int .i64 ((a : Int) + d)] w fun e w' => ∃ T'', e = .returned (.tuple #[.int .i64 (C : Nat), .nilIface]) ∧ T.Ext T'' ∧ TabOk S T'' ∧ St w (tabA T').fp [tabA T''] w') := Lib.hid fun T' hx hT' w h => by have := HCC.out T' hx hT' w h; (try simp only [Int.natCast_add] at this); simpa only [cntV_in hC] using this
          have g1 := IntWalk.i64_in ((A : Int) + B) (by omega)
          have g2 : ((A : Int) + B == (C : Int)) = true := by simp; omega
          clear HCA HCB HCC hsum
          go_wp2_with (first | refine sL ?_ | (refine sB ?_; clear H; intro _ _ H) | (go_at_call 12; with_reducible refine Calls.mono (HC1.out T HX0.out HT0.out _ (sep_mk (H.get (A := tabA T) pk) (H.get (A := stoA T.s lv1 mm S) pk) (H.apart2 (A := tabA T) (B := stoA T.s lv1 mm S) pk pk))) ?_; rintro e wc ⟨T1, rfl, hx1, hT1, hb⟩; replace H := H.pick (A := tabA T) pk; replace H := H.call hb; clear hb; simp only [List.cons_append, List.nil_append] at H; have HX1 := Lib.hid hx1; have HT1 := Lib.hid hT1; clear hx1 hT1) | (go_at_call 12; with_reducible refine Calls.mono (HC2.out T1 HX1.out HT1.out _ (sep_mk (H.get (A := tabA T1) pk) (H.get (A := stoA T.s lv1 mm S) pk) (H.apart2 (A := tabA T1) (B := stoA T.s lv1 mm S) pk pk))) ?_; rintro e wc ⟨T2, rfl, hx2, hT2, hb⟩; replace H := H.pick (A := tabA T1) pk; replace H := H.call hb; clear hb; simp only [List.cons_append, List.nil_append] at H; have HX2 := Lib.hid hx2; have HT2 := Lib.hid hT2; clear hx2 hT2) | (go_at_call 12; with_reducible refine Calls.mono (HC3.out T2 HX2.out HT2.out _ (sep_mk (H.get (A := tabA T2) pk) (H.get (A := stoA T.s lv1 mm S) pk) (H.apart2 (A := tabA T2) (B := stoA T.s lv1 mm S) pk pk))) ?_; rintro e wc ⟨T3, rfl, hx3, hT3, hb⟩; replace H := H.pick (A := tabA T2) pk; replace H := H.call hb; clear hb; simp only [List.cons_append, List.nil_append] at H; have HX3 := Lib.hid hx3; have HT3 := Lib.hid hT3; clear hx3 hT3) | (go_at_call 13; with_reducible refine same (HIS.out _) ?_))
          go_ret
          exact ⟨rfl, H.nix⟩
        · have HC1 : Hid (∀ T', T.Ext T' → TabOk S T' → ∀ w, ((tabA T').sep (stoA T.s lv1 mm S)).ho w → Calls Try.prog 12 #[.pointer (some ⟨T.p, 0, none⟩), .int .i64 id, .int .i64 (s : Nat), .int .i64 (a : Nat)] w fun e w' => ∃ T'', e = .returned (.tuple #[.int .i64 (A : Nat), .nilIface]) ∧ T.Ext T'' ∧ TabOk S T'' ∧ St w (tabA T').fp [tabA T''] w') := Lib.hid fun T' hx hT' w h => by have := HCA.out T' hx hT' w h; (try simp only [Int.natCast_add] at this); simpa only [cntV_in hA] using this
          have HC2 : Hid (∀ T', T.Ext T' → TabOk S T' → ∀ w, ((tabA T').sep (stoA T.s lv1 mm S)).ho w → Calls Try.prog 12 #[.pointer (some ⟨T.p, 0, none⟩), .int .i64 id, .int .i64 ((s : Int) + a), .int .i64 (d : Nat)] w fun e w' => ∃ T'', e = .returned (.tuple #[.int .i64 (B : Nat), .nilIface]) ∧ T.Ext T'' ∧ TabOk S T'' ∧ St w (tabA T').fp [tabA T''] w') := Lib.hid fun T' hx hT' w h => by have := HCB.out T' hx hT' w h; (try simp only [Int.natCast_add] at this); simpa only [cntV_in hB] using this
          have HC3 : Hid (∀ T', T.Ext T' → TabOk S T' → ∀ w, ((tabA T').sep (stoA T.s lv1 mm S)).ho w → Calls Try.prog 12 #[.pointer (some ⟨T.p, 0, none⟩), .int .i64 id, .int .i64 (s : Nat), .int .i64 ((a : Int) + d)] w fun e w' => ∃ T'', e = .returned (.tuple #[.int .i64 0, .iface 42 (.int .i64 2)]) ∧ T.Ext T'' ∧ TabOk S T'' ∧ St w (tabA T').fp [tabA T''] w') := Lib.hid fun T' hx hT' w h => by have := HCC.out T' hx hT' w h; (try simp only [Int.natCast_add] at this); simpa only [cntV_out hC] using this
          have g1 := IntWalk.i64_in ((1152921504606846976 : Int) - B) (by omega)
          have g2 : decide ((1152921504606846976 : Int) - B < (A : Int)) = true := by simp; omega
          clear HCA HCB HCC hsum
          go_wp2_with (first | refine sL ?_ | (refine sB ?_; clear H; intro _ _ H) | (go_at_call 12; with_reducible refine Calls.mono (HC1.out T HX0.out HT0.out _ (sep_mk (H.get (A := tabA T) pk) (H.get (A := stoA T.s lv1 mm S) pk) (H.apart2 (A := tabA T) (B := stoA T.s lv1 mm S) pk pk))) ?_; rintro e wc ⟨T1, rfl, hx1, hT1, hb⟩; replace H := H.pick (A := tabA T) pk; replace H := H.call hb; clear hb; simp only [List.cons_append, List.nil_append] at H; have HX1 := Lib.hid hx1; have HT1 := Lib.hid hT1; clear hx1 hT1) | (go_at_call 12; with_reducible refine Calls.mono (HC2.out T1 HX1.out HT1.out _ (sep_mk (H.get (A := tabA T1) pk) (H.get (A := stoA T.s lv1 mm S) pk) (H.apart2 (A := tabA T1) (B := stoA T.s lv1 mm S) pk pk))) ?_; rintro e wc ⟨T2, rfl, hx2, hT2, hb⟩; replace H := H.pick (A := tabA T1) pk; replace H := H.call hb; clear hb; simp only [List.cons_append, List.nil_append] at H; have HX2 := Lib.hid hx2; have HT2 := Lib.hid hT2; clear hx2 hT2) | (go_at_call 12; with_reducible refine Calls.mono (HC3.out T2 HX2.out HT2.out _ (sep_mk (H.get (A := tabA T2) pk) (H.get (A := stoA T.s lv1 mm S) pk) (H.apart2 (A := tabA T2) (B := stoA T.s lv1 mm S) pk pk))) ?_; rintro e wc ⟨T3, rfl, hx3, hT3, hb⟩; replace H := H.pick (A := tabA T2) pk; replace H := H.call hb; clear hb; simp only [List.cons_append, List.nil_append] at H; have HX3 := Lib.hid hx3; have HT3 := Lib.hid hT3; clear hx3 hT3) | (go_at_call 13; with_reducible refine same (HIS.out _) ?_))
          go_ret
          exact ⟨rfl, H.nix⟩
      · have hC : ¬ C ≤ 1152921504606846976 := by omega
        have HC1 : Hid (∀ T', T.Ext T' → TabOk S T' → ∀ w, ((tabA T').sep (stoA T.s lv1 mm S)).ho w → Calls Try.prog 12 #[.pointer (some ⟨T.p, 0, none⟩), .int .i64 id, .int .i64 (s : Nat), .int .i64 (a : Nat)] w fun e w' => ∃ T'', e = .returned (.tuple #[.int .i64 (A : Nat), .nilIface]) ∧ T.Ext T'' ∧ TabOk S T'' ∧ St w (tabA T').fp [tabA T''] w') := Lib.hid fun T' hx hT' w h => by have := HCA.out T' hx hT' w h; (try simp only [Int.natCast_add] at this); simpa only [cntV_in hA] using this
        have HC2 : Hid (∀ T', T.Ext T' → TabOk S T' → ∀ w, ((tabA T').sep (stoA T.s lv1 mm S)).ho w → Calls Try.prog 12 #[.pointer (some ⟨T.p, 0, none⟩), .int .i64 id, .int .i64 ((s : Int) + a), .int .i64 (d : Nat)] w fun e w' => ∃ T'', e = .returned (.tuple #[.int .i64 0, .iface 42 (.int .i64 2)]) ∧ T.Ext T'' ∧ TabOk S T'' ∧ St w (tabA T').fp [tabA T''] w') := Lib.hid fun T' hx hT' w h => by have := HCB.out T' hx hT' w h; (try simp only [Int.natCast_add] at this); simpa only [cntV_out hB] using this
        have HC3 : Hid (∀ T', T.Ext T' → TabOk S T' → ∀ w, ((tabA T').sep (stoA T.s lv1 mm S)).ho w → Calls Try.prog 12 #[.pointer (some ⟨T.p, 0, none⟩), .int .i64 id, .int .i64 (s : Nat), .int .i64 ((a : Int) + d)] w fun e w' => ∃ T'', e = .returned (.tuple #[.int .i64 0, .iface 42 (.int .i64 2)]) ∧ T.Ext T'' ∧ TabOk S T'' ∧ St w (tabA T').fp [tabA T''] w') := Lib.hid fun T' hx hT' w h => by have := HCC.out T' hx hT' w h; (try simp only [Int.natCast_add] at this); simpa only [cntV_out hC] using this
        clear HCA HCB HCC hsum
        go_wp2_with (first | refine sL ?_ | (refine sB ?_; clear H; intro _ _ H) | (go_at_call 12; with_reducible refine Calls.mono (HC1.out T HX0.out HT0.out _ (sep_mk (H.get (A := tabA T) pk) (H.get (A := stoA T.s lv1 mm S) pk) (H.apart2 (A := tabA T) (B := stoA T.s lv1 mm S) pk pk))) ?_; rintro e wc ⟨T1, rfl, hx1, hT1, hb⟩; replace H := H.pick (A := tabA T) pk; replace H := H.call hb; clear hb; simp only [List.cons_append, List.nil_append] at H; have HX1 := Lib.hid hx1; have HT1 := Lib.hid hT1; clear hx1 hT1) | (go_at_call 12; with_reducible refine Calls.mono (HC2.out T1 HX1.out HT1.out _ (sep_mk (H.get (A := tabA T1) pk) (H.get (A := stoA T.s lv1 mm S) pk) (H.apart2 (A := tabA T1) (B := stoA T.s lv1 mm S) pk pk))) ?_; rintro e wc ⟨T2, rfl, hx2, hT2, hb⟩; replace H := H.pick (A := tabA T1) pk; replace H := H.call hb; clear hb; simp only [List.cons_append, List.nil_append] at H; have HX2 := Lib.hid hx2; have HT2 := Lib.hid hT2; clear hx2 hT2) | (go_at_call 12; with_reducible refine Calls.mono (HC3.out T2 HX2.out HT2.out _ (sep_mk (H.get (A := tabA T2) pk) (H.get (A := stoA T.s lv1 mm S) pk) (H.apart2 (A := tabA T2) (B := stoA T.s lv1 mm S) pk pk))) ?_; rintro e wc ⟨T3, rfl, hx3, hT3, hb⟩; replace H := H.pick (A := tabA T2) pk; replace H := H.call hb; clear hb; simp only [List.cons_append, List.nil_append] at H; have HX3 := Lib.hid hx3; have HT3 := Lib.hid hT3; clear hx3 hT3) | (go_at_call 13; with_reducible refine same (HIS.out _) ?_))
        go_ret
        exact ⟨rfl, H.nix⟩
    · have hC : ¬ C ≤ 1152921504606846976 := by omega
      by_cases hB : B ≤ 1152921504606846976
      · have HC1 : Hid (∀ T', T.Ext T' → TabOk S T' → ∀ w, ((tabA T').sep (stoA T.s lv1 mm S)).ho w → Calls Try.prog 12 #[.pointer (some ⟨T.p, 0, none⟩), .int .i64 id, .int .i64 (s : Nat), .int .i64 (a : Nat)] w fun e w' => ∃ T'', e = .returned (.tuple #[.int .i64 0, .iface 42 (.int .i64 2)]) ∧ T.Ext T'' ∧ TabOk S T'' ∧ St w (tabA T').fp [tabA T''] w') := Lib.hid fun T' hx hT' w h => by have := HCA.out T' hx hT' w h; (try simp only [Int.natCast_add] at this); simpa only [cntV_out hA] using this
        have HC2 : Hid (∀ T', T.Ext T' → TabOk S T' → ∀ w, ((tabA T').sep (stoA T.s lv1 mm S)).ho w → Calls Try.prog 12 #[.pointer (some ⟨T.p, 0, none⟩), .int .i64 id, .int .i64 ((s : Int) + a), .int .i64 (d : Nat)] w fun e w' => ∃ T'', e = .returned (.tuple #[.int .i64 (B : Nat), .nilIface]) ∧ T.Ext T'' ∧ TabOk S T'' ∧ St w (tabA T').fp [tabA T''] w') := Lib.hid fun T' hx hT' w h => by have := HCB.out T' hx hT' w h; (try simp only [Int.natCast_add] at this); simpa only [cntV_in hB] using this
        have HC3 : Hid (∀ T', T.Ext T' → TabOk S T' → ∀ w, ((tabA T').sep (stoA T.s lv1 mm S)).ho w → Calls Try.prog 12 #[.pointer (some ⟨T.p, 0, none⟩), .int .i64 id, .int .i64 (s : Nat), .int .i64 ((a : Int) + d)] w fun e w' => ∃ T'', e = .returned (.tuple #[.int .i64 0, .iface 42 (.int .i64 2)]) ∧ T.Ext T'' ∧ TabOk S T'' ∧ St w (tabA T').fp [tabA T''] w') := Lib.hid fun T' hx hT' w h => by have := HCC.out T' hx hT' w h; (try simp only [Int.natCast_add] at this); simpa only [cntV_out hC] using this
        clear HCA HCB HCC hsum
        go_wp2_with (first | refine sL ?_ | (refine sB ?_; clear H; intro _ _ H) | (go_at_call 12; with_reducible refine Calls.mono (HC1.out T HX0.out HT0.out _ (sep_mk (H.get (A := tabA T) pk) (H.get (A := stoA T.s lv1 mm S) pk) (H.apart2 (A := tabA T) (B := stoA T.s lv1 mm S) pk pk))) ?_; rintro e wc ⟨T1, rfl, hx1, hT1, hb⟩; replace H := H.pick (A := tabA T) pk; replace H := H.call hb; clear hb; simp only [List.cons_append, List.nil_append] at H; have HX1 := Lib.hid hx1; have HT1 := Lib.hid hT1; clear hx1 hT1) | (go_at_call 12; with_reducible refine Calls.mono (HC2.out T1 HX1.out HT1.out _ (sep_mk (H.get (A := tabA T1) pk) (H.get (A := stoA T.s lv1 mm S) pk) (H.apart2 (A := tabA T1) (B := stoA T.s lv1 mm S) pk pk))) ?_; rintro e wc ⟨T2, rfl, hx2, hT2, hb⟩; replace H := H.pick (A := tabA T1) pk; replace H := H.call hb; clear hb; simp only [List.cons_append, List.nil_append] at H; have HX2 := Lib.hid hx2; have HT2 := Lib.hid hT2; clear hx2 hT2) | (go_at_call 12; with_reducible refine Calls.mono (HC3.out T2 HX2.out HT2.out _ (sep_mk (H.get (A := tabA T2) pk) (H.get (A := stoA T.s lv1 mm S) pk) (H.apart2 (A := tabA T2) (B := stoA T.s lv1 mm S) pk pk))) ?_; rintro e wc ⟨T3, rfl, hx3, hT3, hb⟩; replace H := H.pick (A := tabA T2) pk; replace H := H.call hb; clear hb; simp only [List.cons_append, List.nil_append] at H; have HX3 := Lib.hid hx3; have HT3 := Lib.hid hT3; clear hx3 hT3) | (go_at_call 13; with_reducible refine same (HIS.out _) ?_))
        go_ret
        exact ⟨rfl, H.nix⟩
      · have HC1 : Hid (∀ T', T.Ext T' → TabOk S T' → ∀ w, ((tabA T').sep (stoA T.s lv1 mm S)).ho w → Calls Try.prog 12 #[.pointer (some ⟨T.p, 0, none⟩), .int .i64 id, .int .i64 (s : Nat), .int .i64 (a : Nat)] w fun e w' => ∃ T'', e = .returned (.tuple #[.int .i64 0, .iface 42 (.int .i64 2)]) ∧ T.Ext T'' ∧ TabOk S T'' ∧ St w (tabA T').fp [tabA T''] w') := Lib.hid fun T' hx hT' w h => by have := HCA.out T' hx hT' w h; (try simp only [Int.natCast_add] at this); simpa only [cntV_out hA] using this
        have HC2 : Hid (∀ T', T.Ext T' → TabOk S T' → ∀ w, ((tabA T').sep (stoA T.s lv1 mm S)).ho w → Calls Try.prog 12 #[.pointer (some ⟨T.p, 0, none⟩), .int .i64 id, .int .i64 ((s : Int) + a), .int .i64 (d : Nat)] w fun e w' => ∃ T'', e = .returned (.tuple #[.int .i64 0, .iface 42 (.int .i64 2)]) ∧ T.Ext T'' ∧ TabOk S T'' ∧ St w (tabA T').fp [tabA T''] w') := Lib.hid fun T' hx hT' w h => by have := HCB.out T' hx hT' w h; (try simp only [Int.natCast_add] at this); simpa only [cntV_out hB] using this
        have HC3 : Hid (∀ T', T.Ext T' → TabOk S T' → ∀ w, ((tabA T').sep (stoA T.s lv1 mm S)).ho w → Calls Try.prog 12 #[.pointer (some ⟨T.p, 0, none⟩), .int .i64 id, .int .i64 (s : Nat), .int .i64 ((a : Int) + d)] w fun e w' => ∃ T'', e = .returned (.tuple #[.int .i64 0, .iface 42 (.int .i64 2)]) ∧ T.Ext T'' ∧ TabOk S T'' ∧ St w (tabA T').fp [tabA T''] w') := Lib.hid fun T' hx hT' w h => by have := HCC.out T' hx hT' w h; (try simp only [Int.natCast_add] at this); simpa only [cntV_out hC] using this
        clear HCA HCB HCC hsum
        go_wp2_with (first | refine sL ?_ | (refine sB ?_; clear H; intro _ _ H) | (go_at_call 12; with_reducible refine Calls.mono (HC1.out T HX0.out HT0.out _ (sep_mk (H.get (A := tabA T) pk) (H.get (A := stoA T.s lv1 mm S) pk) (H.apart2 (A := tabA T) (B := stoA T.s lv1 mm S) pk pk))) ?_; rintro e wc ⟨T1, rfl, hx1, hT1, hb⟩; replace H := H.pick (A := tabA T) pk; replace H := H.call hb; clear hb; simp only [List.cons_append, List.nil_append] at H; have HX1 := Lib.hid hx1; have HT1 := Lib.hid hT1; clear hx1 hT1) | (go_at_call 12; with_reducible refine Calls.mono (HC2.out T1 HX1.out HT1.out _ (sep_mk (H.get (A := tabA T1) pk) (H.get (A := stoA T.s lv1 mm S) pk) (H.apart2 (A := tabA T1) (B := stoA T.s lv1 mm S) pk pk))) ?_; rintro e wc ⟨T2, rfl, hx2, hT2, hb⟩; replace H := H.pick (A := tabA T1) pk; replace H := H.call hb; clear hb; simp only [List.cons_append, List.nil_append] at H; have HX2 := Lib.hid hx2; have HT2 := Lib.hid hT2; clear hx2 hT2) | (go_at_call 12; with_reducible refine Calls.mono (HC3.out T2 HX2.out HT2.out _ (sep_mk (H.get (A := tabA T2) pk) (H.get (A := stoA T.s lv1 mm S) pk) (H.apart2 (A := tabA T2) (B := stoA T.s lv1 mm S) pk pk))) ?_; rintro e wc ⟨T3, rfl, hx3, hT3, hb⟩; replace H := H.pick (A := tabA T2) pk; replace H := H.call hb; clear hb; simp only [List.cons_append, List.nil_append] at H; have HX3 := Lib.hid hx3; have HT3 := Lib.hid hT3; clear hx3 hT3) | (go_at_call 13; with_reducible refine same (HIS.out _) ?_))
        go_ret
        exact ⟨rfl, H.nix⟩
end Go.Proofs.Ytijnhpaafhcndaa
end
section
namespace Go.Proofs.Ytijnhpaafhcndaa
open Go.ChangeShapes Go.WideShapes Go.ChangeAt Go.RowKit Go.Deep
set_option linter.unusedVariables false
set_option linter.unusedSimpArgs false
set_option maxRecDepth 100000
theorem ownK : ownKnob Try.prog.godebug = none := by kernel_rfl
theorem i64_wf {x : Int} (h : (Lit.int .i64 x).wf = true) : fits64 x := by
  simp [Lit.wf, IntKind.min, IntKind.max, IntKind.signed, IntKind.bits] at h
  unfold fits64
  omega
theorem u8_wf {x : Int} (h : (Lit.int .u8 x).wf = true) : ∃ n : Nat, x = (n : Int) ∧ n < 256 := by
  simp [Lit.wf, IntKind.min, IntKind.max, IntKind.signed, IntKind.bits] at h
  exact ⟨x.toNat, by omega, by omega⟩
section
variable {H : Type} {enc : TypeId × Value → H} {w : World} {base : Nat} {spare : Nat → Bool} {held : Bool}
theorem open_row {α : Type} [Inhabited α] {ec : α → List Value} {k : Nat} (hk : ∀ x, (ec x).length = k) (hk0 : 0 < k) {t e : TypeId} (ht : Try.prog.underlying t = some (.slice e)) (hc : Try.prog.cellsOf e = k) (Ok : α → Prop)
    (el : ∀ n cs y, cs.length = k → DataW.trod enc Try.prog w base spare held n e cs = some y → ∃ x, cs = ec x ∧ Ok x) {fuel : Nat} {cs : List Value} {x : DataW H × List MemPlace} (h : DataW.trod enc Try.prog w base spare held fuel t cs = some x) :
    ∃ (v : Value) (xs : List α) (P : PoolT), cs = [v] ∧ RowIn P ec k v xs ∧ (poolA P).ho w ∧ ∀ x ∈ xs, Ok x := by
  rcases open_slice ht h with ⟨hcs, _⟩ | ⟨a, len, cap, m, n, D, Pl, hcs, _, hl, hm, hmm, _, hx⟩
  · exact ⟨_, [], [], hcs, RowIn.nil 0, poolA_nil w, by simp⟩
  · have hml : len ≤ m := by rw [hmm]; split <;> omega
    rw [hc] at hx
    by_cases h0 : len = 0
    · subst h0
      exact ⟨_, [], [], hcs, ⟨some a, cap, rfl, by simp, fun h => by simp at h⟩, poolA_nil w, by simp⟩
    obtain ⟨b, o, spot⟩ := a
    have key : ∀ i, i < len → ∃ x : α, w.cells? base ((⟨b, o, spot⟩ : Addr).add (i * k)) k = some (ec x) ∧ Ok x := fun i hi => by
      obtain ⟨cs', h1, h2⟩ := hx i (by omega)
      obtain ⟨x, rfl, hok⟩ := el _ _ _ (World.cells?_some h1).2.1 h2
      exact ⟨x, h1, hok⟩
    obtain ⟨f, hf2⟩ := choose_lt (α := α) key
    have hcell : ∀ i, i < len → ∀ j u, (ec (f i))[j]? = some u → w.cell? (((⟨b, o, spot⟩ : Addr).add (i * k)).add j) = some u := fun i hi j u hj => by
      have hj4 : j < k := by have := (List.getElem?_eq_some_iff.1 hj).1; rwa [hk] at this
      have := (World.cells?_some (hf2 i hi).1).2.2 j hj4
      rw [this, hj]
    have hl4 : 0 < (ec (f 0)).length := by rw [hk]; omega
    have hspot : spot = none := by
      have := World.cell?_spot (hcell 0 (by omega) 0 _ (List.getElem?_eq_getElem hl4))
      simpa [Addr.add] using this
    subst hspot
    have hadd : ∀ i j, ((⟨b, o, none⟩ : Addr).add (i * k)).add j = ⟨b, o + (i * k + j), none⟩ := fun i j => by rw [Addr.add_mid, Addr.add_mid]; congr 1; omega
    have hblk : b < w.heap.size := by
      have := block_lt_of_cell (hcell 0 (by omega) 0 _ (List.getElem?_eq_getElem hl4))
      rw [hadd] at this
      exact this
    unfold maxLen at hm
    have hlen : ((List.range len).map f).length = len := by simp
    refine ⟨_, (List.range len).map f, [(b, o, flatG ec ((List.range len).map f))], hcs, ⟨some ⟨b, o, none⟩, cap, by rw [hlen], by rw [hlen]; unfold maxLen; omega, fun _ => ⟨b, o, rfl, by simp⟩⟩, ?_, ?_⟩
    · rw [poolA_ho]
      intro y hy
      simp only [List.mem_singleton] at hy
      subst hy
      refine ⟨hblk, fun jj u hj => ?_⟩
      have hjl := getElem_len hj
      rw [flatG_len ec k hk, hlen] at hjl
      have hi : jj / k < len := by rw [Nat.div_lt_iff_lt_mul hk0]; exact hjl
      have hjk : jj % k < k := Nat.mod_lt _ hk0
      have hget : ((List.range len).map f)[jj / k]? = some (f (jj / k)) := by rw [List.getElem?_map, List.getElem?_range hi]; rfl
      have hfl := flatG_get ec k hk _ (jj / k) _ hget (jj % k) hjk
      have hdm : jj / k * k + jj % k = jj := by have := Nat.div_add_mod jj k; rw [Nat.mul_comm] at this; exact this
      rw [hdm, hj] at hfl
      have := hcell (jj / k) hi (jj % k) u hfl.symm
      rw [hadd, hdm] at this
      exact this
    · intro y hy
      obtain ⟨i, hi, rfl⟩ := List.mem_map.1 hy
      exact (hf2 i (List.mem_range.1 hi)).2
theorem open_ints_row {t e : TypeId} (ht : Try.prog.underlying t = some (.slice e)) (he : Try.prog.underlying e = some (.int .i64)) (hc : Try.prog.cellsOf e = 1) {fuel : Nat} {cs : List Value} {x : DataW H × List MemPlace} (h : DataW.trod enc Try.prog w base spare held fuel t cs = some x) :
    ∃ (v : Value) (xs : List Int) (P : PoolT), cs = [v] ∧ RowIn P encZ 1 v xs ∧ (poolA P).ho w ∧ ∀ x ∈ xs, fits64 x :=
  open_row encZ_len (by omega) ht hc fits64 (fun n cs y hl hy => by
    obtain ⟨z, rfl, _, hz⟩ := DataW.trod_int he hy
    exact ⟨z, rfl, i64_wf hz⟩) h
theorem rows_all {rvs : List Value} (h : ∀ v ∈ rvs, ∃ (xs : List Int) (P : PoolT), RowIn P encZ 1 v xs ∧ (poolA P).ho w) :
    ∃ (nx : List (List Int)) (P : PoolT), rvs.length = nx.length ∧ (∀ (i : Nat) (rv : Value) (r : List Int), rvs[i]? = some rv → nx[i]? = some r → RowIn P encZ 1 rv r) ∧ (poolA P).ho w := by
  induction rvs with
  | nil => exact ⟨[], [], rfl, fun i rv r h => by simp at h, poolA_nil w⟩
  | cons v rvs ih =>
    obtain ⟨nx, P, h1, h2, h3⟩ := ih fun u hu => h u (by simp [hu])
    obtain ⟨xs, Q, h4, h5⟩ := h v (by simp)
    refine ⟨xs :: nx, Q ++ P, by simp [h1], fun i rv r hr hn => ?_, poolA_append h5 h3⟩
    cases i with
    | zero =>
      simp at hr hn
      subst hr hn
      exact h4.mono fun x hx => List.mem_append.2 (.inl hx)
    | succ i =>
      simp at hr hn
      exact (h2 i rv r hr hn).mono fun x hx => List.mem_append.2 (.inr hx)
instance : Inhabited Mk := ⟨⟨0, 0, 0, 0, 0⟩⟩
instance : Inhabited Value := ⟨.nilIface⟩
theorem take5 {α : Type} {cs : List α} (h : cs.length = 5) : ∃ a b c d e, cs = [a, b, c, d, e] := by
  match cs, h with
  | [a, b, c, d, e], _ => exact ⟨a, b, c, d, e, rfl⟩
theorem open_make {n : Nat} {cs : List Value} {y : DataW H × List MemPlace} (hl : cs.length = 5) (h : DataW.trod enc Try.prog w base spare held n 115 cs = some y) : ∃ m : Mk, cs = mkL m ∧ m.Fits := by
  obtain ⟨a, b, c, d, e, rfl⟩ := take5 hl
  obtain ⟨xs, k, _, _, _, hxl, hf⟩ := DataW.trod_struct Try.underlying115 h
  have c3 : Try.prog.cellsOf 3 = 1 := by kernel_rfl
  have c5 : Try.prog.cellsOf 5 = 1 := by kernel_rfl
  have get : ∀ i, i < 5 → ∃ y, xs[i]? = some y := fun i hi => ⟨xs[i]'(by rw [hxl]; exact hi), List.getElem?_eq_getElem _⟩
  obtain ⟨y0, g0⟩ := get 0 (by omega)
  obtain ⟨y1, g1⟩ := get 1 (by omega)
  obtain ⟨y2, g2⟩ := get 2 (by omega)
  obtain ⟨y3, g3⟩ := get 3 (by omega)
  obtain ⟨y4, g4⟩ := get 4 (by omega)
  have f0 : DataW.trod enc Try.prog w base spare held k 3 ((([a, b, c, d, e] : List Value).drop 0).take (Try.prog.cellsOf 3)) = some y0 := (hf 0 _ rfl).trans g0
  rw [c3] at f0
  have f1 : DataW.trod enc Try.prog w base spare held k 5 ((([a, b, c, d, e] : List Value).drop 1).take (Try.prog.cellsOf 5)) = some y1 := (hf 1 _ rfl).trans g1
  rw [c5] at f1
  have f2 : DataW.trod enc Try.prog w base spare held k 3 ((([a, b, c, d, e] : List Value).drop 2).take (Try.prog.cellsOf 3)) = some y2 := (hf 2 _ rfl).trans g2
  rw [c3] at f2
  have f3 : DataW.trod enc Try.prog w base spare held k 3 ((([a, b, c, d, e] : List Value).drop 3).take (Try.prog.cellsOf 3)) = some y3 := (hf 3 _ rfl).trans g3
  rw [c3] at f3
  have f4 : DataW.trod enc Try.prog w base spare held k 3 ((([a, b, c, d, e] : List Value).drop 4).take (Try.prog.cellsOf 3)) = some y4 := (hf 4 _ rfl).trans g4
  rw [c3] at f4
  obtain ⟨z0, e0, _, w0⟩ := DataW.trod_int Try.underlying3 f0
  obtain ⟨z1, e1, _, w1⟩ := DataW.trod_int Try.underlying5 f1
  obtain ⟨z2, e2, _, w2⟩ := DataW.trod_int Try.underlying3 f2
  obtain ⟨z3, e3, _, w3⟩ := DataW.trod_int Try.underlying3 f3
  obtain ⟨z4, e4, _, w4⟩ := DataW.trod_int Try.underlying3 f4
  simp only [List.drop_zero, List.take_succ_cons, List.take_zero, List.drop_succ_cons, List.cons.injEq, and_true] at e0 e1 e2 e3 e4
  obtain ⟨l, rfl, hl8⟩ := u8_wf w1
  subst e0 e1 e2 e3 e4
  exact ⟨⟨z0, l, z2, z3, z4⟩, rfl, ⟨i64_wf w0, hl8, i64_wf w2, i64_wf w3, i64_wf w4⟩⟩
theorem open_input {fuel : Nat} {cs : List Value} {x : DataW H × List MemPlace} (h : DataW.trod enc Try.prog w base spare held fuel 29 cs = some x) :
    ∃ (P : PoolT) (cv nv av hv lv : Value) (rvs : List Value) (R : Raw) (ms : List Mk) (N : Int), cs = [.int .i64 R.start, cv, nv, av, hv, lv, .int .i64 N] ∧ RawAt P cv nv av hv rvs R ∧ RowIn P mkL 5 lv ms ∧ (∀ m ∈ ms, m.Fits) ∧ fits64 R.start ∧ fits64 N ∧ (poolA P).ho w := by
  have c29 : Try.prog.cellsOf 29 = 7 := by kernel_rfl
  have c26 : Try.prog.cellsOf 26 = 4 := by kernel_rfl
  have c22 : Try.prog.cellsOf 22 = 1 := by kernel_rfl
  have c23 : Try.prog.cellsOf 23 = 1 := by kernel_rfl
  have c24 : Try.prog.cellsOf 24 = 1 := by kernel_rfl
  have c27 : Try.prog.cellsOf 27 = 1 := by kernel_rfl
  have c3 : Try.prog.cellsOf 3 = 1 := by kernel_rfl
  have c4 : Try.prog.cellsOf 4 = 1 := by kernel_rfl
  have c115 : Try.prog.cellsOf 115 = 5 := by kernel_rfl
  obtain ⟨y0, y1, y2, y3, n, _, hl, f0, f1, f2, f3⟩ := Joins.trod_struct4 Try.underlying29 h
  rw [c29] at hl
  obtain ⟨a0, a1, a2, a3, a4, a5, a6, rfl⟩ : ∃ a0 a1 a2 a3 a4 a5 a6, cs = [a0, a1, a2, a3, a4, a5, a6] := by
    match cs, hl with
    | [a0, a1, a2, a3, a4, a5, a6], _ => exact ⟨a0, a1, a2, a3, a4, a5, a6, rfl⟩
  simp only [c26, c22, c27, c3, List.drop_zero, List.take_succ_cons, List.take_zero, List.drop_succ_cons] at f0 f1 f2 f3
  obtain ⟨z0, z1, z2, z3, n2, _, _, g0, g1, g2, g3⟩ := Joins.trod_struct4 Try.underlying26 f0
  simp only [c22, c23, c24, c3, List.drop_zero, List.take_succ_cons, List.take_zero, List.drop_succ_cons] at g0 g1 g2 g3
  obtain ⟨st, e0, _, w0⟩ := DataW.trod_int Try.underlying3 g0
  obtain ⟨N, e6, _, w6⟩ := DataW.trod_int Try.underlying3 f3
  obtain ⟨cv, cls, P1, e1, r1, p1, _⟩ := open_ints_row Try.underlying22 Try.underlying3 c3 g1
  obtain ⟨nv, rvs, P2, e2, r2, p2, hrv⟩ := open_row (ec := encV) encV_len (by omega) Try.underlying23 c22 (fun v => ∃ (xs : List Int) (P : PoolT), RowIn P encZ 1 v xs ∧ (poolA P).ho w) (fun n cs y hl hy => by
    obtain ⟨v, xs, P, rfl, hr, hp, _⟩ := open_ints_row Try.underlying22 Try.underlying3 c3 hy
    exact ⟨v, rfl, xs, P, hr, hp⟩) g2
  obtain ⟨av, acc, P3, e3, r3, p3, _⟩ := open_row (ec := encB) encB_len (by omega) Try.underlying24 c4 (fun _ => True) (fun n cs y hl hy => by
    obtain ⟨b, rfl, _⟩ := DataW.trod_bool Try.underlying4 hy
    exact ⟨b, rfl, trivial⟩) g3
  obtain ⟨hv, wts, P4, e4, r4, p4, _⟩ := open_ints_row Try.underlying22 Try.underlying3 c3 f1
  obtain ⟨lv, ms, P5, e5, r5, p5, hms⟩ := open_row (ec := mkL) mkL_len (by omega) Try.underlying27 c115 Mk.Fits (fun n cs y hl hy => open_make hl hy) f2
  obtain ⟨nx, P6, hlen, hrows, p6⟩ := rows_all hrv
  simp only [List.cons.injEq, and_true] at e0 e1 e2 e3 e4 e5 e6
  subst e0 e1 e2 e3 e4 e5 e6
  have i1 : ∀ x ∈ P1, x ∈ P1 ++ (P2 ++ (P3 ++ (P4 ++ (P5 ++ P6)))) := fun x hx => by simp [hx]
  have i2 : ∀ x ∈ P2, x ∈ P1 ++ (P2 ++ (P3 ++ (P4 ++ (P5 ++ P6)))) := fun x hx => by simp [hx]
  have i3 : ∀ x ∈ P3, x ∈ P1 ++ (P2 ++ (P3 ++ (P4 ++ (P5 ++ P6)))) := fun x hx => by simp [hx]
  have i4 : ∀ x ∈ P4, x ∈ P1 ++ (P2 ++ (P3 ++ (P4 ++ (P5 ++ P6)))) := fun x hx => by simp [hx]
  have i5 : ∀ x ∈ P5, x ∈ P1 ++ (P2 ++ (P3 ++ (P4 ++ (P5 ++ P6)))) := fun x hx => by simp [hx]
  have i6 : ∀ x ∈ P6, x ∈ P1 ++ (P2 ++ (P3 ++ (P4 ++ (P5 ++ P6)))) := fun x hx => by simp [hx]
  exact ⟨P1 ++ (P2 ++ (P3 ++ (P4 ++ (P5 ++ P6)))), _, _, _, _, _, rvs, ⟨st, cls, nx, acc, wts⟩, ms, N, rfl, ⟨r1.mono i1, r2.mono i2, hlen, fun i rv r h1 h2 => (hrows i rv r h1 h2).mono i6, r3.mono i3, r4.mono i4⟩, r5.mono i5, hms, i64_wf w0, i64_wf w6, poolA_append p1 (poolA_append p2 (poolA_append p3 (poolA_append p4 (poolA_append p5 p6))))⟩
theorem arg_input {r : Reach} {b0 : Nat} {v : Value} {d : DataW H} {p : List MemPlace} (hv : Value.okWide Try.prog w r b0 29 v) (h : DataW.Trod enc Try.prog w base spare held 29 v d p) :
    ∃ (P : PoolT) (cv nv av hv lv : Value) (rvs : List Value) (R : Raw) (ms : List Mk) (N : Int), v = .agg #[.int .i64 R.start, cv, nv, av, hv, lv, .int .i64 N] ∧ RawAt P cv nv av hv rvs R ∧ RowIn P mkL 5 lv ms ∧ (∀ m ∈ ms, m.Fits) ∧ fits64 R.start ∧ fits64 N ∧ (poolA P).ho w := by
  obtain ⟨cs, rfl, _⟩ := okWide_struct Try.underlying29 hv
  obtain ⟨fuel, hf⟩ := h
  obtain ⟨P, cv, nv, av, hv', lv, rvs, R, ms, N, e, h1⟩ := open_input hf
  refine ⟨P, cv, nv, av, hv', lv, rvs, R, ms, N, ?_, h1⟩
  have e2 : cs.toList = [.int .i64 R.start, cv, nv, av, hv', lv, .int .i64 N] := e
  rw [← e2]
theorem arg_int {r : Reach} {b0 : Nat} {v : Value} {d : DataW H} {p : List MemPlace} (hv : Value.okWide Try.prog w r b0 3 v) (h : DataW.Trod enc Try.prog w base spare held 3 v d p) : ∃ z, v = .int .i64 z ∧ fits64 z := by
  obtain ⟨z, rfl, h1, h2, h3⟩ := open_int Try.underlying3 hv h
  exact ⟨z, rfl, i64_wf h3⟩
theorem arg_two {r : Reach} {b0 : Nat} {v : Value} {d : DataW H} {p : List MemPlace} (hv : Value.okWide Try.prog w r b0 45 v) (h : DataW.Trod enc Try.prog w base spare held 45 v d p) : ∃ y z, v = .agg #[.int .i64 y, .int .i64 z] ∧ fits64 y ∧ fits64 z := by
  obtain ⟨fuel, hf⟩ := h
  obtain ⟨xs, m, _, _, hl, hx, hi⟩ := DataW.trod_array Try.underlying45 hf
  have c45 : Try.prog.cellsOf 45 = 2 := by kernel_rfl
  have c3 : Try.prog.cellsOf 3 = 1 := by kernel_rfl
  rw [c45] at hl
  rw [c3] at hi
  have hagg : ∃ cs, v = .agg cs := by
    cases v <;> first | exact ⟨_, rfl⟩ | (simp [Value.cells] at hl)
  obtain ⟨cs, rfl⟩ := hagg
  have hl2 : cs.toList.length = 2 := hl
  obtain ⟨a, b, hab⟩ : ∃ a b, cs.toList = [a, b] := by
    match cs.toList, hl2 with
    | [a, b], _ => exact ⟨a, b, rfl⟩
  have get : ∀ i, i < 2 → ∃ y, xs[i]? = some y := fun i hi => ⟨xs[i]'(by omega), List.getElem?_eq_getElem _⟩
  obtain ⟨y0, g0⟩ := get 0 (by omega)
  obtain ⟨y1, g1⟩ := get 1 (by omega)
  have f0 := (hi 0 (by omega)).trans g0
  have f1 := (hi 1 (by omega)).trans g1
  have hcs : (Value.agg cs).cells.toList = [a, b] := hab
  rw [hcs] at f0 f1
  obtain ⟨z0, e0, _, w0⟩ := DataW.trod_int Try.underlying3 f0
  obtain ⟨z1, e1, _, w1⟩ := DataW.trod_int Try.underlying3 f1
  simp at e0 e1
  subst e0 e1
  exact ⟨z0, z1, by rw [← hab], i64_wf w0, i64_wf w1⟩
end
end Go.Proofs.Ytijnhpaafhcndaa
end
section
namespace Go.Proofs.Ytijnhpaafhcndaa.lawAdds
open Go.ChangeShapes Go.WideShapes Go.ChangeAt Go.RowKit
open Go.Proofs.Ytijnhpaafhcndaa
set_option linter.unusedVariables false
set_option maxRecDepth 100000 in
theorem lifted (os : Os) (started : os.Started) (H : Type) (enc : TypeId × Value → H) :
    ReturnsInHanded {} Try.checked os 4 .any (Rows.locateAddsSpec.pre6 enc Try.prog Try.f4 Rows.locateAddsRow.domain false) (Rows.locateAddsSpec.post enc Try.prog Try.f4 false true false false) := by
  refine returnsInHanded_of_change (C := Try.checked) ownK started (by kernel_rfl) Try.func4
    (ChangeSpec.witness6 (enc := enc) (C := Try.checked) false ⟨#[], #[.agg #[.int .i64 0, .slice none 0 0, .slice none 0 0, .slice none 0 0, .slice none 0 0, .slice none 0 0, .int .i64 0], .int .i64 0, .agg #[.int .i64 0, .int .i64 0]], []⟩ 8 (by kernel_rfl) (by kernel_rfl) (by kernel_rfl) (by kernel_rfl)) ?_
  intro W base args ds gs before hval0 hW hcnd _
  have hval : ∀ (j : Nat) t v, Try.f4.params[j]? = some t → args[j]? = some v → Value.okWide Try.prog W .any base t v := hval0
  have hW' := hW
  obtain ⟨p, q, hA0, hV, rfl, hfz, hnd⟩ := hW
  have hA : DataW.TrodAll enc Try.prog W 0 (fun _ => true) true Try.f4.params.toList args.toList ds p := hA0
  rw [Try.params4] at hA hval
  obtain ⟨v0, vs0, d0, ds0, p0, q0, hargs, rfl, rfl, h0, r0⟩ := trodAll_cons hA
  obtain ⟨v1, vs1, d1, ds1, p1, q1, rfl, rfl, rfl, h1, r1⟩ := trodAll_cons r0
  obtain ⟨v2, vs2, d2, ds2, p2, q2, rfl, rfl, rfl, h2, r2⟩ := trodAll_cons r1
  obtain ⟨rfl, rfl, rfl⟩ := trodAll_nil r2
  obtain rfl : args = #[v0, v1, v2] := by cases args; simp_all
  obtain ⟨rfl, rfl⟩ := trodVars_none hV
  have k0 := h0
  have lt0 : ∀ x ∈ p0, x.block < W.heap.size := by obtain ⟨m, hm⟩ := k0; exact DataW.trod_lt m _ _ _ hm
  have k1 := h1
  have lt1 : ∀ x ∈ p1, x.block < W.heap.size := by obtain ⟨m, hm⟩ := k1; exact DataW.trod_lt m _ _ _ hm
  have k2 := h2
  have lt2 : ∀ x ∈ p2, x.block < W.heap.size := by obtain ⟨m, hm⟩ := k2; exact DataW.trod_lt m _ _ _ hm
  obtain ⟨P, cv, nv, av, hv, lv, rvs, R, ms, N, rfl, hraw, hms, hf, hs, hN, hp⟩ := arg_input (hval 0 29 v0 rfl rfl) h0
  obtain ⟨z1, rfl, b1⟩ := arg_int (hval 1 3 v1 rfl rfl) h1
  obtain ⟨y2, z2, rfl, b2, c2⟩ := arg_two (hval 2 45 v2 rfl rfl) h2
  clear hA0 hval0
  refine (adds_walk hraw hms hf hs hN b1 b2 c2 W hp).mono fun e W' ⟨he, bel⟩ => ?_
  subst he
  exact ⟨_, rfl, _, _, _, [], _, [], hW', trodAll_mk1 (shut_bool Try.underlying4 _), (trodAll_cons_mk (Below.trod laidOut_ok (by kernel_rfl) (of_decide_eq_true (by kernel_rfl)) k0 bel.below lt0) (trodAll_cons_mk (Below.trod laidOut_ok (by kernel_rfl) (of_decide_eq_true (by kernel_rfl)) k1 bel.below lt1) (trodAll_cons_mk (Below.trod laidOut_ok (by kernel_rfl) (of_decide_eq_true (by kernel_rfl)) k2 bel.below lt2) trodAll_mk0))), rfl, bel.below.frame _, fun h => by cases h⟩
theorem over : Rows.locateAddsRow.holds Try.pinned (OpenSpec.ofChange Rows.locateAddsSpec) :=
  OpenClaim.holds_of_wide 4 Try.f4 rfl rfl rfl rfl rfl rfl rfl ⟨rfl, rfl, rfl, rfl, rfl⟩ rfl rfl rfl rfl rfl (by kernel_rfl) Try.func4 (by kernel_rfl)
    (of_decide_eq_true (by kernel_rfl)) (by unfold Func.isWrapper; first | (rw [if_pos (by decide +kernel)]; kernel_rfl) | (rw [if_neg (by decide +kernel)]; exact ⟨rfl, rfl⟩))
    (fun os started H enc _ => lifted os started H enc)
theorem proved : Rows.LocateAddsSaid := over
#print axioms proved
end Go.Proofs.Ytijnhpaafhcndaa.lawAdds
end
