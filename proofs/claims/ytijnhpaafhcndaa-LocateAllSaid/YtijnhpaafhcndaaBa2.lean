/-
  Part 2 of the texts behind the statements of this seat: walks and laws Wv, Wx, Wp, Is, Ik, If, Ig, Rs, Ro, Rt, Rd, Rb, Il, Im, Ne, Pm. Conditions: as each states.
-/
import Derived.Test.YtijnhpaafhcndaaBa1
import Derived.Laws.Small
import Derived.WalkSpells
section
namespace Go.Proofs.Ytijnhpaafhcndaa
open Go.RowKit
attribute [local go_sem] OneStep growAt growUpon
set_option maxHeartbeats 2000000
set_option maxRecDepth 100000
set_option linter.unusedSimpArgs false
set_option linter.unusedVariables false
structure Wt where
  len : Nat
  lines : Nat
  head : Nat
  tail : Nat
  val : Nat
  scale : Nat
def WtV (x : Wt) : Array Value := #[.int .i64 x.len, .int .i64 x.lines, .int .i64 x.head, .int .i64 x.tail, .int .u64 x.val, .int .u64 x.scale]
structure Wt.Ok (x : Wt) : Prop where
  len : x.len ≤ 1152921504606846976
  none : x.lines = 0 → x.head = x.len ∧ x.tail = x.len
  some : 0 < x.lines → x.head + x.tail + x.lines ≤ x.len ∧ (x.lines = 1 → x.head + x.tail + 1 = x.len)
  val : x.val < 2305843009213693951
  zero : x.len = 0 → x.val = 0
  scale : x.scale = 1103515245 ^ x.len % PP
theorem pow_r (a n r : Nat) (hr : r = a ^ n % PP) (z : Int) (hz : z = n) (ha : a < 18446744073709551616) (hn : n < 18446744073709551616) (w : World) :
    Calls Try.prog 111 #[.int .u64 a, .int .u64 z] w fun e w' => e = .returned (.int .u64 r) ∧ w' = w := by subst hr; exact pow_c a n z hz ha hn w
theorem wvalid_c (x : Wt) (hx : x.Ok) (w : World) :
    Calls Try.prog 106 #[.agg (WtV x)] w fun e w' => e = .returned (.bool true) ∧ Below w.heap.size w w' := by
  obtain ⟨h1, h2, h3, h5, h4', h6⟩ := hx
  obtain ⟨len, lines, head, tail, val, scale⟩ := x
  simp only at h1 h2 h3 h5 h4' h6
  have HS := Lib.hid h6
  have hv : decide ((2305843009213693951 : Int) ≤ (val : Int)) = false := decide_eq_false (by omega)
  clear h6 h5
  unfold WtV
  by_cases hl : lines = 0
  · obtain ⟨e1, e2⟩ := h2 hl
    subst hl
    clear h2 h3
    by_cases hz : len = 0
    · have hv0 := h4' hz
      subst hz hv0
      clear h4'
      go_enter Try.func106, Try.ntmps106
      go_wp2_with fail
      refine same (valid_c 0 true (by symm; rw [decide_eq_true_eq]; omega) _) ?_
      go_wp2_with fail
      go_quiet ((go_at_call 111; exact Calls.quiet_of_same (pow_r 1103515245 0 scale HS.out _ (by simp) (by omega) (by omega) _)))
      go_wp2_with fail
      go_ret
      exact ⟨rfl, (by (repeat (first | exact Below.refl _ _ | assumption | refine Below.drew ?_ | refine below_drewN ?_ _ | refine Below.alloc ?_ ?_ _ | refine Below.setCell ?_ ?_ _)) <;> (simp <;> omega))⟩
    · clear h4'
      go_enter Try.func106, Try.ntmps106
      go_wp2_with fail
      refine same (valid_c len true (by symm; rw [decide_eq_true_eq]; omega) _) ?_
      go_wp2_with fail
      go_quiet ((go_at_call 111; exact Calls.quiet_of_same (pow_r 1103515245 len scale HS.out _ (by simp) (by omega) (by omega) _)))
      go_wp2_with fail
      go_ret
      exact ⟨rfl, (by (repeat (first | exact Below.refl _ _ | assumption | refine Below.drew ?_ | refine below_drewN ?_ _ | refine Below.alloc ?_ ?_ _ | refine Below.setCell ?_ ?_ _)) <;> (simp <;> omega))⟩
  · obtain ⟨e1, e2⟩ := h3 (by omega)
    clear h2 h3
    have hz : ¬ len = 0 := by omega
    clear h4'
    have hh0 : decide ((head : Int) < 0) = false := decide_eq_false (by omega)
    have ht0 : decide ((tail : Int) < 0) = false := decide_eq_false (by omega)
    by_cases ho : lines = 1
    · have e3 := e2 ho
      subst ho
      clear e2
      have hb1 : ((len : Int) - (head : Int) - (tail : Int) != 1) = false := by rw [bne_eq_false_iff_eq]; omega
      have hb2 : decide ((len : Int) - (head : Int) - (tail : Int) < 1) = false := decide_eq_false (by omega)
      have hb3 : (len : Int) - (head : Int) - (tail : Int) = 1 := by omega
      go_enter Try.func106, Try.ntmps106
      go_wp2_with fail
      refine same (valid_c len true (by symm; rw [decide_eq_true_eq]; omega) _) ?_
      go_wp2_with fail
      go_quiet ((go_at_call 111; exact Calls.quiet_of_same (pow_r 1103515245 len scale HS.out _ (by simp) (by omega) (by omega) _)))
      go_wp2_with fail
      go_ret
      exact ⟨rfl, (by (repeat (first | exact Below.refl _ _ | assumption | refine Below.drew ?_ | refine below_drewN ?_ _ | refine Below.alloc ?_ ?_ _ | refine Below.setCell ?_ ?_ _)) <;> (simp <;> omega))⟩
    · clear e2
      go_enter Try.func106, Try.ntmps106
      go_wp2_with fail
      refine same (valid_c len true (by symm; rw [decide_eq_true_eq]; omega) _) ?_
      go_wp2_with fail
      go_quiet ((go_at_call 111; exact Calls.quiet_of_same (pow_r 1103515245 len scale HS.out _ (by simp) (by omega) (by omega) _)))
      go_wp2_with fail
      go_ret
      exact ⟨rfl, (by (repeat (first | exact Below.refl _ _ | assumption | refine Below.drew ?_ | refine below_drewN ?_ _ | refine Below.alloc ?_ ?_ _ | refine Below.setCell ?_ ?_ _)) <;> (simp <;> omega))⟩
end Go.Proofs.Ytijnhpaafhcndaa
end
section
namespace Go.Proofs.Ytijnhpaafhcndaa
open Go.RowKit
attribute [local go_sem] InGr
set_option maxHeartbeats 2000000
set_option maxRecDepth 100000
set_option linter.unusedSimpArgs false
set_option linter.unusedVariables false
def WZ : Array Value := #[.int .i64 0, .int .i64 0, .int .i64 0, .int .i64 0, .int .u64 0, .int .u64 0]
theorem djoin_l (va sa vb sb : Nat) (h1 : va < 18446744073709551616) (h2 : sa < 18446744073709551616) (h3 : vb < 18446744073709551616) (h4 : sb < 18446744073709551616) (w : World) :
    Calls Try.prog 108 #[.agg #[.int .u64 va, .int .u64 sa], .agg #[.int .u64 vb, .int .u64 sb]] w fun e w' => e = .returned (.agg #[.int .u64 (jv va vb sb), .int .u64 (js sa sb)]) ∧ Below w.heap.size w w' := djoin_c va sa vb sb h1 h2 h3 h4 w
theorem wunit_c (w : World) : Calls Try.prog 90 #[] w fun e w' => e = .returned (.agg (WtV ⟨0, 0, 0, 0, 0, 1⟩)) ∧ St w [] [] w' := by
  have H := St.nil w []
  go_enter Try.func90, Try.ntmps90
  go_wp2_with (first | (refine sS ?_; clear H; intro _ H) | (refine sA ?_; clear H; intro _ _ H))
  refine (dunit_c _).mono ?_
  rintro e w1 ⟨rfl, hb⟩
  replace H := H.grew hb
  clear hb
  unfold DV
  go_wp2_with (first | (refine sS ?_; clear H; intro _ H) | (refine sA ?_; clear H; intro _ _ H))
  exact bodyPost_ret (res_row rfl H rfl pk rfl) rfl ⟨rfl, H.nix⟩
def Wt.join (a b : Wt) : Wt := ⟨a.len + b.len, a.lines + b.lines, if a.lines = 0 then a.len + b.head else a.head, if b.lines = 0 then b.len + a.tail else b.tail, jv a.val b.val b.scale, js a.scale b.scale⟩
theorem wjoin_c (a b : Wt) (ha : a.Ok) (hb : b.Ok) (hl : a.len + b.len ≤ 1152921504606846976) (w : World) :
    Calls Try.prog 88 #[.agg (WtV a), .agg (WtV b)] w fun e w' => e = .returned (.tuple #[.agg (WtV (a.join b)), .nilIface]) ∧ St w [] [] w' := by
  have HO := Lib.hid (And.intro ha hb)
  have HU : Hid (a.val < 18446744073709551616 ∧ a.scale < 18446744073709551616 ∧ b.val < 18446744073709551616 ∧ b.scale < 18446744073709551616) :=
    Lib.hid ⟨by have := ha.val; omega, by rw [ha.scale]; exact mod_lt64 _, by have := hb.val; omega, by rw [hb.scale]; exact mod_lt64 _⟩
  have hal := ha.len
  have hbl := hb.len
  have hla : a.lines ≤ a.len := by rcases Nat.eq_zero_or_pos a.lines with h | h; omega; have := ha.some h; omega
  have hlb : b.lines ≤ b.len := by rcases Nat.eq_zero_or_pos b.lines with h | h; omega; have := hb.some h; omega
  have hha : a.head ≤ a.len := by rcases Nat.eq_zero_or_pos a.lines with h | h; have := ha.none h; omega; have := ha.some h; omega
  have hhb : b.head ≤ b.len := by rcases Nat.eq_zero_or_pos b.lines with h | h; have := hb.none h; omega; have := hb.some h; omega
  have hta : a.tail ≤ a.len := by rcases Nat.eq_zero_or_pos a.lines with h | h; have := ha.none h; omega; have := ha.some h; omega
  have htb : b.tail ≤ b.len := by rcases Nat.eq_zero_or_pos b.lines with h | h; have := hb.none h; omega; have := hb.some h; omega
  clear ha hb
  have H := St.nil w []
  go_enter Try.func88, Try.ntmps88
  go_wp2_with (first | refine sL ?_ | (refine sS ?_; clear H; intro _ H) | (refine sB ?_; clear H; intro _ _ H) | (refine sA ?_; clear H; intro _ _ H))
  refine (wvalid_c a HO.out.1 _).mono ?_
  rintro e w1 ⟨rfl, hb⟩
  replace H := H.grew hb
  clear hb
  go_wp2_with (first | refine sL ?_ | (refine sS ?_; clear H; intro _ H) | (refine sB ?_; clear H; intro _ _ H) | (refine sA ?_; clear H; intro _ _ H))
  refine (wvalid_c b HO.out.2 _).mono ?_
  rintro e w1 ⟨rfl, hb⟩
  replace H := H.grew hb
  clear hb
  go_wp2_with (first | refine sL ?_ | (refine sS ?_; clear H; intro _ H) | (refine sB ?_; clear H; intro _ _ H) | (refine sA ?_; clear H; intro _ _ H))
  refine same (add_ok a.len b.len _ hl) ?_
  go_wp2_with (first | refine sL ?_ | (refine sS ?_; clear H; intro _ H) | (refine sB ?_; clear H; intro _ _ H) | (refine sA ?_; clear H; intro _ _ H))
  refine wp_region_h H 17 [(16, 71, WZ, none)] [(16, 8)] (by kernel_rfl) (by kernel_rfl) ?_
  apply Exists.intro
  refine ⟨fun w1 hw1 HX => ?_, fun bs w1 H' => ?_⟩
  · refine sG ?_
    repeat (first | refine sQ ?_ | go_big_quiet_step ((go_at_call 108; exact quiet_gr (djoin_l _ _ _ _ HU.out.1 HU.out.2.1 HU.out.2.2.1 HU.out.2.2.2 _))))
    apply wpQuiet_nil
    refine ⟨fstep_allocT rfl rfl hw1 rfl rfl, ?_⟩
    simp only [Act.put, puA, puB, puC]
    exact wpQuiet_nil rfl
  · clear H
    have H := H'
    clear H'
    replace H := sH H; refine sT ?_
    by_cases ha : a.lines = 0 <;> by_cases hb : b.lines = 0
    all_goals
      go_wp2_with (first | refine sL ?_ | (refine sS ?_; clear H; intro _ H) | (refine sB ?_; clear H; intro _ _ H) | (refine sA ?_; clear H; intro _ _ H))
      refine bodyPost_ret (res_row_tmp rfl H rfl pk rfl rfl) rfl ⟨?_, H.nix⟩
      simp [Wt.join, ha, hb, WtV]
def Wt.letter (b : Nat) : Wt := if b = 10 then ⟨1, 1, 0, 0, b + 1, 1103515245⟩ else ⟨1, 0, 1, 1, b + 1, 1103515245⟩
theorem dletter_l (b : Nat) (hb : b < 256) (w : World) :
    Calls Try.prog 105 #[.int .u8 b] w fun e w' => e = .returned (.agg #[.int .u64 (b + 1 : Nat), .int .u64 (1103515245 : Nat)]) ∧ Below w.heap.size w w' := dletter_c b hb w
theorem wletter_c (b : Nat) (hb : b < 256) (w : World) :
    Calls Try.prog 84 #[.int .u8 b] w fun e w' => e = .returned (.agg (WtV (Wt.letter b))) ∧ St w [] [] w' := by
  have HB := Lib.hid hb
  have H := St.nil w []
  go_enter Try.func84, Try.ntmps84
  by_cases h : b = 10
  · subst h
    go_wp2_with (first | (refine sS ?_; clear H; intro _ H) | (refine sA ?_; clear H; intro _ _ H) | (go_at_call 105; refine (dletter_l 10 (by omega) _).mono ?_; rintro e wc ⟨rfl, hb⟩; replace H := H.grew hb; clear hb))
    exact bodyPost_ret (res_row rfl H rfl pk rfl) rfl ⟨rfl, H.nix⟩
  · have h10 : ((b : Int) == 10) = false := by rw [beq_eq_false_iff_ne]; omega
    go_wp2_with (first | (refine sS ?_; clear H; intro _ H) | (refine sA ?_; clear H; intro _ _ H) | (go_at_call 105; refine (dletter_l b HB.out _).mono ?_; rintro e wc ⟨rfl, hb⟩; replace H := H.grew hb; clear hb))
    exact bodyPost_ret (res_row rfl H rfl pk rfl) rfl ⟨by simp [Wt.letter, h, WtV], H.nix⟩
def Wt.rep (x : Wt) (k : Nat) : Wt := ⟨x.len * k, x.lines * k, if x.lines = 0 then x.len * k else x.head, if x.lines = 0 then x.len * k else x.tail, (dloop 0 1 x.val x.scale k).1, (dloop 0 1 x.val x.scale k).2⟩
theorem drepeat_l (v s k : Nat) (z : Int) (hz : z = k) (h1 : v < 18446744073709551616) (h2 : s < 18446744073709551616) (hk : k ≤ 9223372036854775807) (w : World) :
    Calls Try.prog 107 #[.agg #[.int .u64 v, .int .u64 s], .int .i64 z] w fun e w' => e = .returned (.agg #[.int .u64 (dloop 0 1 v s k).1, .int .u64 (dloop 0 1 v s k).2]) ∧ Below w.heap.size w w' := drepeat_c v s k z hz h1 h2 hk w
theorem wrepeat_c (x : Wt) (hx : x.Ok) (hp : 0 < x.len) (k : Nat) (hk : 0 < k) (hl : x.len * k ≤ 1152921504606846976) (z : Int) (hz : z = k) (w : World) :
    Calls Try.prog 86 #[.agg (WtV x), .int .i64 z] w fun e w' => e = .returned (.tuple #[.agg (WtV (x.rep k)), .nilIface]) ∧ St w [] [] w' := by
  subst hz
  have HO := Lib.hid hx
  have HU : Hid (x.val < 18446744073709551616 ∧ x.scale < 18446744073709551616) := Lib.hid ⟨by have := hx.val; omega, by rw [hx.scale]; exact mod_lt64 _⟩
  have hxl := hx.len
  have hlx : x.lines ≤ x.len := by rcases Nat.eq_zero_or_pos x.lines with h | h; omega; have := hx.some h; omega
  have hkl : k ≤ 1152921504606846976 := Nat.le_trans (Nat.le_mul_of_pos_left k hp) hl
  have hpos : 0 < x.len * k := Nat.mul_pos hp hk
  have hml : x.lines * k ≤ 1152921504606846976 := Nat.le_trans (Nat.mul_le_mul_right k hlx) hl
  have HP := Lib.hid (And.intro hp hl)
  obtain ⟨n, hn⟩ : ∃ n, n = x.len * k := ⟨_, rfl⟩
  obtain ⟨m, hm⟩ : ∃ m, m = x.lines * k := ⟨_, rfl⟩
  rw [← hn] at hpos
  rw [← hm] at hml
  have hnl : n ≤ 1152921504606846976 := by rw [hn]; exact hl
  have hmi : (x.lines : Int) * (k : Int) = (m : Int) := by rw [hm, Int.natCast_mul]
  have HN := Lib.hid (And.intro hn hm)
  clear hx hl hn hm hp
  have H := St.nil w []
  go_enter Try.func86, Try.ntmps86
  go_wp2_with (first | refine sL ?_ | (refine sS ?_; clear H; intro _ H) | (refine sB ?_; clear H; intro _ _ H) | (refine sA ?_; clear H; intro _ _ H) | (go_at_call 106; refine (wvalid_c x HO.out _).mono ?_; rintro e wc ⟨rfl, hb⟩; replace H := H.grew hb; clear hb))
  refine same (mul_ok x.len k _ rfl _ HP.out.1 hxl HP.out.2) ?_
  rw [← HN.out.1]
  go_wp2_with (first | refine sL ?_ | (refine sS ?_; clear H; intro _ H) | (refine sB ?_; clear H; intro _ _ H) | (refine sA ?_; clear H; intro _ _ H))
  refine wp_region_h H 15 [(14, 71, WZ, none)] [(14, 8)] (by kernel_rfl) (by kernel_rfl) ?_
  apply Exists.intro
  refine ⟨fun w1 hw1 HX => ?_, fun bs w1 H' => ?_⟩
  · refine sG ?_
    repeat (first | refine sQ ?_ | go_big_quiet_step ((go_at_call 107; exact quiet_gr (drepeat_l _ _ k _ rfl HU.out.1 HU.out.2 (by omega) _))))
    apply wpQuiet_nil
    refine ⟨fstep_allocT rfl rfl hw1 rfl rfl, ?_⟩
    simp only [Act.put, puA, puB, puC]
    exact wpQuiet_nil rfl
  · clear H
    have H := H'
    clear H'
    replace H := sH H; refine sT ?_
    by_cases ha : x.lines = 0
    all_goals
      go_wp2_with (first | refine sL ?_ | (refine sS ?_; clear H; intro _ H) | (refine sB ?_; clear H; intro _ _ H) | (refine sA ?_; clear H; intro _ _ H))
      refine bodyPost_ret (res_row_tmp rfl H rfl pk rfl rfl) rfl ⟨?_, H.nix⟩
      simp [Wt.rep, ha, WtV, ← HN.out.1, ← HN.out.2, hmi]
      try (have := HN.out.2; rw [ha, Nat.zero_mul] at this; exact this)
end Go.Proofs.Ytijnhpaafhcndaa
end
section
namespace Go.Proofs.Ytijnhpaafhcndaa
theorem PP_pos : 0 < PP := Nat.lt_trans Nat.one_pos one_PP
theorem dloop_snd (k : Nat) : ∀ rv rs dv ds, rs < PP → (dloop rv rs dv ds k).2 = rs * ds ^ k % PP := by
  induction k using Nat.strongRecOn with
  | _ k ih =>
    intro rv rs dv ds hr
    match k with
    | 0 => simp [dloop, Nat.mod_eq_of_lt hr]
    | k + 1 =>
      rw [dloop]
      have hlt : (k + 1) / 2 < k + 1 := by omega
      have key : ∀ q, q * (js ds ds) ^ ((k + 1) / 2) % PP = q * ds ^ (2 * ((k + 1) / 2)) % PP := fun q => by
        unfold js
        rw [Nat.mul_mod, ← Nat.pow_mod, ← Nat.pow_two, ← Nat.pow_mul, ← Nat.mul_mod]
      by_cases hodd : (k + 1) % 2 = 1
      · rw [if_pos hodd, ih _ hlt _ _ _ _ (show js rs ds < PP from Nat.mod_lt _ PP_pos), key, js, Nat.mod_mul_mod, Nat.mul_assoc, ← Nat.pow_succ', Nat.succ_eq_add_one, show 2 * ((k + 1) / 2) + 1 = k + 1 by omega]
      · rw [if_neg hodd, ih _ hlt _ _ _ _ hr, key, show 2 * ((k + 1) / 2) = k + 1 by omega]
theorem dloop_fst (k : Nat) : ∀ rv rs dv ds, rv < PP → (dloop rv rs dv ds k).1 < PP := by
  induction k using Nat.strongRecOn with
  | _ k ih =>
    intro rv rs dv ds hr
    match k with
    | 0 => simpa [dloop] using hr
    | k + 1 =>
      rw [dloop]
      split
      · exact ih _ (by omega) _ _ _ _ (Nat.mod_lt _ PP_pos)
      · exact ih _ (by omega) _ _ _ _ hr
theorem lt_PP {x : Nat} (h : x < PP) : x < 2305843009213693951 := by rw [PP_eq] at h; exact h
theorem Wt.letter_ok (b : Nat) (hb : b < 256) : (Wt.letter b).Ok := by
  unfold Wt.letter
  split
  · exact ⟨by simp, by simp, by simp, by simp; omega, by simp, by simp [Nat.mod_eq_of_lt (show 1103515245 < PP by rw [PP_eq]; omega)]⟩
  · exact ⟨by simp, by simp, by simp, by simp; omega, by simp, by simp [Nat.mod_eq_of_lt (show 1103515245 < PP by rw [PP_eq]; omega)]⟩
theorem Wt.join_ok {a b : Wt} (ha : a.Ok) (hb : b.Ok) (h : a.len + b.len ≤ 1152921504606846976) : (a.join b).Ok := by
  obtain ⟨a1, a2, a3, a4, a5, a6⟩ := ha
  obtain ⟨b1, b2, b3, b4, b5, b6⟩ := hb
  refine ⟨h, fun h0 => ?_, fun h0 => ?_, lt_PP (Nat.mod_lt _ PP_pos), fun h0 => ?_, ?_⟩
  · simp only [Wt.join] at h0 ⊢
    have h1 : a.lines = 0 := by omega
    have h2 : b.lines = 0 := by omega
    simp only [h1, h2, if_true]
    have := a2 h1; have := b2 h2
    omega
  · simp only [Wt.join] at h0 ⊢
    rcases Nat.eq_zero_or_pos a.lines with h1 | h1 <;> rcases Nat.eq_zero_or_pos b.lines with h2 | h2
    · omega
    · have := a2 h1; have := b3 h2
      simp only [h1, if_true, Nat.ne_of_gt h2, if_false]
      omega
    · have := a3 h1; have := b2 h2
      simp only [h2, if_true, Nat.ne_of_gt h1, if_false]
      omega
    · have := a3 h1; have := b3 h2
      simp only [Nat.ne_of_gt h1, Nat.ne_of_gt h2, if_false]
      omega
  · simp only [Wt.join] at h0 ⊢
    have e1 := a5 (by omega)
    have e2 := b5 (by omega)
    rw [e1, e2]
    simp [jv]
  · simp only [Wt.join, js, a6, b6]
    rw [← Nat.mul_mod, ← Nat.pow_add]
theorem Wt.rep_ok {x : Wt} (hx : x.Ok) (hp : 0 < x.len) {k : Nat} (hk : 2 ≤ k) (h : x.len * k ≤ 1152921504606846976) : (x.rep k).Ok := by
  obtain ⟨a1, a2, a3, a4, a5, a6⟩ := hx
  refine ⟨h, fun h0 => ?_, fun h0 => ?_, lt_PP (dloop_fst _ _ _ _ _ PP_pos), fun h0 => ?_, ?_⟩
  · simp only [Wt.rep] at h0 ⊢
    have : x.lines = 0 := by
      rcases Nat.mul_eq_zero.1 h0 with h1 | h1
      · exact h1
      · omega
    simp [this]
  · simp only [Wt.rep] at h0 ⊢
    have hl : 0 < x.lines := Nat.pos_of_mul_pos_right h0 |> fun _ => by
      rcases Nat.eq_zero_or_pos x.lines with h1 | h1
      · rw [h1, Nat.zero_mul] at h0; omega
      · exact h1
    obtain ⟨h1, _⟩ := a3 hl
    simp only [Nat.ne_of_gt hl, if_false]
    have h2 : (x.head + x.tail + x.lines) * k ≤ x.len * k := Nat.mul_le_mul_right k h1
    have h3 : x.head + x.tail ≤ (x.head + x.tail) * k := Nat.le_mul_of_pos_right _ (by omega)
    have h4 : (x.head + x.tail + x.lines) * k = (x.head + x.tail) * k + x.lines * k := by rw [Nat.add_mul]
    have h5 : 2 ≤ x.lines * k := Nat.le_trans hk (Nat.le_mul_of_pos_left k hl)
    exact ⟨by omega, fun h6 => by omega⟩
  · simp only [Wt.rep] at h0
    rcases Nat.mul_eq_zero.1 h0 with h1 | h1 <;> omega
  · simp only [Wt.rep]
    rw [dloop_snd _ _ _ _ _ one_PP, Nat.one_mul, a6, ← Nat.pow_mod, ← Nat.pow_mul]
end Go.Proofs.Ytijnhpaafhcndaa
end
section
namespace Go.Proofs.Ytijnhpaafhcndaa
open Go.RowKit Go.Maps
attribute [local go_sem] InGr
set_option maxHeartbeats 2000000
set_option maxRecDepth 100000
set_option linter.unusedSimpArgs false
set_option linter.unusedVariables false
structure Rl where
  kind : Nat
  letter : Nat
  left : Nat
  right : Nat
  times : Nat
  deriving DecidableEq, Inhabited
def ruleL (r : Rl) : List Value := [.int .i64 r.kind, .int .u8 r.letter, .int .i64 r.left, .int .i64 r.right, .int .i64 r.times]
structure En where
  r : Rl
  w : Wt
  depth : Nat
  even : Bool
def enL (e : En) : List Value := [.int .i64 e.r.kind, .int .u8 e.r.letter, .int .i64 e.r.left, .int .i64 e.r.right, .int .i64 e.r.times,
  .int .i64 e.w.len, .int .i64 e.w.lines, .int .i64 e.w.head, .int .i64 e.w.tail, .int .u64 e.w.val, .int .u64 e.w.scale, .int .i64 e.depth, .bool e.even]
theorem enL_len (e : En) : (enL e).length = 13 := rfl
structure Sto where
  most : Nat
  list : List En
def idsL (l : List En) : List (Value × Value) := l.zipIdx.map fun p => (.agg (ruleL p.1.r).toArray, .int .i64 ((p.2 : Int) + 1))
def stoA (p : Nat) (lv : Value) (m : Nat) (S : Sto) : As :=
  (blk p (.cells #[.int .i64 S.most, lv, .map (some m)] 113)).sep ((rowsA enL 128 13 lv S.list).sep (mapA Try.prog 100 m (idsL S.list)))
theorem stoA_ks {p m : Nat} {lv : Value} {S : Sto} {w : World} (h : (stoA p lv m S).ho w) : Ks w [] [rowsA enL 128 13 lv S.list, mapA Try.prog 100 m (idsL S.list), blk p (.cells #[.int .i64 S.most, lv, .map (some m)] 113)] := by
  have k := (Ks.one h).sep
  obtain ⟨k1, k2⟩ := k
  have k' : Ks w [] [(rowsA enL 128 13 lv S.list).sep (mapA Try.prog 100 m (idsL S.list)), blk p (.cells #[.int .i64 S.most, lv, .map (some m)] 113)] :=
    ⟨fun A hA => k1 A (by simp at hA ⊢; rcases hA with h | h <;> simp [h]), fun A hA => k2 A (by simp at hA ⊢; rcases hA with h | h <;> simp [h])⟩
  exact k'.sep
theorem stoA_rows {p m : Nat} {lv : Value} {S : Sto} {w : World} (h : (stoA p lv m S).ho w) : (rowsA enL 128 13 lv S.list).ho w := (stoA_ks h).ho _ (by simp)
theorem stoA_shape {p m : Nat} {lv : Value} {S : Sto} {w : World} (h : (stoA p lv m S).ho w) : ∃ a c, lv = .slice a S.list.length c ∧ S.list.length ≤ maxLen := rowsA_shape (stoA_rows h)
theorem known_c {p m : Nat} {lv : Value} {S : Sto} (z : Int) (w : World) (hs : (stoA p lv m S).ho w) (b : Bool) (hb : b = decide (0 ≤ z ∧ z ≤ S.list.length)) :
    Calls Try.prog 61 #[.pointer (some ⟨p, 0, none⟩), .int .i64 z] w fun e w' => e = .returned (.bool b) ∧ w' = w := by
  have HB := Lib.hid hb
  clear hb
  have HK := stoA_ks hs
  obtain ⟨a, c, rfl, hm⟩ := stoA_shape hs
  have H := St.nil w []
  clear hs
  go_enter Try.func61, Try.ntmps61
  by_cases h0 : 0 ≤ z
  · go_wp2_with (first | refine sL ?_)
    go_ret
    exact ⟨by rw [HB.out]; simp [h0], rfl⟩
  · go_wp2_with (first | refine sL ?_)
    go_ret
    exact ⟨by rw [HB.out]; simp; omega, rfl⟩
theorem known_yes {p m : Nat} {lv : Value} {S : Sto} (z : Int) (w : World) (hs : (stoA p lv m S).ho w) (h0 : 0 ≤ z) (h1 : z ≤ S.list.length) :
    Calls Try.prog 61 #[.pointer (some ⟨p, 0, none⟩), .int .i64 z] w fun e w' => e = .returned (.bool true) ∧ w' = w := known_c z w hs true (by simp [h0, h1])
theorem known_no {p m : Nat} {lv : Value} {S : Sto} (z : Int) (w : World) (hs : (stoA p lv m S).ho w) (h : ¬ (0 ≤ z ∧ z ≤ S.list.length)) :
    Calls Try.prog 61 #[.pointer (some ⟨p, 0, none⟩), .int .i64 z] w fun e w' => e = .returned (.bool false) ∧ w' = w := known_c z w hs false (by simp [h])
theorem len_c {p m : Nat} {lv : Value} {S : Sto} (w : World) (hs : (stoA p lv m S).ho w) :
    Calls Try.prog 66 #[.pointer (some ⟨p, 0, none⟩)] w fun e w' => e = .returned (.int .i64 S.list.length) ∧ w' = w := by
  have HK := stoA_ks hs
  obtain ⟨a, c, rfl, hm⟩ := stoA_shape hs
  have H := St.nil w []
  clear hs
  go_enter Try.func66, Try.ntmps66
  go_wp2_with (first | refine sL ?_)
  go_ret
  exact ⟨rfl, rfl⟩
def En.unit : En := ⟨⟨0, 0, 0, 0, 0⟩, ⟨0, 0, 0, 0, 0, 1⟩, 0, true⟩
theorem wunit_l (w : World) : Calls Try.prog 90 #[] w fun e w' => e = .returned (.agg #[.int .i64 (0 : Nat), .int .i64 (0 : Nat), .int .i64 (0 : Nat), .int .i64 (0 : Nat), .int .u64 (0 : Nat), .int .u64 (1 : Nat)]) ∧ St w [] [] w' := wunit_c w
theorem at_zero {p m : Nat} {lv : Value} {S : Sto} (w : World) (hs : (stoA p lv m S).ho w) :
    Calls Try.prog 62 #[.pointer (some ⟨p, 0, none⟩), .int .i64 0] w fun e w' => e = .returned (.agg (enL En.unit).toArray) ∧ St w [] [] w' := by
  have H := St.nil w []
  clear hs
  go_enter Try.func62, Try.ntmps62
  go_wp2_with (first | refine sL ?_ | (refine sS ?_; clear H; intro _ H) | (refine sA ?_; clear H; intro _ _ H) | (go_at_call 90; refine (wunit_l _).mono ?_; rintro e wc ⟨rfl, hb⟩; replace H := H.grew hb.below; clear hb))
  exact bodyPost_ret (res_row rfl H rfl pk rfl) rfl ⟨rfl, H.nix⟩
theorem at_c {p m : Nat} {lv : Value} {S : Sto} {i : Nat} {x : En} (hx : S.list[i]? = some x) (z : Int) (hz : z = i + 1) (w : World) (hs : (stoA p lv m S).ho w) :
    Calls Try.prog 62 #[.pointer (some ⟨p, 0, none⟩), .int .i64 z] w fun e w' => e = .returned (.agg (enL x).toArray) ∧ St w [] [] w' := by
  subst hz
  have HK := stoA_ks hs
  have hi := getElem_len hx
  obtain ⟨g, c, rfl, hc, hm⟩ := rowsA_cases (stoA_rows hs) (by omega)
  unfold maxLen at hm
  have HE := Lib.hid hx
  have H := St.nil w []
  clear hs hx
  go_enter Try.func62, Try.ntmps62
  go_wp2_with (first | refine sL ?_ | (refine sS ?_; clear H; intro _ H) | (refine sA ?_; clear H; intro _ _ H) | ((with_reducible refine isLoad ?_); refine AtLoad.rngT rfl rfl rfl (H.rng HK pk enL_len HE.out) rfl ?_; simp only [Act.put, puA, puB, puC]))
  exact bodyPost_ret (res_row rfl H rfl pk rfl) rfl ⟨rfl, H.nix⟩
def enAt (S : Sto) : Nat → Option En
  | 0 => some En.unit
  | i + 1 => S.list[i]?
theorem enAt_le {S : Sto} {i : Nat} {x : En} (h : enAt S i = some x) : i ≤ S.list.length := by
  cases i with
  | zero => omega
  | succ i => have := getElem_len h; omega
theorem at_any {p m : Nat} {lv : Value} {S : Sto} {i : Nat} {x : En} (hx : enAt S i = some x) (w : World) (hs : (stoA p lv m S).ho w) :
    Calls Try.prog 62 #[.pointer (some ⟨p, 0, none⟩), .int .i64 (i : Int)] w fun e w' => e = .returned (.agg #[.int .i64 x.r.kind, .int .u8 x.r.letter, .int .i64 x.r.left, .int .i64 x.r.right, .int .i64 x.r.times,
  .int .i64 x.w.len, .int .i64 x.w.lines, .int .i64 x.w.head, .int .i64 x.w.tail, .int .u64 x.w.val, .int .u64 x.w.scale, .int .i64 x.depth, .bool x.even]) ∧ St w [] [] w' := by
  cases i with
  | zero =>
    simp only [enAt, Option.some.injEq] at hx
    subst hx
    exact at_zero w hs
  | succ i => exact at_c hx _ (by simp) w hs
theorem weight_c {p m : Nat} {lv : Value} {S : Sto} {i : Nat} {x : En} (hx : enAt S i = some x) (w : World) (hs : (stoA p lv m S).ho w) :
    Calls Try.prog 30 #[.pointer (some ⟨p, 0, none⟩), .int .i64 (i : Int)] w fun e w' => e = .returned (.tuple #[.agg (WtV x.w), .nilIface]) ∧ St w [] [] w' := by
  have HE := Lib.hid hx
  have HS := Lib.hid hs
  have hle := enAt_le hx
  clear hx hs
  have H := St.nil w []
  go_enter Try.func30, Try.ntmps30
  go_wp2_with (first | (refine sS ?_; clear H; intro _ H) | (refine sA ?_; clear H; intro _ _ H) | refine sF ?_ | (go_at_call 61; refine same (known_yes i _ (H.old HS.out (by simp)) (by omega) (by omega)) ?_) | (go_at_call 62; refine (at_any HE.out _ (H.old HS.out (by simp))).mono ?_; rintro e wc ⟨rfl, hb⟩; replace H := H.grew hb.below; clear hb))
  exact bodyPost_ret (res_row_tmp rfl H rfl pk rfl rfl) rfl ⟨rfl, H.nix⟩
theorem weight_no {p m : Nat} {lv : Value} {S : Sto} (z : Int) (hz : ¬ (0 ≤ z ∧ z ≤ S.list.length)) (w : World) (hs : (stoA p lv m S).ho w) :
    Calls Try.prog 30 #[.pointer (some ⟨p, 0, none⟩), .int .i64 z] w fun e w' => e = .returned (.tuple #[.agg #[.int .i64 0, .int .i64 0, .int .i64 0, .int .i64 0, .int .u64 0, .int .u64 0], EV 1]) ∧ St w [] [] w' := by
  have HZ := Lib.hid hz
  have HS := Lib.hid hs
  clear hz hs
  have H := St.nil w []
  go_enter Try.func30, Try.ntmps30
  go_wp2_with (first | (refine sS ?_; clear H; intro _ H) | (refine sA ?_; clear H; intro _ _ H) | refine sF ?_ | (go_at_call 61; refine same (known_no z _ (H.old HS.out (by simp)) HZ.out) ?_))
  exact bodyPost_ret (res_row_tmp rfl H rfl pk rfl rfl) rfl ⟨rfl, H.nix⟩
theorem rule_c {p m : Nat} {lv : Value} {S : Sto} {i : Nat} {x : En} (hx : S.list[i]? = some x) (z : Int) (hz : z = i + 1) (w : World) (hs : (stoA p lv m S).ho w) :
    Calls Try.prog 45 #[.pointer (some ⟨p, 0, none⟩), .int .i64 z] w fun e w' => e = .returned (.tuple #[.agg (ruleL x.r).toArray, .nilIface]) ∧ St w [] [] w' := by
  subst hz
  have HS := Lib.hid hs
  have HK := stoA_ks hs
  have hi := getElem_len hx
  obtain ⟨g, c, rfl, hc, hm⟩ := rowsA_cases (stoA_rows hs) (by omega)
  unfold maxLen at hm
  have HE := Lib.hid hx
  have H := St.nil w []
  clear hs hx
  go_enter Try.func45, Try.ntmps45
  go_wp2_with (first | refine sL ?_ | (refine sS ?_; clear H; intro _ H) | (refine sA ?_; clear H; intro _ _ H) | (go_at_call 61; refine same (known_yes (i + 1) _ (H.old HS.out (by simp)) (by omega) (by omega)) ?_) | ((with_reducible refine isLoad ?_); refine AtLoad.segT rfl rfl rfl rfl (o := 0) (H.rng HK pk enL_len HE.out) rfl ?_; simp only [Act.put, puA, puB, puC]))
  exact bodyPost_ret (res_row_tmp rfl H rfl pk rfl rfl) rfl ⟨rfl, H.nix⟩
theorem rule_no {p m : Nat} {lv : Value} {S : Sto} (z : Int) (hz : ¬ (0 < z ∧ z ≤ S.list.length)) (w : World) (hs : (stoA p lv m S).ho w) :
    Calls Try.prog 45 #[.pointer (some ⟨p, 0, none⟩), .int .i64 z] w fun e w' => e = .returned (.tuple #[.agg #[.int .i64 0, .int .u8 0, .int .i64 0, .int .i64 0, .int .i64 0], EV 1]) ∧ St w [] [] w' := by
  have HZ := Lib.hid hz
  have HS := Lib.hid hs
  clear hs
  have H := St.nil w []
  by_cases h0 : z = 0
  · subst h0
    clear hz
    go_enter Try.func45, Try.ntmps45
    go_wp2_with (first | refine sL ?_ | (refine sS ?_; clear H; intro _ H) | (refine sA ?_; clear H; intro _ _ H))
    exact bodyPost_ret (res_row_tmp rfl H rfl pk rfl rfl) rfl ⟨rfl, H.nix⟩
  · have h1 : (z == 0) = false := by simpa using h0
    clear hz h0
    go_enter Try.func45, Try.ntmps45
    have hz' : ¬ (0 ≤ z ∧ z ≤ S.list.length) := fun h => HZ.out ⟨by simp at h1; omega, h.2⟩
    have HZ2 := Lib.hid hz'
    clear hz'
    go_wp2_with (first | refine sL ?_ | (refine sS ?_; clear H; intro _ H) | (refine sA ?_; clear H; intro _ _ H) | (go_at_call 61; refine same (known_no z _ (H.old HS.out (by simp)) HZ2.out) ?_))
    exact bodyPost_ret (res_row_tmp rfl H rfl pk rfl rfl) rfl ⟨rfl, H.nix⟩
end Go.Proofs.Ytijnhpaafhcndaa
end
section
namespace Go.Proofs.Ytijnhpaafhcndaa
open Go.RowKit Go.Maps
set_option maxHeartbeats 2000000
set_option maxRecDepth 100000
set_option linter.unusedSimpArgs false
set_option linter.unusedVariables false
structure Rl.Fits (r : Rl) : Prop where
  kind : r.kind < 9223372036854775808
  letter : r.letter < 256
  left : r.left < 9223372036854775808
  right : r.right < 9223372036854775808
  times : r.times < 9223372036854775808
def ruleV (r : Rl) : Value := .agg #[.int .i64 r.kind, .int .u8 r.letter, .int .i64 r.left, .int .i64 r.right, .int .i64 r.times]
theorem ruleV_inj {a b : Rl} (h : ruleV a = ruleV b) : a = b := by
  obtain ⟨a1, a2, a3, a4, a5⟩ := a
  obtain ⟨b1, b2, b3, b4, b5⟩ := b
  simp only [ruleV, Value.agg.injEq] at h
  have h := congrArg Array.toList h
  simp at h
  obtain ⟨h1, h2, h3, h4, h5⟩ := h
  rw [Rl.mk.injEq]
  omega
theorem wf_i64 (n : Nat) (h : n < 9223372036854775808) : (Lit.int .i64 n).wf = true := by
  simp only [Lit.wf, Bool.and_eq_true, decide_eq_true_eq, IntKind.min, IntKind.max, IntKind.signed, IntKind.bits]
  simp
  omega
theorem wf_u8 (n : Nat) (h : n < 256) : (Lit.int .u8 n).wf = true := by
  simp only [Lit.wf, Bool.and_eq_true, decide_eq_true_eq, IntKind.min, IntKind.max, IntKind.signed, IntKind.bits]
  simp
  omega
theorem rule_key_any {P : Program} {k t5 t3 t32 d : Nat} {f0 f1 f2 f3 f4 : Field} (hu : P.underlying k = some (.struct #[f0, f1, f2, f3, f4])) (h1 : P.keyType k = true) (h2 : P.cellsOf k = 5) (h3 : P.cellsOf t3 = 1) (h4 : P.cellsOf t5 = 1) (h5 : P.cellsOf t32 = 1)
    (u1 : P.underlying t3 = some (.int .i64)) (u2 : P.underlying t5 = some (.int .u8)) (u3 : P.underlying t32 = some (.int .i64)) (hd : P.types.size = d + 1)
    (n : ((f0.name != "_") && (f1.name != "_") && (f2.name != "_") && (f3.name != "_") && (f4.name != "_")) = true) (e : f0.type = t3 ∧ f1.type = t5 ∧ f2.type = t32 ∧ f3.type = t32 ∧ f4.type = t3) (o : f0.offset = 0 ∧ f1.offset = 1 ∧ f2.offset = 2 ∧ f3.offset = 3 ∧ f4.offset = 4)
    (r : Rl) (h : r.Fits) : ∃ l, keyOf P k (ruleV r) = some l := by
  obtain ⟨k1, k2, k3, k4, k5⟩ := h
  obtain ⟨e0, e1, e2, e3, e4⟩ := e
  obtain ⟨o0, o1, o2, o3, o4⟩ := o
  simp only [Bool.and_eq_true] at n
  obtain ⟨⟨⟨⟨n0, n1⟩, n2⟩, n3⟩, n4⟩ := n
  unfold keyOf ruleV
  simp [hu, h1, Value.formed, h2, Value.cells, hd, Program.keyLits, h3, h4, h5, u1, u2, u3, e0, e1, e2, e3, e4, o0, o1, o2, o3, o4, n0, n1, n2, n3, n4, wf_i64 _ k1, wf_u8 _ k2, wf_i64 _ k3, wf_i64 _ k4, wf_i64 _ k5]
theorem types_pos : ∃ d, Try.prog.types.size = d + 1 := by
  have hs : Nat.ble 1 Try.prog.types.size = true := by kernel_rfl
  have hs := Nat.le_of_ble_eq_true hs
  generalize Try.prog.types.size = n at hs
  exact ⟨n - 1, by omega⟩
theorem rule_key (r : Rl) (h : r.Fits) : ∃ l, keyOf Try.prog 100 (ruleV r) = some l := by
  obtain ⟨d, hd⟩ := types_pos
  exact rule_key_any Try.underlying100 (by kernel_rfl) (by kernel_rfl) (t3 := 3) (t5 := 5) (t32 := 32) (by kernel_rfl) (by kernel_rfl) (by kernel_rfl) (by kernel_rfl) (by kernel_rfl) (by kernel_rfl) hd (by kernel_rfl) ⟨rfl, rfl, rfl, rfl, rfl⟩ ⟨rfl, rfl, rfl, rfl, rfl⟩ r h
theorem eqFields_cons {P : Program} {d : Nat} {xs ys : Array Value} {f : Field} {fs : List Field} {k : IntKind} {a b : Int} {w : World} (hn : (f.name != "_") = true) (ht : cellTy P f.type = true) (hu : P.underlying f.type = some (.int k)) (hx : nth xs.toList f.offset = some (.int k a)) (hy : nth ys.toList f.offset = some (.int k b)) :
    (Op.eqFields (d + 1) xs ys (f :: fs)).run P w = if a = b then (Op.eqFields (d + 1) xs ys fs).run P w else .ok false w := by
  have hn' : f.name ≠ "_" := by simpa using hn
  unfold Op.eqFields
  rw [if_pos hn']
  simp only [Sem.run_bind, run_part_cell ht hx, Result.andThen_ok, run_part_cell ht hy, run_equalIn_int w d f.type k k a b hu]
  by_cases h : a = b
  · subst h; simp; cases fs <;> simp [Op.eqFields]
  · simp [h]
theorem rule_eq_any {P : Program} {t : TypeId} {f0 f1 f2 f3 f4 : Field} (hu : P.underlying t = some (.struct #[f0, f1, f2, f3, f4])) (hp : P.stoodInHeld t = false) (hg : P.eqGuardType P.depth t = false)
    (n : ((f0.name != "_") && (f1.name != "_") && (f2.name != "_") && (f3.name != "_") && (f4.name != "_")) = true) (o : f0.offset = 0 ∧ f1.offset = 1 ∧ f2.offset = 2 ∧ f3.offset = 3 ∧ f4.offset = 4)
    (c : (cellTy P f0.type && cellTy P f1.type && cellTy P f2.type && cellTy P f3.type && cellTy P f4.type) = true)
    (u0 : P.underlying f0.type = some (.int .i64)) (u1 : P.underlying f1.type = some (.int .u8)) (u2 : P.underlying f2.type = some (.int .i64)) (u3 : P.underlying f3.type = some (.int .i64)) (u4 : P.underlying f4.type = some (.int .i64)) (a b : Rl) (x y : Operand) (w : World) :
    (do eqGuard .eql t x y (ruleV a) (ruleV b); binOp .eql t (ruleV a) (ruleV b) : Sem Value).run P w = .ok (.bool (decide (a = b))) w := by
  simp only [Bool.and_eq_true] at n c
  obtain ⟨⟨⟨⟨n0, n1⟩, n2⟩, n3⟩, n4⟩ := n
  obtain ⟨⟨⟨⟨c0, c1⟩, c2⟩, c3⟩, c4⟩ := c
  obtain ⟨o0, o1, o2, o3, o4⟩ := o
  have hf : P.fieldsOf t = #[f0, f1, f2, f3, f4] := by simp [Program.fieldsOf, hu]
  unfold ruleV
  rw [Sem.run_bind, run_eqGuard_agg w .eql t x y _ _ hg, Result.andThen_ok, run_eql_struct, run_equalIn_struct w 9999 t _ _ (by rw [hf]; exact hu) hp, hf]
  show (Result.andThen ((Op.eqFields (9998 + 1) _ _ [f0, f1, f2, f3, f4]).run P w) _) = _
  rw [eqFields_cons n0 c0 u0 (a := a.kind) (b := b.kind) (by rw [o0]; rfl) (by rw [o0]; rfl), eqFields_cons n1 c1 u1 (a := a.letter) (b := b.letter) (by rw [o1]; rfl) (by rw [o1]; rfl),
    eqFields_cons n2 c2 u2 (a := a.left) (b := b.left) (by rw [o2]; rfl) (by rw [o2]; rfl), eqFields_cons n3 c3 u3 (a := a.right) (b := b.right) (by rw [o3]; rfl) (by rw [o3]; rfl),
    eqFields_cons n4 c4 u4 (a := a.times) (b := b.times) (by rw [o4]; rfl) (by rw [o4]; rfl)]
  obtain ⟨a0, a1, a2, a3, a4⟩ := a
  obtain ⟨b0, b1, b2, b3, b4⟩ := b
  simp only [Rl.mk.injEq]
  by_cases e0 : a0 = b0 <;> by_cases e1 : a1 = b1 <;> by_cases e2 : a2 = b2 <;> by_cases e3 : a3 = b3 <;> by_cases e4 : a4 = b4 <;> simp [e0, e1, e2, e3, e4, Op.eqFields, Int.natCast_inj, Result.andThen]
theorem rule_eq (a b : Rl) (x y : Operand) (w : World) : (do eqGuard .eql 100 x y (ruleV a) (ruleV b); binOp .eql 100 (ruleV a) (ruleV b) : Sem Value).run Try.prog w = .ok (.bool (decide (a = b))) w :=
  rule_eq_any Try.underlying100 (by kernel_rfl) (by kernel_rfl) (by kernel_rfl) ⟨rfl, rfl, rfl, rfl, rfl⟩ (by kernel_rfl) (by kernel_rfl) (by kernel_rfl) (by kernel_rfl) (by kernel_rfl) (by kernel_rfl) a b x y w
def QtEql (P : Program) (ops : Array Oper) (C : World → Prop) (K : Act → Prop) (o : Oper) (_ : TypeId) (_ _ : Operand) (rest : List Oper) (a : Act) : Prop := wpQuiet P ops C K (o :: rest) a
theorem isQEql {P : Program} {ops : Array Oper} {C : World → Prop} {K : Act → Prop} {rest : List Oper} {a : Act} {dst : Option Tmp} {ty0 : TypeId} {pos : String} {aft : Array Edge} {gd : Option (Nat × Bool)} {t t2 : TypeId} {x y : Operand} (h : QtEql P ops C K ⟨dst, .binOp .eql t x y t2, ty0, pos, aft, gd⟩ t x y rest a) : wpQuiet P ops C K (⟨dst, .binOp .eql t x y t2, ty0, pos, aft, gd⟩ :: rest) a := h
theorem QtEql.rule {ops : Array Oper} {C : World → Prop} {K : Act → Prop} {rest : List Oper} {a : Act} {o1 : Oper} {t2 : TypeId} {x y : Operand} (hw : Region.wanted o1 (yielded ops a.tmps) = true) (ho : o1.op = .binOp .eql 100 x y t2) (r s : Rl) (hx : a.eval x = ruleV r) (hy : a.eval y = ruleV s) (b : Bool) (hb : decide (r = s) = b)
    (h : wpQuiet Try.prog ops C K rest (a.put o1.dst (.bool b))) : QtEql Try.prog ops C K o1 100 x y rest a :=
  wpQuiet_step fun _ hK => by
    rw [if_pos hw]
    refine ⟨.bool b, fun w2 hw2 => ?_, hK _ h⟩
    subst hb
    unfold Oper.quietAt execOp
    simp only [ho, hx, hy]
    have := rule_eq r s x y w2
    rw [Sem.run_bind, this, Result.andThen_ok]
    exact ⟨rfl, rfl⟩
def Apart (l : List En) : Prop := ∀ (i j : Nat) (x y : En), l[i]? = some x → l[j]? = some y → x.r = y.r → i = j
theorem ids_mem {l : List En} {r : Rl} {v : Value} (h : (ruleV r, v) ∈ idsL l) : ∃ (i : Nat) (x : En), l[i]? = some x ∧ x.r = r ∧ v = .int .i64 ((i : Int) + 1) := by
  unfold idsL at h
  obtain ⟨⟨x, i⟩, hm, he⟩ := List.mem_map.1 h
  simp only [Prod.mk.injEq] at he
  have := List.mem_zipIdx hm
  refine ⟨i, x, ?_, ruleV_inj he.1, he.2.symm⟩
  obtain ⟨_, h2, h3⟩ := this
  simp at h2 h3
  rw [List.getElem?_eq_getElem h2, h3]
theorem ids_all {l : List En} {e : Value × Value} (h : e ∈ idsL l) : ∃ (i : Nat) (x : En), l[i]? = some x ∧ e = (ruleV x.r, .int .i64 ((i : Int) + 1)) := by
  unfold idsL at h
  obtain ⟨⟨x, i⟩, hm, he⟩ := List.mem_map.1 h
  have := List.mem_zipIdx hm
  obtain ⟨_, h2, h3⟩ := this
  simp at h2 h3
  exact ⟨i, x, by rw [List.getElem?_eq_getElem h2, h3], he.symm⟩
theorem ids_key {l : List En} {i : Nat} {x : En} (h : l[i]? = some x) : (ruleV x.r, Value.int .i64 ((i : Int) + 1)) ∈ idsL l := by
  unfold idsL
  refine List.mem_map.2 ⟨(x, i), ?_, rfl⟩
  rw [List.mk_mem_zipIdx_iff_getElem?]
  exact h
theorem ids_snoc (l : List En) (x : En) : idsL (l ++ [x]) = idsL l ++ [(ruleV x.r, .int .i64 ((l.length : Int) + 1))] := by
  simp [idsL, List.zipIdx_append, ruleV, ruleL]
theorem look_hit {m : Nat} {l : List En} {w : World} (hm : (mapA Try.prog 100 m (idsL l)).ho w) (ha : Apart l) {i : Nat} {x : En} (hx : l[i]? = some x) (hf : x.r.Fits) :
    (Instr.lookup 110 (.map (some m)) (ruleV x.r) true).run Try.prog w = .ok (.tuple #[.int .i64 ((i : Int) + 1), .bool true]) w := by
  obtain ⟨k, hk⟩ := rule_key x.r hf
  obtain ⟨v, b, hv, hr⟩ := run_lookup_st keyed_100 hm mt_110 hk (zO_ok (t := 32) rfl) true
  rw [hr]
  rcases hv with ⟨rfl, h⟩ | ⟨rfl, rfl, h⟩
  · obtain ⟨j, y, hy, he, rfl⟩ := ids_mem h
    obtain rfl := ha j i y x hy hx he
    rfl
  · exact absurd rfl (h _ (ids_key hx))
theorem look_miss {m : Nat} {l : List En} {w : World} (hm : (mapA Try.prog 100 m (idsL l)).ho w) {r : Rl} (hn : ∀ x ∈ l, x.r ≠ r) (hf : r.Fits) :
    (Instr.lookup 110 (.map (some m)) (ruleV r) true).run Try.prog w = .ok (.tuple #[.int .i64 0, .bool false]) w := by
  obtain ⟨k, hk⟩ := rule_key r hf
  obtain ⟨v, b, hv, hr⟩ := run_lookup_st keyed_100 hm mt_110 hk (zO_ok (t := 32) rfl) true
  rw [hr]
  rcases hv with ⟨rfl, h⟩ | ⟨rfl, rfl, h⟩
  · obtain ⟨j, y, hy, he, rfl⟩ := ids_mem h
    exact absurd he (hn y (List.mem_of_getElem? hy))
  · rfl
end Go.Proofs.Ytijnhpaafhcndaa
end
section
namespace Go.Proofs.Ytijnhpaafhcndaa
open Go.RowKit Go.Maps
attribute [local go_sem] InGr
set_option maxHeartbeats 2000000
set_option maxRecDepth 100000
set_option linter.unusedSimpArgs false
set_option linter.unusedVariables false
theorem find_hit {p m : Nat} {lv : Value} {S : Sto} {i : Nat} {x : En} (hx : S.list[i]? = some x) (ha : Apart S.list) (hf : x.r.Fits) (w : World) (hs : (stoA p lv m S).ho w) :
    Calls Try.prog 82 #[.pointer (some ⟨p, 0, none⟩), ruleV x.r] w fun e w' => e = .returned (.tuple #[.int .i64 ((i : Int) + 1), .nilIface]) ∧ St w [] [] w' := by
  have HK := stoA_ks hs
  have HE := Lib.hid (And.intro hx (And.intro ha hf))
  have hi := getElem_len hx
  obtain ⟨a, c, rfl, hm⟩ := stoA_shape hs
  unfold maxLen at hm
  have H := St.nil w []
  clear hs hx ha hf
  unfold ruleV
  go_enter Try.func82, Try.ntmps82
  go_wp2_with (first | refine sL ?_ | (refine sB ?_; clear H; intro _ _ H))
  refine wp_region_h H 11 [] [] (by kernel_rfl) (by kernel_rfl) ?_
  apply Exists.intro
  refine ⟨fun w1 hw1 HX => ?_, fun bs wr Hr => ?_⟩
  · refine sG ?_
    repeat (first | refine sQ ?_ | ((with_reducible refine isQLook ?_); refine QtLook.go (kt := 0) (et := 0) rfl rfl rfl _ (fun y => look_hit ((HX y).known HK pk) HE.out.2.1 HE.out.1 HE.out.2.2) rfl ?_; simp only [Act.put, puA, puB, puC]) | go_big_quiet_step (fail))
    exact wpQuiet_nil rfl
  clear H
  have H := Hr
  clear Hr
  replace H := sH H; refine sT ?_
  go_wp2_with (first | refine sL ?_ | (refine sB ?_; clear H; intro _ _ H))
  go_ret2
  exact ⟨rfl, H.nix⟩
theorem find_miss {p m : Nat} {lv : Value} {S : Sto} (r : Rl) (hn : ∀ x ∈ S.list, x.r ≠ r) (hf : r.Fits) (w : World) (hs : (stoA p lv m S).ho w) (hmost : S.most < 9223372036854775808) :
    Calls Try.prog 82 #[.pointer (some ⟨p, 0, none⟩), ruleV r] w fun e w' => e = .returned (.tuple #[.int .i64 0, if S.most ≤ S.list.length then EV 3 else .nilIface]) ∧ St w [] [] w' := by
  have HK := stoA_ks hs
  have HE := Lib.hid (And.intro hn hf)
  obtain ⟨a, c, rfl, hm⟩ := stoA_shape hs
  unfold maxLen at hm
  have H := St.nil w []
  clear hs hn hf
  unfold ruleV
  go_enter Try.func82, Try.ntmps82
  go_wp2_with (first | refine sL ?_ | (refine sB ?_; clear H; intro _ _ H))
  refine wp_region_h H 11 [] [] (by kernel_rfl) (by kernel_rfl) ?_
  apply Exists.intro
  refine ⟨fun w1 hw1 HX => ?_, fun bs wr Hr => ?_⟩
  · refine sG ?_
    repeat (first | refine sQ ?_ | ((with_reducible refine isQLook ?_); refine QtLook.go (kt := 0) (et := 0) rfl rfl rfl _ (fun y => look_miss ((HX y).known HK pk) HE.out.1 HE.out.2) rfl ?_; simp only [Act.put, puA, puB, puC]) | go_big_quiet_step (fail))
    exact wpQuiet_nil rfl
  clear H
  have H := Hr
  clear Hr
  replace H := sH H; refine sT ?_
  by_cases h : S.most ≤ S.list.length
  · go_wp2_with (first | refine sL ?_ | (refine sB ?_; clear H; intro _ _ H))
    refine wp_region_h H 10 [] [] (by kernel_rfl) (by kernel_rfl) ?_
    apply Exists.intro
    refine ⟨fun w1 hw1 HX => ?_, fun bs wr Hr => ?_⟩
    · refine sG ?_
      repeat (first | refine sQ ?_ | fail | go_big_quiet_step (fail))
      exact wpQuiet_nil rfl
    clear H
    have H := Hr
    clear Hr
    replace H := sH H; refine sT ?_
    go_wp2_with (first | refine sL ?_ | (refine sB ?_; clear H; intro _ _ H))
    go_ret2
    exact ⟨rfl, H.nix⟩
  · go_wp2_with (first | refine sL ?_ | (refine sB ?_; clear H; intro _ _ H))
    refine wp_region_h H 10 [] [] (by kernel_rfl) (by kernel_rfl) ?_
    apply Exists.intro
    refine ⟨fun w1 hw1 HX => ?_, fun bs wr Hr => ?_⟩
    · refine sG ?_
      repeat (first | refine sQ ?_ | fail | go_big_quiet_step (fail))
      exact wpQuiet_nil rfl
    clear H
    have H := Hr
    clear Hr
    replace H := sH H; refine sT ?_
    go_wp2_with (first | refine sL ?_ | (refine sB ?_; clear H; intro _ _ H))
    go_ret2
    exact ⟨rfl, H.nix⟩
theorem stoA_open {p m : Nat} {lv : Value} {S : Sto} {w0 w : World} {M : List Nat} {R : List As} (h : St w0 M (stoA p lv m S :: R) w) :
    St w0 M (blk p (.cells #[.int .i64 S.most, lv, .map (some m)] 113) :: rowsA enL 128 13 lv S.list :: mapA Try.prog 100 m (idsL S.list) :: R) w := by
  have h1 := St.sep (A := blk p (.cells #[.int .i64 S.most, lv, .map (some m)] 113)) h
  exact (St.sep (h1.perm (List.Perm.swap _ _ _))).perm ((List.Perm.cons _ (List.Perm.swap _ _ _)).trans (List.Perm.swap _ _ _))
theorem stoA_shut {p m n : Nat} {lv : Value} {l : List En} {es : List (Value × Value)} {w0 w : World} {M : List Nat} {R : List As} (h : St w0 M (blk p (.cells #[.int .i64 (n : Nat), lv, .map (some m)] 113) :: rowsA enL 128 13 lv l :: mapA Try.prog 100 m es :: R) w) (he : es = idsL l) :
    St w0 M (stoA p lv m ⟨n, l⟩ :: R) w := by
  subst he
  have h1 := h.perm ((List.Perm.swap _ _ _).trans (List.Perm.cons _ (List.Perm.swap _ _ _)))
  have h2 := (St.join h1).perm (List.Perm.swap _ _ _)
  exact St.join h2
theorem enL_one (x : En) : ∀ u ∈ enL x, u.oneCell' = true := by
  intro u hu
  simp only [enL, List.mem_cons, List.not_mem_nil, or_false] at hu
  rcases hu with rfl | rfl | rfl | rfl | rfl | rfl | rfl | rfl | rfl | rfl | rfl | rfl | rfl <;> rfl
def Added (p m : Nat) (M : List Nat) (S : Sto) (x : En) (w : World) (e : Ending) (w' : World) : Prop := ∃ lv, e = .returned (.int .i64 ((S.list.length : Int) + 1)) ∧ St w M [stoA p lv m ⟨S.most, S.list ++ [x]⟩] w'
theorem add_st {p m : Nat} {lv : Value} {S : Sto} (x : En) (hn : ∀ y ∈ S.list, y.r ≠ x.r) (hf : x.r.Fits) (hl : S.list.length < 1048576) (w : World) (hs : (stoA p lv m S).ho w) :
    Calls Try.prog 83 #[.pointer (some ⟨p, 0, none⟩), .agg (enL x).toArray] w (Added p m (stoA p lv m S).fp S x w) := by
  have H := stoA_open (St.one hs)
  generalize (stoA p lv m S).fp = M at H ⊢
  obtain ⟨l, hk⟩ := rule_key x.r hf
  have HN := Lib.hid (And.intro (show ∀ e ∈ idsL S.list, e.1 ≠ ruleV x.r from fun e he => by obtain ⟨i, y, hy, rfl⟩ := ids_all he; exact fun h => hn y (List.mem_of_getElem? hy) (ruleV_inj h)) hk)
  obtain ⟨a, c, rfl, hm⟩ := stoA_shape hs
  clear hs hn hf hk hm
  go_enter Try.func83, Try.ntmps83
  go_wp2_with (first | refine sL ?_ | (refine sS ?_; clear H; intro _ H) | (refine sB ?_; clear H; intro _ _ H))
  refine wp_region_h1 H 7 [(6, 128, (enL x).toArray, some 1)] [(6, 12)] 0 (by kernel_rfl) (by kernel_rfl) (by kernel_rfl) ⟨_, _, rfl, rfl, rfl⟩ (fun _ _ _ _ h => h) ?_
  apply Exists.intro
  refine ⟨fun w1 hw1 HX => ?_, fun bs wr Hr => ?_⟩
  · refine sG ?_
    repeat (first | refine sQ ?_ | fail | go_big_quiet_step (fail))
    apply wpQuiet_nil
    first | refine ⟨fstep_allocT rfl rfl hw1 rfl rfl, ?_⟩ | refine ⟨fstep_slice1 rfl rfl rfl rfl rfl rfl rfl rfl rfl hw1, ?_⟩
    simp only [Act.put, puA, puB, puC]
    repeat (first | refine sQ ?_ | fail | go_big_quiet_step (fail))
    exact wpQuiet_nil rfl
  clear H
  have H := Hr
  clear Hr
  replace H := sH H; refine sT ?_
  go_wp2_with (first | refine sL ?_ | (refine sS ?_; clear H; intro _ H) | (refine sB ?_; clear H; intro _ _ H) | ((with_reducible refine isAppend ?_); refine AtAppend.go (enc := enL) H rfl rfl rfl rfl rfl (by decide) (by decide) rfl pk rfl (H.at pk) [x] rfl (by simp [flatG]) enL_len enL_one (by simp; omega) ?_; clear H; intro ad cp _ H; simp only [Act.put, puA, puB, puC]))
  refine wp_region_h H 7 [] [] (by kernel_rfl) (by kernel_rfl) ?_
  apply Exists.intro
  refine ⟨fun w1 hw1 HX => ?_, fun bs wr Hr => ?_⟩
  · refine sG ?_
    repeat (first | refine sQ ?_ | fail | go_big_quiet_step (fail))
    exact wpQuiet_nil rfl
  clear H
  have H := Hr
  clear Hr
  replace H := sH H; refine sT ?_
  go_wp2_with (first | refine sL ?_ | (refine sS ?_; clear H; intro _ H) | (refine sB ?_; clear H; intro _ _ H) | ((with_reducible refine isUpdate ?_); refine AtUpdate.new keyed_100 mt_110 H rfl rfl rfl pk (k := ruleV x.r) rfl rfl HN.out.2 HN.out.1 ?_; clear H; intro _ H; simp only [Act.put, puA, puB, puC]))
  go_ret
  exact ⟨.slice ad (S.list.length + 1) cp, rfl, (stoA_shut (H.pick3 (A := blk p (.cells #[.int .i64 S.most, .slice ad (S.list.length + 1) cp, .map (some m)] 113)) pk (B := rowsA enL 128 13 (.slice ad (S.list.length + 1) cp) (S.list ++ [x])) pk
    (C := mapA Try.prog 100 m (idsL S.list ++ [(ruleV x.r, .int .i64 ((S.list.length : Int) + 1))])) pk) (ids_snoc _ _).symm).onlyHead⟩
end Go.Proofs.Ytijnhpaafhcndaa
end
section
namespace Go.Proofs.Ytijnhpaafhcndaa
set_option linter.unusedSimpArgs false
set_option linter.unusedVariables false
def maxT : Nat := 1152921504606846976
theorem maxT_eq : maxT = 1152921504606846976 := rfl
def letterE (b : Nat) : En := ⟨⟨1, b, 0, 0, 0⟩, Wt.letter b, 0, true⟩
def pairE (x y : En) (l r : Nat) : En := ⟨⟨2, 0, l, r, 0⟩, x.w.join y.w, 1 + max x.depth y.depth, x.even && y.even && (decide (x.depth ≤ y.depth + 1) && decide (y.depth ≤ x.depth + 1))⟩
def powerE (x : En) (l k : Nat) : En := ⟨⟨3, 0, l, 0, k⟩, x.w.rep k, 1 + x.depth, false⟩
inductive EnOk (L : List En) (i : Nat) : En → Prop
  | letter (b : Nat) (h : b < 256) : EnOk L i (letterE b)
  | pair (l r : Nat) (x y : En) (hl : l < i) (hr : r < i) (hx : L[l]? = some x) (hy : L[r]? = some y) (h : x.w.len + y.w.len ≤ maxT) : EnOk L i (pairE x y (l + 1) (r + 1))
  | power (l k : Nat) (x : En) (hl : l < i) (hx : L[l]? = some x) (hk : 2 ≤ k) (h : x.w.len * k ≤ maxT) : EnOk L i (powerE x (l + 1) k)
structure Sto.Ok (S : Sto) : Prop where
  most : S.most ≤ 1048576
  len : S.list.length ≤ S.most
  apart : Apart S.list
  ents : ∀ (i : Nat) (x : En), S.list[i]? = some x → EnOk S.list i x
structure En.Good (x : En) (i : Nat) : Prop where
  fits : x.r.Fits
  wok : x.w.Ok
  pos : 0 < x.w.len
  depth : x.depth ≤ i
theorem letter_len (b : Nat) : (Wt.letter b).len = 1 := by unfold Wt.letter; split <;> rfl
theorem EnOk.good {L : List En} {i : Nat} {x : En} (hi : i < 1048576) (ih : ∀ j y, j < i → L[j]? = some y → y.Good j) (h : EnOk L i x) : x.Good i := by
  cases h with
  | letter b hb => exact ⟨⟨by simp [letterE], hb, by simp [letterE], by simp [letterE], by simp [letterE]⟩, Wt.letter_ok b hb, by simp [letterE, letter_len], by simp [letterE]⟩
  | pair l r x y hl hr hx hy h =>
    have g1 := ih l x hl hx
    have g2 := ih r y hr hy
    have h1 := g1.depth
    have h2 := g2.depth
    have p1 := g1.pos
    rw [maxT_eq] at h
    refine ⟨⟨by simp [pairE], by simp [pairE], by simp [pairE]; omega, by simp [pairE]; omega, by simp [pairE]⟩, Wt.join_ok g1.wok g2.wok h, by simp [pairE, Wt.join]; omega, by simp [pairE]; omega⟩
  | power l k x hl hx hk h =>
    have g1 := ih l x hl hx
    have h1 := g1.depth
    have p1 := g1.pos
    rw [maxT_eq] at h
    have hkm : k ≤ x.w.len * k := Nat.le_mul_of_pos_left k p1
    refine ⟨⟨by simp [powerE], by simp [powerE], by simp [powerE]; omega, by simp [powerE], by simp [powerE]; omega⟩, Wt.rep_ok g1.wok p1 hk h, by simp [powerE, Wt.rep]; omega, by simp [powerE]; omega⟩
theorem Sto.Ok.good {S : Sto} (h : S.Ok) : ∀ (i : Nat) (x : En), S.list[i]? = some x → x.Good i := by
  intro i
  induction i using Nat.strongRecOn with
  | _ i ih =>
    intro x hx
    have hi := getElem_len hx
    have := h.len
    have := h.most
    exact (h.ents i x hx).good (by omega) fun j y hj hy => ih j hj y hy
theorem EnOk.snoc {L : List En} {i : Nat} {x y : En} (hi : i ≤ L.length) (h : EnOk L i x) : EnOk (L ++ [y]) i x := by
  cases h with
  | letter b hb => exact .letter b hb
  | pair l r x y' hl hr hx hy h => exact .pair l r x y' hl hr (by rw [List.getElem?_append_left (by omega)]; exact hx) (by rw [List.getElem?_append_left (by omega)]; exact hy) h
  | power l k x hl hx hk h => exact .power l k x hl (by rw [List.getElem?_append_left (by omega)]; exact hx) hk h
def Sto.look (S : Sto) (r : Rl) : Option Nat := S.list.findIdx? fun x => decide (x.r = r)
theorem look_some {S : Sto} {r : Rl} {i : Nat} (h : S.look r = some i) : ∃ x, S.list[i]? = some x ∧ x.r = r := by
  unfold Sto.look at h
  rw [List.findIdx?_eq_some_iff_getElem] at h
  obtain ⟨h1, h2, _⟩ := h
  exact ⟨S.list[i], by simp, by simpa using h2⟩
theorem look_before {S : Sto} {r : Rl} {i : Nat} (h : S.look r = some i) : ∀ k, k < i → ∀ y, S.list[k]? = some y → y.r ≠ r := by
  unfold Sto.look at h
  rw [List.findIdx?_eq_some_iff_getElem] at h
  obtain ⟨h1, _, h3⟩ := h
  intro k hk y hy
  have := h3 k hk
  have e : S.list[k]'(by omega) = y := by rw [List.getElem?_eq_getElem (by omega)] at hy; exact Option.some.inj hy
  rw [e] at this
  simpa using this
theorem look_none {S : Sto} {r : Rl} (h : S.look r = none) : ∀ x ∈ S.list, x.r ≠ r := by
  unfold Sto.look at h
  rw [List.findIdx?_eq_none_iff] at h
  intro x hx
  simpa using h x hx
def Sto.put (S : Sto) (x : En) : (Nat × Option Nat) × Sto :=
  match S.look x.r with
  | some i => ((i + 1, none), S)
  | none => if S.most ≤ S.list.length then ((0, some 3), S) else ((S.list.length + 1, none), ⟨S.most, S.list ++ [x]⟩)
theorem Sto.put_ok {S : Sto} (h : S.Ok) {x : En} (hx : EnOk S.list S.list.length x) : (S.put x).2.Ok := by
  unfold Sto.put
  split
  · exact h
  · rename_i hn
    have hn := look_none hn
    split
    · exact h
    · rename_i hf
      refine ⟨h.most, by simp; omega, fun i j y z hy hz he => ?_, fun i y hy => ?_⟩
      · simp only at hy hz
        rw [List.getElem?_append] at hy hz
        split at hy <;> split at hz
        · exact h.apart i j y z hy hz he
        · have : z = x := by
            rename_i h1 h2
            have : j - S.list.length = 0 := by
              have := getElem_len hz; simp at this; omega
            rw [this] at hz; simpa using hz.symm
          subst this
          exact absurd he (hn y (List.mem_of_getElem? hy))
        · have : y = x := by
            rename_i h1 h2
            have : i - S.list.length = 0 := by
              have := getElem_len hy; simp at this; omega
            rw [this] at hy; simpa using hy.symm
          subst this
          exact absurd he.symm (hn z (List.mem_of_getElem? hz))
        · have := getElem_len hy
          have := getElem_len hz
          simp at *
          omega
      · simp only at hy ⊢
        rw [List.getElem?_append] at hy
        split at hy
        · rename_i h1
          exact (h.ents i y hy).snoc (by omega)
        · have := getElem_len hy
          have e : i = S.list.length := by simp at this; omega
          subst e
          simp at hy
          subst hy
          exact hx.snoc (Nat.le_refl _)
theorem Sto.put_pre (S : Sto) (x : En) : ∃ l, (S.put x).2.list = S.list ++ l := by
  unfold Sto.put
  split
  · exact ⟨[], by simp⟩
  · split
    · exact ⟨[], by simp⟩
    · exact ⟨[x], rfl⟩
def Sto.letter (S : Sto) (b : Nat) : (Nat × Option Nat) × Sto := S.put (letterE b)
def Sto.pair (S : Sto) (l r : Nat) : (Nat × Option Nat) × Sto :=
  match enAt S l, enAt S r with
  | some x, some y => if l = 0 then ((r, none), S) else if r = 0 then ((l, none), S) else if maxT < x.w.len + y.w.len then ((0, some 2), S) else S.put (pairE x y l r)
  | _, _ => ((0, some 1), S)
def Sto.power (S : Sto) (x k : Nat) : (Nat × Option Nat) × Sto :=
  match enAt S x with
  | some e => if k = 0 ∨ x = 0 then ((0, none), S) else if k = 1 then ((x, none), S) else if maxT < e.w.len * k then ((0, some 2), S) else S.put (powerE e x k)
  | none => ((0, some 1), S)
theorem enAt_some {S : Sto} {i : Nat} (h : i ≤ S.list.length) : ∃ x, enAt S i = some x := by
  cases i with
  | zero => exact ⟨_, rfl⟩
  | succ i => exact ⟨S.list[i], by simp [enAt]⟩
theorem Sto.letter_ok {S : Sto} (h : S.Ok) {b : Nat} (hb : b < 256) : (S.letter b).2.Ok := Sto.put_ok h (.letter b hb)
theorem Sto.pair_ok {S : Sto} (h : S.Ok) (l r : Nat) : (S.pair l r).2.Ok := by
  unfold Sto.pair
  split
  · rename_i x y hx hy
    split
    · exact h
    · split
      · exact h
      · split
        · exact h
        · rename_i h1 h2 h3
          obtain ⟨l, rfl⟩ := Nat.exists_eq_succ_of_ne_zero h1
          obtain ⟨r, rfl⟩ := Nat.exists_eq_succ_of_ne_zero h2
          exact Sto.put_ok h (.pair l r x y (getElem_len hx) (getElem_len hy) hx hy (by omega))
  · exact h
theorem Sto.power_ok {S : Sto} (h : S.Ok) (x k : Nat) : (S.power x k).2.Ok := by
  unfold Sto.power
  split
  · rename_i e hx
    split
    · exact h
    · split
      · exact h
      · split
        · exact h
        · rename_i h1 h2 h3
          simp at h1
          obtain ⟨x, rfl⟩ := Nat.exists_eq_succ_of_ne_zero h1.2
          exact Sto.put_ok h (.power x k e (getElem_len hx) hx (by omega) (by omega))
  · exact h
end Go.Proofs.Ytijnhpaafhcndaa
end
section
namespace Go.Proofs.Ytijnhpaafhcndaa
open Go.RowKit Go.Maps
attribute [local go_sem] InGr
set_option maxHeartbeats 2000000
set_option maxRecDepth 100000
set_option linter.unusedSimpArgs false
set_option linter.unusedVariables false
def encR (x : En) : List Value := ruleL x.r
def encN (x : En) : List Value := [.int .i64 x.w.len]
theorem encR_len (x : En) : (encR x).length = 5 := rfl
theorem encN_len (x : En) : (encN x).length = 1 := rfl
theorem encR_one (x : En) : ∀ u ∈ encR x, u.oneCell' = true := by
  intro u hu
  simp only [encR, ruleL, List.mem_cons, List.not_mem_nil, or_false] at hu
  rcases hu with rfl | rfl | rfl | rfl | rfl <;> rfl
theorem encN_one (x : En) : ∀ u ∈ encN x, u.oneCell' = true := by
  intro u hu
  simp only [encN, List.mem_cons, List.not_mem_nil, or_false] at hu
  subst hu; rfl
theorem rowsA_cell1 {α : Type} {enc : α → List Value} {e g n c i : Nat} {xs : List α} {x : α} {u : Value} {w : World} (h : (rowsA enc e 1 (.slice (some ⟨g, 0, none⟩) n c) xs).ho w) (hk : ∀ x, (enc x).length = 1) (hx : xs[i]? = some x) (hu : enc x = [u]) : w.cell? ⟨g, i, none⟩ = some u := by
  have := rowsA_cell h hk hx (j := 0) (u := u) (by rw [hu]; rfl)
  simpa using this
theorem AtLoad.cel {ops : Array Oper} {Q : Exit → Act → World → Prop} {rest : List Oper} {a : Act} {w : World} {o1 : Oper} {ty : TypeId} {x : Operand} (hw : Region.wanted o1 (yielded ops a.tmps) = true) (ho : o1.op = .load ty x) {g o : Nat} (hx : a.eval x = .pointer (some ⟨g, o, none⟩)) (hr : isCellT ty = true) {v : Value} (hc : w.cell? ⟨g, o, none⟩ = some v)
    (h : wpList Try.prog ops Q rest (a.put o1.dst v) w) : AtLoad Try.prog ops Q o1 ty x rest a w :=
  wpList_step fun _ hK => by
    rw [if_pos hw]
    have hr := isCellT_ok hr
    unfold cellTy at hr
    simp only [Bool.and_eq_true, beq_iff_eq] at hr
    have hl : (Instr.loadAt ty (.pointer (some ⟨g, o, none⟩))).run Try.prog w = .ok v w := by
      cases hu : Try.prog.underlying ty with
      | none => simp [hu] at hr
      | some d =>
        have hagg : (isAgg ty).run Try.prog w = .ok false w := by
          unfold isAgg
          rw [Sem.run_bind, run_underlying hu w]
          simp only [hu] at hr
          cases d <;> simp_all
        simp [Instr.loadAt, Instr.sureAddr, loadVar, Sem.run_bind, hagg, run_load, hc]
    unfold Oper.wp execOp
    simp only [ho, hx, Sem.run_bind, hl, Result.andThen_ok]
    exact hK _ _ h
theorem rlen_zero {vr vl : Value} (w : World) :
    Calls Try.prog 92 #[.agg #[vr, vl], .int .i64 0] w fun e w' => e = .returned (.int .i64 0) ∧ St w [] [] w' := by
  have H := St.nil w []
  go_enter Try.func92, Try.ntmps92
  go_wp2_with (first | refine sL ?_ | (refine sB ?_; clear H; intro _ _ H))
  go_ret
  exact ⟨rfl, H.nix⟩
theorem rlen_in {vr vl : Value} {l : List En} {i : Nat} {x : En} (hx : l[i]? = some x) (w : World) (h : (rowsA encN 3 1 vl l).ho w) :
    Calls Try.prog 92 #[.agg #[vr, vl], .int .i64 ((i : Int) + 1)] w fun e w' => e = .returned (.int .i64 x.w.len) ∧ St w [] [] w' := by
  have HK := Ks.one h
  have hi := getElem_len hx
  obtain ⟨g, c, rfl, hc, hm⟩ := rowsA_cases h (by omega)
  unfold maxLen at hm
  have HE := Lib.hid hx
  have H := St.nil w []
  clear h hx
  go_enter Try.func92, Try.ntmps92
  go_wp2_with (first | refine sL ?_ | (refine sB ?_; clear H; intro _ _ H) | ((with_reducible refine isLoad ?_); refine AtLoad.cel rfl rfl rfl rfl (rowsA_cell1 (H.known HK pk) encN_len HE.out rfl) ?_; simp only [Act.put, puA, puB, puC]))
  go_ret
  exact ⟨rfl, H.nix⟩
theorem radd_hit {vr vl : Value} {l : List En} {i : Nat} (r : Rl) (n : Int) (hl : (Sto.mk 0 l).look r = some i) (w : World) (h : (rowsA encR 100 5 vr l).ho w) (h2 : (rowsA encN 3 1 vl l).ho w) :
    Calls Try.prog 91 #[.agg #[vr, vl], ruleV r, .int .i64 n] w fun e w' => e = .returned (.tuple #[.agg #[vr, vl], .int .i64 ((i : Int) + 1)]) ∧ St w [] [] w' := by
  have HK := Ks.one h
  have H := St.nil w []
  obtain ⟨x, hx, hxr⟩ := look_some hl
  have hil := getElem_len hx
  simp only at hx hil
  obtain ⟨g, c, rfl, hc, hm⟩ := rowsA_cases h (by omega)
  obtain ⟨ad2, c2, rfl, hm2⟩ := rowsA_shape h2
  unfold maxLen at hm
  have HE := Lib.hid (And.intro hx hxr)
  have HN : Hid (∀ k, k < i → ∀ y, l[k]? = some y → y.r ≠ r) := Lib.hid fun k hk y hy => look_before hl k hk y hy
  clear h hl hx hxr h2 hm2
  unfold ruleV
  go_enter Try.func91, Try.ntmps91
  go_wp2_with (first | refine sL ?_ | (refine sS ?_; clear H; intro _ H) | (refine sB ?_; clear H; intro _ _ H) | (refine sA ?_; clear H; intro _ _ H))
  rename_i b3 _ b2 _ b1 w1 K0 hK0
  go_loopw [8] (fun vi wr => ∃ k : Nat, vi = .int .i64 k ∧ k ≤ i ∧ St w [] [blk b1 (.cells #[.slice none 0 0, .slice none 0 0] 76), blk b2 (.cells #[.int .i64 r.kind, .int .u8 r.letter, .int .i64 r.left, .int .i64 r.right, .int .i64 r.times] 100), blk b3 (.cells #[.slice (some ⟨g, 0, none⟩) l.length c, .slice ad2 l.length c2] 76)] wr) (fun vi _ => i - (intOf vi).toNat)
  case atStart => exact ⟨0, rfl, Nat.zero_le _, H⟩
  case round =>
    clear H
    obtain ⟨k, rfl, hk, H⟩ := hrel
    obtain ⟨x, hx⟩ : ∃ x, l[k]? = some x := ⟨l[k], by simp⟩
    have HX0 := Lib.hid hx
    clear hx
    by_cases he : k = i
    · subst he
      have hxx : x.r = r := by have := HE.out.1; rw [HX0.out] at this; obtain rfl := Option.some.inj this; exact HE.out.2
      have HXR := Lib.hid (decide_eq_true hxx)
      clear hxx
      go_wp2_with (first | refine sL ?_ | (refine sS ?_; clear H; intro _ H) | (refine sB ?_; clear H; intro _ _ H) | (refine sA ?_; clear H; intro _ _ H))
      refine wp_region_h H 7 [] [] (by kernel_rfl) (by kernel_rfl) ?_
      apply Exists.intro
      refine ⟨fun w1 hw1 HX => ?_, fun bs wr Hr => ?_⟩
      · refine sG ?_
        repeat (first | refine sQ ?_ | ((with_reducible refine isQLoad ?_); refine QtLoad.rngT (vs := [.int .i64 x.r.kind, .int .u8 x.r.letter, .int .i64 x.r.left, .int .i64 x.r.right, .int .i64 x.r.times]) rfl rfl rfl (fun y => (HX y).rng (enc := encR) HK pk encR_len HX0.out) rfl ?_; simp only [Act.put, puA, puB, puC]) | ((with_reducible refine isQEql ?_); refine QtEql.rule rfl rfl x.r r rfl rfl true HXR.out ?_; simp only [Act.put, puA, puB, puC]) | go_big_quiet_step (fail))
        exact wpQuiet_nil rfl
      clear H
      have H := Hr
      clear Hr
      replace H := sH H; refine sT ?_
      go_wp2_with (first | refine sL ?_ | (refine sS ?_; clear H; intro _ H) | (refine sB ?_; clear H; intro _ _ H) | (refine sA ?_; clear H; intro _ _ H))
      exact bodyPost_ret (res_row_tmp rfl H rfl pk rfl rfl) rfl ⟨rfl, H.nix⟩
    · have HXR := Lib.hid (decide_eq_false (HN.out k (by omega) x HX0.out))
      have hlt : k < i := by omega
      clear he
      go_wp2_with (first | refine sL ?_ | (refine sS ?_; clear H; intro _ H) | (refine sB ?_; clear H; intro _ _ H) | (refine sA ?_; clear H; intro _ _ H))
      refine wp_region_h H 7 [] [] (by kernel_rfl) (by kernel_rfl) ?_
      apply Exists.intro
      refine ⟨fun w1 hw1 HX => ?_, fun bs wr Hr => ?_⟩
      · refine sG ?_
        repeat (first | refine sQ ?_ | ((with_reducible refine isQLoad ?_); refine QtLoad.rngT (vs := [.int .i64 x.r.kind, .int .u8 x.r.letter, .int .i64 x.r.left, .int .i64 x.r.right, .int .i64 x.r.times]) rfl rfl rfl (fun y => (HX y).rng (enc := encR) HK pk encR_len HX0.out) rfl ?_; simp only [Act.put, puA, puB, puC]) | ((with_reducible refine isQEql ?_); refine QtEql.rule rfl rfl x.r r rfl rfl false HXR.out ?_; simp only [Act.put, puA, puB, puC]) | go_big_quiet_step (fail))
        exact wpQuiet_nil rfl
      clear H
      have H := Hr
      clear Hr
      replace H := sH H; refine sT ?_
      go_wp2_with (first | refine sL ?_ | (refine sS ?_; clear H; intro _ H) | (refine sB ?_; clear H; intro _ _ H) | (refine sA ?_; clear H; intro _ _ H))
      go_roundw
      case rel => exact ⟨k + 1, by go_num, by omega, H⟩
      case measure => simp [intOf]; omega
def RAdded (l : List En) (x0 : En) (w : World) (e : Ending) (w' : World) : Prop := ∃ vr vl, e = .returned (.tuple #[.agg #[vr, vl], .int .i64 ((l.length : Int) + 1)]) ∧ St w [] [rowsA encR 100 5 vr (l ++ [x0]), rowsA encN 3 1 vl (l ++ [x0])] w'
attribute [local go_sem] StStep stAt stUpon in
theorem radd_miss {vr vl : Value} {l : List En} (x0 : En) (hn : ∀ y ∈ l, y.r ≠ x0.r) (hlen : l.length ≤ 1048576) (w : World) (h : (rowsA encR 100 5 vr l).ho w) (h2 : (rowsA encN 3 1 vl l).ho w) :
    Calls Try.prog 91 #[.agg #[vr, vl], ruleV x0.r, .int .i64 x0.w.len] w (RAdded l x0 w) := by
  have HK := Ks.two h h2
  have H := St.nil w []
  obtain ⟨ad1, c1, rfl, hm⟩ := rowsA_shape h
  obtain ⟨ad2, c2, rfl, hm2⟩ := rowsA_shape h2
  have HN := Lib.hid hn
  have HC : Hid (∀ (k : Nat) x, l[k]? = some x → ∃ g c, ad1 = some ⟨g, 0, none⟩ ∧ c = c1) := Lib.hid fun k x hx => by
    obtain ⟨g, c, he, _⟩ := rowsA_cases h (by have := getElem_len hx; omega)
    injection he with e1 e2 e3
    exact ⟨g, c, e1, e3.symm⟩
  clear h hn h2 hm2 hm
  unfold ruleV
  go_enter Try.func91, Try.ntmps91
  go_wp2_with (first | refine sL ?_ | (refine sS ?_; clear H; intro _ H) | (refine sB ?_; clear H; intro _ _ H) | (refine sA ?_; clear H; intro _ _ H))
  rename_i b3 _ b2 _ b1 w1 K0 hK0
  go_loopw [8] (fun vi wr => ∃ k : Nat, vi = .int .i64 k ∧ k ≤ l.length ∧ St w [] [blk b1 (.cells #[.slice none 0 0, .slice none 0 0] 76), blk b2 (.cells #[.int .i64 x0.r.kind, .int .u8 x0.r.letter, .int .i64 x0.r.left, .int .i64 x0.r.right, .int .i64 x0.r.times] 100), blk b3 (.cells #[.slice ad1 l.length c1, .slice ad2 l.length c2] 76)] wr) (fun vi _ => l.length - (intOf vi).toNat)
  case atStart => exact ⟨0, rfl, Nat.zero_le _, H⟩
  case round =>
    clear H
    obtain ⟨k, rfl, hk, H⟩ := hrel
    by_cases he : k < l.length
    · obtain ⟨x, hx⟩ : ∃ x, l[k]? = some x := ⟨l[k], by simp⟩
      obtain ⟨g, c, rfl, rfl⟩ := HC.out k x hx
      have HX0 := Lib.hid hx
      have HXR := Lib.hid (decide_eq_false (HN.out x (List.mem_of_getElem? hx)))
      clear hx HC
      go_wp2_with (first | refine sL ?_ | (refine sS ?_; clear H; intro _ H) | (refine sB ?_; clear H; intro _ _ H) | (refine sA ?_; clear H; intro _ _ H))
      refine wp_region_h H 7 [] [] (by kernel_rfl) (by kernel_rfl) ?_
      apply Exists.intro
      refine ⟨fun w1 hw1 HX => ?_, fun bs wr Hr => ?_⟩
      · refine sG ?_
        repeat (first | refine sQ ?_ | ((with_reducible refine isQLoad ?_); refine QtLoad.rngT (vs := [.int .i64 x.r.kind, .int .u8 x.r.letter, .int .i64 x.r.left, .int .i64 x.r.right, .int .i64 x.r.times]) rfl rfl rfl (fun y => (HX y).rng (enc := encR) HK pk encR_len HX0.out) rfl ?_; simp only [Act.put, puA, puB, puC]) | ((with_reducible refine isQEql ?_); refine QtEql.rule rfl rfl x.r x0.r rfl rfl false HXR.out ?_; simp only [Act.put, puA, puB, puC]) | go_big_quiet_step (fail))
        exact wpQuiet_nil rfl
      clear H
      have H := Hr
      clear Hr
      replace H := sH H; refine sT ?_
      go_wp2_with (first | refine sL ?_ | (refine sS ?_; clear H; intro _ H) | (refine sB ?_; clear H; intro _ _ H) | (refine sA ?_; clear H; intro _ _ H))
      go_roundw
      case rel => exact ⟨k + 1, by go_num, by omega, H⟩
      case measure => simp [intOf]; omega
    · obtain rfl : k = l.length := by omega
      clear HC he
      go_wp2_with (first | refine sL ?_ | (refine sS ?_; clear H; intro _ H) | (refine sB ?_; clear H; intro _ _ H) | (refine sA ?_; clear H; intro _ _ H))
      refine wp_region_rgx H [blk b2 (.cells #[.int .i64 x0.r.kind, .int .u8 x0.r.letter, .int .i64 x0.r.left, .int .i64 x0.r.right, .int .i64 x0.r.times] 100), blk b3 (.cells #[.slice ad1 l.length c1, .slice ad2 l.length c2] 76)] 21 [⟨[], [], [], fun _ _ => True, fun v _ => [rowsA encR 100 5 v []]⟩, ⟨[], [], [], fun v _ => v = .pointer (some ⟨b3, 0, none⟩), fun _ _ => []⟩, ⟨[], [], [1], fun v _ => v = .slice ad1 l.length c1, fun _ _ => []⟩, ⟨[0], [], [2], fun _ _ => True, fun v _ => [rowsA encR 100 5 v l]⟩, ⟨[], [], [], fun v _ => v = ruleV x0.r, fun _ _ => []⟩, ⟨[], [], [4], fun _ _ => True, fun v _ => [rowsA encR 100 5 v [x0]]⟩, ⟨[3], [5], [], fun _ _ => True, fun v _ => [rowsA encR 100 5 v (l ++ [x0])]⟩, ⟨[], [], [], fun _ _ => True, fun v _ => [rowsA encN 3 1 v []]⟩, ⟨[], [], [], fun v _ => v = .pointer (some ⟨b3, 1, none⟩), fun _ _ => []⟩, ⟨[], [], [8], fun v _ => v = .slice ad2 l.length c2, fun _ _ => []⟩, ⟨[7], [], [9], fun _ _ => True, fun v _ => [rowsA encN 3 1 v l]⟩, ⟨[], [], [], fun v _ => v = .int .i64 x0.w.len, fun _ _ => []⟩, ⟨[], [], [11], fun _ _ => True, fun v _ => [rowsA encN 3 1 v [x0]]⟩, ⟨[10], [12], [], fun _ _ => True, fun v _ => [rowsA encN 3 1 v (l ++ [x0])]⟩, ⟨[], [6, 13], [6, 13], fun v ds => ∃ p q, ds = [p, q] ∧ v = .agg #[p, q], fun _ _ => []⟩, ⟨[], [], [], fun v _ => v = .pointer (some ⟨b3, 0, none⟩), fun _ _ => []⟩, ⟨[], [], [15], fun v _ => v = .slice ad1 l.length c1, fun _ _ => []⟩, ⟨[], [], [16], fun v _ => v = .int .i64 l.length, fun _ _ => []⟩, ⟨[], [], [17], fun v _ => v = .int .i64 ((l.length : Int) + 1), fun _ _ => []⟩, ⟨[21], [6, 13], [14, 6, 13], fun _ _ => True, fun _ ds => match ds with | [_, p, q] => [blk b1 (.cells #[p, q] 76)] | _ => []⟩, ⟨[], [], [18], fun v _ => v = .int .i64 ((l.length : Int) + 1), fun _ _ => []⟩, ⟨[], [], [], fun _ _ => True, fun _ _ => [blk b1 (.cells #[.slice none 0 0, .slice none 0 0] 76)]⟩] (by kernel_rfl)
        [[], [], [(1, 27)], [(0, 26), (2, 28)], [], [(4, 30)], [(3, 29), (5, 31)], [], [], [(8, 34)], [(7, 33), (9, 35)], [], [(11, 37)], [(10, 36), (12, 38)], [(6, 32), (13, 39)], [], [(15, 41)], [(16, 42)], [(17, 43)], [(14, 40)], [(18, 44)]] [(0, 26), (1, 27), (2, 28), (3, 29), (4, 30), (5, 31), (6, 32), (7, 33), (8, 34), (9, 35), (10, 36), (11, 37), (12, 38), (13, 39), (14, 40), (15, 41), (16, 42), (17, 43), (18, 44), (20, 7)] [1, 2, 4, 5, 6, 8, 9, 11, 12, 13, 14, 15, 16, 17, 18, 19, 20] (by kernel_rfl) (by kernel_rfl) (by kernel_rfl) ⟨?o0, ?o1, ?o2, ?o3, ?o4, ?o5, ?o6, ?o7, ?o8, ?o9, ?o10, ?o11, ?o12, ?o13, ?o14, ?o15, ?o16, ?o17, ?o18, ?o19, ?o20, trivial⟩ ?fin
      case o0 =>
        intro vals wx X hd H
        clear hd
        replace H := sP H
        simp only [putS, List.foldl_nil]
        exact StStep.slice0 (enc := encR) H rfl rfl rfl rfl encR_len fun b w' H => ⟨trivial, H⟩
      case o1 =>
        intro vals wx X hd H
        clear hd
        replace H := sP H
        simp only [putS, List.foldl_nil]
        go_simp
        first | exact H | exact ⟨rfl, H⟩
      case o2 =>
        intro vals wx X hd H
        have h1 : vals 1 = .pointer (some ⟨b3, 0, none⟩) := hd.1
        clear hd
        replace H := sP H
        simp only [putS, List.foldl_nil, List.foldl_cons, Act.put, List.setIfInBounds_toArray, List.set_cons_zero, List.set_cons_succ, h1]
        first | refine StStep.cellT rfl rfl rfl gt rfl rfl ⟨rfl, H⟩ | refine StStep.wholeT rfl rfl rfl gt rfl ⟨rfl, H⟩
      case o3 =>
        intro vals wx X hd H
        have h2 : vals 2 = .slice ad1 l.length c1 := hd.1
        clear hd
        replace H := sP H
        simp only [putS, List.foldl_nil, List.foldl_cons, Act.put, List.setIfInBounds_toArray, List.set_cons_zero, List.set_cons_succ, h2]
        exact StStep.append (enc := encR) rfl rfl rfl rfl rfl (by decide) (by decide) rfl rfl H (H.known HK pk) encR_len encR_one (by simp; omega) fun v' w' H => ⟨trivial, H⟩
      case o4 =>
        intro vals wx X hd H
        clear hd
        replace H := sP H
        simp only [putS, List.foldl_nil]
        first | refine StStep.cellT rfl rfl rfl gt rfl rfl ⟨rfl, H⟩ | refine StStep.wholeT rfl rfl rfl gt rfl ⟨rfl, H⟩
      case o5 =>
        intro vals wx X hd H
        have h4 : vals 4 = ruleV x0.r := hd.1
        clear hd
        replace H := sP H
        simp only [putS, List.foldl_nil, List.foldl_cons, Act.put, List.setIfInBounds_toArray, List.set_cons_zero, List.set_cons_succ, h4]
        exact StStep.slice1 (enc := encR) H rfl rfl rfl rfl rfl rfl rfl rfl rfl x0 rfl encR_len fun b w' H => ⟨trivial, H⟩
      case o6 =>
        intro vals wx X hd H
        clear hd
        replace H := sP H
        simp only [putS, List.foldl_nil, List.foldl_cons, Act.put, List.setIfInBounds_toArray, List.set_cons_zero, List.set_cons_succ]
        exact StStep.append (enc := encR) rfl rfl rfl rfl rfl (by decide) (by decide) rfl rfl H (H.get (Pick.there Pick.here)) encR_len encR_one (by simp; omega) fun v' w' H => ⟨trivial, H⟩
      case o7 =>
        intro vals wx X hd H
        clear hd
        replace H := sP H
        simp only [putS, List.foldl_nil]
        exact StStep.slice0 (enc := encN) H rfl rfl rfl rfl encN_len fun b w' H => ⟨trivial, H⟩
      case o8 =>
        intro vals wx X hd H
        clear hd
        replace H := sP H
        simp only [putS, List.foldl_nil]
        go_simp
        first | exact H | exact ⟨rfl, H⟩
      case o9 =>
        intro vals wx X hd H
        have h8 : vals 8 = .pointer (some ⟨b3, 1, none⟩) := hd.1
        clear hd
        replace H := sP H
        simp only [putS, List.foldl_nil, List.foldl_cons, Act.put, List.setIfInBounds_toArray, List.set_cons_zero, List.set_cons_succ, h8]
        first | refine StStep.cellT rfl rfl rfl gt rfl rfl ⟨rfl, H⟩ | refine StStep.wholeT rfl rfl rfl gt rfl ⟨rfl, H⟩
      case o10 =>
        intro vals wx X hd H
        have h9 : vals 9 = .slice ad2 l.length c2 := hd.1
        clear hd
        replace H := sP H
        simp only [putS, List.foldl_nil, List.foldl_cons, Act.put, List.setIfInBounds_toArray, List.set_cons_zero, List.set_cons_succ, h9]
        exact StStep.append (enc := encN) rfl rfl rfl rfl rfl (by decide) (by decide) rfl rfl H (H.known HK pk) encN_len encN_one (by simp; omega) fun v' w' H => ⟨trivial, H⟩
      case o11 =>
        intro vals wx X hd H
        clear hd
        replace H := sP H
        simp only [putS, List.foldl_nil]
        go_simp
        first | exact H | exact ⟨rfl, H⟩
      case o12 =>
        intro vals wx X hd H
        have h11 : vals 11 = .int .i64 x0.w.len := hd.1
        clear hd
        replace H := sP H
        simp only [putS, List.foldl_nil, List.foldl_cons, Act.put, List.setIfInBounds_toArray, List.set_cons_zero, List.set_cons_succ, h11]
        exact StStep.slice1 (enc := encN) H rfl rfl rfl rfl rfl rfl rfl rfl rfl x0 rfl encN_len fun b w' H => ⟨trivial, H⟩
      case o13 =>
        intro vals wx X hd H
        clear hd
        replace H := sP H
        simp only [putS, List.foldl_nil, List.foldl_cons, Act.put, List.setIfInBounds_toArray, List.set_cons_zero, List.set_cons_succ]
        exact StStep.append (enc := encN) rfl rfl rfl rfl rfl (by decide) (by decide) rfl rfl H (H.get (Pick.there Pick.here)) encN_len encN_one (by simp; omega) fun v' w' H => ⟨trivial, H⟩
      case o14 =>
        intro vals wx X hd H
        have h6 := hd.1
        have h13 := hd.2.1
        clear hd
        replace H := sP H
        simp only [putS, List.foldl_nil, List.foldl_cons, Act.put, List.setIfInBounds_toArray, List.set_cons_zero, List.set_cons_succ]
        clear h6 h13
        obtain ⟨pa, pc, hp, _⟩ := rowsA_shape (H.get (A := rowsA encR 100 5 (vals 6) (l ++ [x0])) pk)
        obtain ⟨qa, qc, hq, _⟩ := rowsA_shape (H.get (A := rowsA encN 3 1 (vals 13) (l ++ [x0])) pk)
        have HP := Lib.hid (And.intro hp hq)
        refine StStep.val (v := .agg #[vals 6, vals 13]) rfl ?_ ⟨⟨_, _, rfl, rfl⟩, H⟩
        clear H
        rw [hp, hq]
        clear hp hq
        go_simp
      case o15 =>
        intro vals wx X hd H
        clear hd
        replace H := sP H
        simp only [putS, List.foldl_nil]
        go_simp
        first | exact H | exact ⟨rfl, H⟩
      case o16 =>
        intro vals wx X hd H
        have h15 : vals 15 = .pointer (some ⟨b3, 0, none⟩) := hd.1
        clear hd
        replace H := sP H
        simp only [putS, List.foldl_nil, List.foldl_cons, Act.put, List.setIfInBounds_toArray, List.set_cons_zero, List.set_cons_succ, h15]
        first | refine StStep.cellT rfl rfl rfl gt rfl rfl ⟨rfl, H⟩ | refine StStep.wholeT rfl rfl rfl gt rfl ⟨rfl, H⟩
      case o17 =>
        intro vals wx X hd H
        have h16 : vals 16 = .slice ad1 l.length c1 := hd.1
        clear hd
        replace H := sP H
        simp only [putS, List.foldl_nil, List.foldl_cons, Act.put, List.setIfInBounds_toArray, List.set_cons_zero, List.set_cons_succ, h16]
        clear h16
        go_simp
        first | exact H | exact ⟨rfl, H⟩
      case o18 =>
        intro vals wx X hd H
        have h17 : vals 17 = .int .i64 l.length := hd.1
        clear hd
        replace H := sP H
        simp only [putS, List.foldl_nil, List.foldl_cons, Act.put, List.setIfInBounds_toArray, List.set_cons_zero, List.set_cons_succ, h17]
        have hw := IntWalk.i64_in ((l.length : Int) + 1) (by omega)
        clear h17
        go_simp
        first | exact H | exact ⟨rfl, H⟩
      case o19 =>
        intro vals wx X hd H
        have h14 := hd.1
        have h6 := hd.2.1
        have h13 := hd.2.2.1
        clear hd
        replace H := sP H
        simp only [putS, List.foldl_nil, List.foldl_cons, Act.put, List.setIfInBounds_toArray, List.set_cons_zero, List.set_cons_succ]
        obtain ⟨p, q, e1, e2⟩ : ∃ p q, [vals 6, vals 13] = [p, q] ∧ vals 14 = .agg #[p, q] := h14
        clear h6 h13
        obtain ⟨pa, pc, hp, _⟩ := rowsA_shape (H.get (A := rowsA encR 100 5 (vals 6) (l ++ [x0])) pk)
        obtain ⟨qa, qc, hq, _⟩ := rowsA_shape (H.get (A := rowsA encN 3 1 (vals 13) (l ++ [x0])) pk)
        simp only [List.cons.injEq, and_true] at e1
        obtain ⟨e3, e4⟩ := e1
        subst e3 e4
        refine StStep.storeT (cs' := #[vals 6, vals 13]) rfl rfl rfl (by rw [e2]; rfl) rfl (by rw [hp, hq]; rfl) H rfl fun w' H => ⟨trivial, H⟩
      case o20 =>
        intro vals wx X hd H
        have h18 : vals 18 = .int .i64 ((l.length : Int) + 1) := hd.1
        clear hd
        replace H := sP H
        simp only [putS, List.foldl_nil, List.foldl_cons, Act.put, List.setIfInBounds_toArray, List.set_cons_zero, List.set_cons_succ, h18]
        clear h18
        go_simp
        first | exact H | exact ⟨rfl, H⟩
      case fin =>
        intro vals wx hd H
        have h1 : vals 1 = .pointer (some ⟨b3, 0, none⟩) := hd.2.1
        have h2 : vals 2 = .slice ad1 l.length c1 := hd.2.2.1
        have h4 : vals 4 = ruleV x0.r := hd.2.2.2.2.1
        have h8 : vals 8 = .pointer (some ⟨b3, 1, none⟩) := hd.2.2.2.2.2.2.2.2.1
        have h9 : vals 9 = .slice ad2 l.length c2 := hd.2.2.2.2.2.2.2.2.2.1
        have h11 : vals 11 = .int .i64 x0.w.len := hd.2.2.2.2.2.2.2.2.2.2.2.1
        have h14 := hd.2.2.2.2.2.2.2.2.2.2.2.2.2.2.1
        have h15 : vals 15 = .pointer (some ⟨b3, 0, none⟩) := hd.2.2.2.2.2.2.2.2.2.2.2.2.2.2.2.1
        have h16 : vals 16 = .slice ad1 l.length c1 := hd.2.2.2.2.2.2.2.2.2.2.2.2.2.2.2.2.1
        have h17 : vals 17 = .int .i64 l.length := hd.2.2.2.2.2.2.2.2.2.2.2.2.2.2.2.2.2.1
        have h18 : vals 18 = .int .i64 ((l.length : Int) + 1) := hd.2.2.2.2.2.2.2.2.2.2.2.2.2.2.2.2.2.2.1
        have h20 : vals 20 = .int .i64 ((l.length : Int) + 1) := hd.2.2.2.2.2.2.2.2.2.2.2.2.2.2.2.2.2.2.2.2.1
        clear hd
        replace H := sP H
        simp only [putS, List.foldl_nil, List.foldl_cons, Act.put, List.setIfInBounds_toArray, List.set_cons_zero, List.set_cons_succ, List.drop_succ_cons, List.drop_zero, h1, h2, h4, h8, h9, h11, h15, h16, h17, h18, h20]
        clear h1 h2 h4 h8 h9 h11 h15 h16 h17 h18 h20
        obtain ⟨p, q, e1, e2⟩ : ∃ p q, [vals 6, vals 13] = [p, q] ∧ vals 14 = .agg #[p, q] := h14
        simp only [List.cons.injEq, and_true] at e1
        obtain ⟨e3, e4⟩ := e1
        subst e3 e4
        clear e2
        simp only [List.map_cons, List.map_nil, List.cons_append, List.nil_append] at H
        generalize vals 6 = vp at H ⊢
        generalize vals 13 = vq at H ⊢
        go_wp2_with (first | refine sL ?_ | (refine sS ?_; clear H; intro _ H) | (refine sB ?_; clear H; intro _ _ H) | (refine sA ?_; clear H; intro _ _ H))
        exact bodyPost_ret (res_row_tmp rfl H rfl pk rfl rfl) rfl ⟨vp, vq, rfl, (H.pick2 (A := rowsA encR 100 5 vp (l ++ [x0])) (B := rowsA encN 3 1 vq (l ++ [x0])) pk pk).onlyTwo⟩
end Go.Proofs.Ytijnhpaafhcndaa
end
section
namespace Go.Proofs.Ytijnhpaafhcndaa
open Go.RowKit Go.Maps
attribute [local go_sem] InGr
set_option maxHeartbeats 2000000
set_option maxRecDepth 100000
set_option linter.unusedSimpArgs false
set_option linter.unusedVariables false
def refA (vr vl : Value) (l : List En) : As := (rowsA encR 100 5 vr l).sep (rowsA encN 3 1 vl l)
theorem refA_ks {vr vl : Value} {l : List En} {w : World} (h : (refA vr vl l).ho w) : (rowsA encR 100 5 vr l).ho w ∧ (rowsA encN 3 1 vl l).ho w := by
  unfold refA at h; rw [sep_ho] at h; exact ⟨h.1, h.2.1⟩
theorem refA_shape {vr vl : Value} {l : List En} {w : World} (h : (refA vr vl l).ho w) : ∃ a c b d, vr = .slice a l.length c ∧ vl = .slice b l.length d := by
  obtain ⟨h1, h2⟩ := refA_ks h
  obtain ⟨a, c, e1, _⟩ := rowsA_shape h1
  obtain ⟨b, d, e2, _⟩ := rowsA_shape h2
  exact ⟨a, c, b, d, e1, e2⟩
theorem refA_of {vr vl : Value} {l : List En} {w0 w : World} {M : List Nat} {R : List As} (h : St w0 M (rowsA encR 100 5 vr l :: rowsA encN 3 1 vl l :: R) w) : St w0 M (refA vr vl l :: R) w := h.join
def RefPost (M : List Nat) (id : Nat) (l' : List En) (w : World) (e : Ending) (w' : World) : Prop := ∃ vr vl, e = .returned (.tuple #[.agg #[vr, vl], .int .i64 id]) ∧ St w M [refA vr vl l'] w'
theorem RefPost.mk' {M : List Nat} {id : Nat} {l' : List En} {w : World} {e : Ending} {w' : World} (vr vl : Value) (he : e = .returned (.tuple #[.agg #[vr, vl], .int .i64 id])) (h : St w M [refA vr vl l'] w') : RefPost M id l' w e w' := ⟨vr, vl, he, h⟩
theorem St.stay {A : As} {w w' : World} (hA : A.ho w) (h : St w [] [] w') : St w A.fp [A] w' := by
  have := (St.one hA).grew h.below
  exact this
theorem radd_some {vr vl : Value} {l : List En} {i : Nat} (x0 : En) (hl : (Sto.mk 0 l).look x0.r = some i) (w : World) (h : (refA vr vl l).ho w) :
    Calls Try.prog 91 #[.agg #[vr, vl], ruleV x0.r, .int .i64 x0.w.len] w (RefPost (refA vr vl l).fp (i + 1) l w) :=
  (radd_hit x0.r x0.w.len hl w (refA_ks h).1 (refA_ks h).2).mono fun e w' ⟨he, hs⟩ => ⟨vr, vl, by rw [he]; simp, St.stay h hs⟩
theorem radd_none {vr vl : Value} {l : List En} (x0 : En) (hl : (Sto.mk 0 l).look x0.r = none) (hlen : l.length ≤ 1048576) (w : World) (h : (refA vr vl l).ho w) :
    Calls Try.prog 91 #[.agg #[vr, vl], ruleV x0.r, .int .i64 x0.w.len] w (RefPost (refA vr vl l).fp (l.length + 1) (l ++ [x0]) w) :=
  (radd_miss x0 (look_none hl) hlen w (refA_ks h).1 (refA_ks h).2).mono fun e w' ⟨vr', vl', he, hs⟩ => ⟨vr', vl', by rw [he]; simp, (refA_of hs).widen (by simp)⟩
theorem radd_c {vr vl : Value} {S : Sto} (x0 : En) (hroom : S.list.length < S.most) (hm : S.most ≤ 1048576) (w : World) (h : (refA vr vl S.list).ho w) :
    Calls Try.prog 91 #[.agg #[vr, vl], ruleV x0.r, .int .i64 x0.w.len] w (RefPost (refA vr vl S.list).fp (S.put x0).1.1 (S.put x0).2.list w) := by
  have e : (Sto.mk 0 S.list).look x0.r = S.look x0.r := rfl
  unfold Sto.put
  cases hl : S.look x0.r with
  | some i => exact radd_some x0 (by rw [e]; exact hl) w h
  | none =>
    simp only [if_neg (show ¬ S.most ≤ S.list.length by omega)]
    exact radd_none x0 (by rw [e]; exact hl) (by omega) w h
def pickN (n : Int) (m : Nat) : Nat := (n % (m : Int)).toNat
theorem pickN_lt {n : Int} {m : Nat} (h : 0 < m) : pickN n m < m := by
  unfold pickN
  have := Int.emod_nonneg n (show (m : Int) ≠ 0 by omega)
  have := Int.emod_lt_of_pos n (show 0 < (m : Int) by omega)
  omega
theorem tmod_case (n : Int) (m : Nat) (h : 0 < m) : n % (m : Int) = if n.tmod m < 0 then n.tmod m + m else n.tmod m := by
  have h0 := Int.mul_tdiv_add_tmod n m
  have h3 := Int.tmod_lt_of_pos n (show 0 < (m : Int) by omega)
  have h4 := Int.lt_tmod_of_pos n (show 0 < (m : Int) by omega)
  generalize n.tmod m = t at *
  have e : n % (m : Int) = t % (m : Int) := by
    rw [← h0, Int.mul_add_emod_self_left]
  rw [e]
  split
  · rw [← Int.add_emod_right, Int.emod_eq_of_lt (by omega) (by omega)]
  · rw [Int.emod_eq_of_lt (by omega) (by omega)]
theorem pick_c (n : Int) (m : Nat) (h1 : -9223372036854775808 ≤ n) (h2 : n ≤ 9223372036854775807) (hm : 0 < m) (hm2 : m ≤ 1048577) (w : World) :
    Calls Try.prog 29 #[.int .i64 n, .int .i64 m] w fun e w' => e = .returned (.int .i64 (pickN n m)) ∧ w' = w := by
  have hp : ((pickN n m : Nat) : Int) = n % (m : Int) := by
    unfold pickN
    have := Int.emod_nonneg n (show (m : Int) ≠ 0 by omega)
    omega
  have hb1 : -(m : Int) < n.tmod m := Int.lt_tmod_of_pos n (show 0 < (m : Int) by omega)
  have hb2 : n.tmod m < m := Int.tmod_lt_of_pos n (show 0 < (m : Int) by omega)
  rw [tmod_case n m hm] at hp
  have HP := Lib.hid hp
  clear hp
  go_enter Try.func29, Try.ntmps29
  go_wp2_with (first | fail)
  · rename_i hneg
    have e : ((pickN n m : Nat) : Int) = n.tmod m + m := by rw [HP.out, if_pos hneg]
    rw [e]
    go_ret
    exact ⟨rfl, rfl⟩
  · rename_i hneg
    have e : ((pickN n m : Nat) : Int) = n.tmod m := by rw [HP.out, if_neg (by omega)]
    rw [e]
    go_ret
    exact ⟨rfl, rfl⟩
end Go.Proofs.Ytijnhpaafhcndaa
end
section
namespace Go.Proofs.Ytijnhpaafhcndaa
open Go.RowKit Go.Maps
attribute [local go_sem] InGr
set_option maxHeartbeats 2000000
set_option maxRecDepth 100000
set_option linter.unusedSimpArgs false
set_option linter.unusedVariables false
structure Mk where
  kind : Int
  letter : Nat
  left : Int
  right : Int
  times : Int
def fits64 (n : Int) : Prop := -9223372036854775808 ≤ n ∧ n ≤ 9223372036854775807
structure Mk.Fits (m : Mk) : Prop where
  kind : fits64 m.kind
  letter : m.letter < 256
  left : fits64 m.left
  right : fits64 m.right
  times : fits64 m.times
def mkL (m : Mk) : List Value := [.int .i64 m.kind, .int .u8 m.letter, .int .i64 m.left, .int .i64 m.right, .int .i64 m.times]
def Sto.make (S : Sto) (ids : List Nat) (m : Mk) : (Nat × Option Nat) × Sto :=
  if pickN m.kind 4 = 0 then S.letter m.letter
  else if pickN m.kind 4 = 3 then S.power (ids.getD (pickN m.left ids.length) 0) m.times.toNat
  else S.pair (ids.getD (pickN m.left ids.length) 0) (ids.getD (pickN m.right ids.length) 0)
def encI (i : Nat) : List Value := [.int .i64 i]
theorem encI_len (i : Nat) : (encI i).length = 1 := rfl
def OnePost (M : List Nat) (rv : Value) (ids : List Nat) (id : Nat) (l' : List En) (w : World) (e : Ending) (w' : World) : Prop :=
  ∃ vr vl, e = .returned (.tuple #[.agg #[vr, vl], .int .i64 id]) ∧ St w M [refA vr vl l', rowsA encI 32 1 rv ids] w'
theorem OnePost.mk' {M : List Nat} {rv : Value} {ids : List Nat} {id : Nat} {l' : List En} {w : World} {e : Ending} {w' : World} (vr vl : Value) (he : e = .returned (.tuple #[.agg #[vr, vl], .int .i64 id])) (h : St w M [refA vr vl l', rowsA encI 32 1 rv ids] w') : OnePost M rv ids id l' w e w' := ⟨vr, vl, he, h⟩
theorem pick4_c (n : Int) (v : Int) (hv : v = (pickN n 4 : Nat)) (h : fits64 n) (w : World) :
    Calls Try.prog 29 #[.int .i64 n, .int .i64 4] w fun e w' => e = .returned (.int .i64 v) ∧ w' = w := by
  rw [hv]; exact pick_c n 4 h.1 h.2 (by omega) (by omega) w
theorem pickf_c (n : Int) (m a : Nat) (ha : a = pickN n m) (h : fits64 n) (hm : 0 < m) (hm2 : m ≤ 1048577) (w : World) :
    Calls Try.prog 29 #[.int .i64 n, .int .i64 m] w fun e w' => e = .returned (.int .i64 a) ∧ w' = w := by
  rw [ha]; exact pick_c n m h.1 h.2 hm hm2 w
def tup1 : Value → Value
  | .tuple #[.agg #[p, _], _] => p
  | _ => undef
def tup2 : Value → Value
  | .tuple #[.agg #[_, q], _] => q
  | _ => undef
theorem quiet_st_x {f : FuncId} {args : Array Value} {v : Value} {w : World} {x : Gr w} (h : Calls Try.prog f args x.1 fun e w' => e = .returned v ∧ St x.1 [] [] w') : Calls Try.prog f args x.1 fun e w'' => e = .returned v ∧ ∃ y : Gr w, w'' = y.1 := quiet_st h
theorem rlen_c {vr vl : Value} {S : Sto} {l : Nat} {x : En} (hx : enAt S l = some x) (w : World) (h : (refA vr vl S.list).ho w) :
    Calls Try.prog 92 #[.agg #[vr, vl], .int .i64 l] w fun e w' => e = .returned (.int .i64 x.w.len) ∧ St w [] [] w' := by
  cases l with
  | zero =>
    obtain rfl : _ = x := Option.some.inj hx
    exact rlen_zero w
  | succ l => exact rlen_in (by simpa [enAt] using hx) w (refA_ks h).2
attribute [local irreducible] refA pickN
attribute [local go_sem] StStep stAt stUpon in
theorem one_letter {vr vl rv : Value} {S : Sto} {ids : List Nat} {m : Mk} (hm : m.Fits) (hO : S.Ok) (h0 : 0 < ids.length) (hids : ids.length ≤ 1048576) (hroom : S.list.length < S.most) {l r : Nat} (hle : ids[pickN m.left ids.length]? = some l) (hre : ids[pickN m.right ids.length]? = some r) {x y : En} (hx : enAt S l = some x) (hy : enAt S r = some y) (hk : pickN m.kind 4 = 0) (w : World) (h : ((refA vr vl S.list).sep (rowsA encI 32 1 rv ids)).ho w) :
    Calls Try.prog 63 #[.agg #[vr, vl], .agg (mkL m).toArray, rv] w (OnePost ((refA vr vl S.list).sep (rowsA encI 32 1 rv ids)).fp rv ids (S.put (letterE m.letter)).1.1 (S.put (letterE m.letter)).2.list w) := by
  have H := (St.one h).sep
  have hv := refA_shape (H.get Pick.here)
  have hr := rowsA_cases (H.get (Pick.there Pick.here)) h0
  generalize ((refA vr vl S.list).sep (rowsA encI 32 1 rv ids)).fp = M at H ⊢
  obtain ⟨ad1, c1, ad2, c2, rfl, rfl⟩ := hv
  obtain ⟨g, c, rfl, hc, hcm⟩ := hr
  have hmost := hO.most
  have HP1 : Hid (∀ w, Calls Try.prog 29 #[.int .i64 m.left, .int .i64 ids.length] w fun e w' => e = .returned (.int .i64 (pickN m.left ids.length : Nat)) ∧ w' = w) := Lib.hid fun w => pickf_c m.left ids.length _ rfl hm.left h0 (by omega) w
  have HP2 : Hid (∀ w, Calls Try.prog 29 #[.int .i64 m.right, .int .i64 ids.length] w fun e w' => e = .returned (.int .i64 (pickN m.right ids.length : Nat)) ∧ w' = w) := Lib.hid fun w => pickf_c m.right ids.length _ rfl hm.right h0 (by omega) w
  have HP3 : Hid (∀ w, Calls Try.prog 29 #[.int .i64 m.kind, .int .i64 4] w fun e w' => e = .returned (.int .i64 0) ∧ w' = w) := Lib.hid fun w => pick4_c m.kind 0 (by rw [hk]; rfl) hm.kind w
  have HL1 : Hid (∀ w, (refA (.slice ad1 S.list.length c1) (.slice ad2 S.list.length c2) S.list).ho w → Calls Try.prog 92 #[.agg #[.slice ad1 S.list.length c1, .slice ad2 S.list.length c2], .int .i64 l] w fun e w' => e = .returned (.int .i64 x.w.len) ∧ St w [] [] w') := Lib.hid fun w h => rlen_c hx w h
  have HL2 : Hid (∀ w, (refA (.slice ad1 S.list.length c1) (.slice ad2 S.list.length c2) S.list).ho w → Calls Try.prog 92 #[.agg #[.slice ad1 S.list.length c1, .slice ad2 S.list.length c2], .int .i64 r] w fun e w' => e = .returned (.int .i64 y.w.len) ∧ St w [] [] w') := Lib.hid fun w h => rlen_c hy w h
  have hl := pickN_lt (n := m.left) h0
  have hri := pickN_lt (n := m.right) h0
  have HE := Lib.hid (And.intro hle hre)
  have HA : Hid (∀ w, (refA (.slice ad1 S.list.length c1) (.slice ad2 S.list.length c2) S.list).ho w → Calls Try.prog 91 #[.agg #[.slice ad1 S.list.length c1, .slice ad2 S.list.length c2], .agg #[.int .i64 1, .int .u8 m.letter, .int .i64 0, .int .i64 0, .int .i64 0], .int .i64 1] w (RefPost (refA (.slice ad1 S.list.length c1) (.slice ad2 S.list.length c2) S.list).fp (S.put (letterE m.letter)).1.1 (S.put (letterE m.letter)).2.list w)) := Lib.hid fun w h => by
    have := radd_c (letterE m.letter) hroom hmost w h
    rw [show (letterE m.letter).w.len = 1 from letter_len _] at this
    exact this
  have hT := hm.times
  unfold fits64 at hT
  clear h hk hle hre hx hy hm hroom hO hmost
  generalize pickN m.left ids.length = a at *
  generalize pickN m.right ids.length = b at *
  unfold maxLen at hcm
  unfold mkL
  go_enter Try.func63, Try.ntmps63
  go_wp2_with (first | refine sL ?_ | (refine sS ?_; clear H; intro _ H) | (refine sB ?_; clear H; intro _ _ H) | (refine sA ?_; clear H; intro _ _ H) | (go_at_call 29; with_reducible refine same (HP1.out _) ?_) | (go_at_call 29; with_reducible refine same (HP2.out _) ?_) | (go_at_call 29; with_reducible refine same (HP3.out _) ?_) | ((with_reducible refine isLoad ?_); refine AtLoad.cel rfl rfl rfl rfl (rowsA_cell1 (H.get (A := rowsA encI 32 1 (.slice (some ⟨g, 0, none⟩) ids.length c) ids) pk) encI_len HE.out.1 rfl) ?_; simp only [Act.put, puA, puB, puC]) | ((with_reducible refine isLoad ?_); refine AtLoad.cel rfl rfl rfl rfl (rowsA_cell1 (H.get (A := rowsA encI 32 1 (.slice (some ⟨g, 0, none⟩) ids.length c) ids) pk) encI_len HE.out.2 rfl) ?_; simp only [Act.put, puA, puB, puC]) | (go_at_call 92; with_reducible refine Calls.mono (HL1.out _ (H.get (A := (refA (.slice ad1 S.list.length c1) (.slice ad2 S.list.length c2) S.list)) pk)) ?_; rintro e wc ⟨rfl, hb⟩; replace H := H.grew hb.below; clear hb))
  refine (HA.out _ (H.get pk)).mono ?_
  rintro e wc ⟨vr', vl', rfl, hb⟩
  replace H := (H.pick (A := (refA (.slice ad1 S.list.length c1) (.slice ad2 S.list.length c2) S.list)) pk).call hb
  clear hb
  obtain ⟨ad3, c3, ad4, c4, rfl, rfl⟩ := refA_shape (H.get Pick.here)
  go_wp2_with (first | refine sL ?_ | (refine sS ?_; clear H; intro _ H) | (refine sB ?_; clear H; intro _ _ H) | (refine sA ?_; clear H; intro _ _ H))
  exact bodyPost_ret (res_row_tmp rfl H rfl pk rfl rfl) rfl (OnePost.mk' _ _ rfl (H.pick2 (A := refA _ _ (S.put (letterE m.letter)).2.list) (B := rowsA encI 32 1 (.slice (some ⟨g, 0, none⟩) ids.length c) ids) pk pk).onlyTwo)
attribute [local go_sem] StStep stAt stUpon in
theorem one_pow0 {vr vl rv : Value} {S : Sto} {ids : List Nat} {m : Mk} (hm : m.Fits) (hO : S.Ok) (h0 : 0 < ids.length) (hids : ids.length ≤ 1048576) (hroom : S.list.length < S.most) {l r : Nat} (hle : ids[pickN m.left ids.length]? = some l) (hre : ids[pickN m.right ids.length]? = some r) {x y : En} (hx : enAt S l = some x) (hy : enAt S r = some y) (hk : pickN m.kind 4 = 3) (hl0 : ((l : Int) == 0) = true) (w : World) (h : ((refA vr vl S.list).sep (rowsA encI 32 1 rv ids)).ho w) :
    Calls Try.prog 63 #[.agg #[vr, vl], .agg (mkL m).toArray, rv] w (OnePost ((refA vr vl S.list).sep (rowsA encI 32 1 rv ids)).fp rv ids 0 S.list w) := by
  have H := (St.one h).sep
  have hv := refA_shape (H.get Pick.here)
  have hr := rowsA_cases (H.get (Pick.there Pick.here)) h0
  generalize ((refA vr vl S.list).sep (rowsA encI 32 1 rv ids)).fp = M at H ⊢
  obtain ⟨ad1, c1, ad2, c2, rfl, rfl⟩ := hv
  obtain ⟨g, c, rfl, hc, hcm⟩ := hr
  have hmost := hO.most
  have HP1 : Hid (∀ w, Calls Try.prog 29 #[.int .i64 m.left, .int .i64 ids.length] w fun e w' => e = .returned (.int .i64 (pickN m.left ids.length : Nat)) ∧ w' = w) := Lib.hid fun w => pickf_c m.left ids.length _ rfl hm.left h0 (by omega) w
  have HP2 : Hid (∀ w, Calls Try.prog 29 #[.int .i64 m.right, .int .i64 ids.length] w fun e w' => e = .returned (.int .i64 (pickN m.right ids.length : Nat)) ∧ w' = w) := Lib.hid fun w => pickf_c m.right ids.length _ rfl hm.right h0 (by omega) w
  have HP3 : Hid (∀ w, Calls Try.prog 29 #[.int .i64 m.kind, .int .i64 4] w fun e w' => e = .returned (.int .i64 3) ∧ w' = w) := Lib.hid fun w => pick4_c m.kind 3 (by rw [hk]; rfl) hm.kind w
  have HL1 : Hid (∀ w, (refA (.slice ad1 S.list.length c1) (.slice ad2 S.list.length c2) S.list).ho w → Calls Try.prog 92 #[.agg #[.slice ad1 S.list.length c1, .slice ad2 S.list.length c2], .int .i64 l] w fun e w' => e = .returned (.int .i64 x.w.len) ∧ St w [] [] w') := Lib.hid fun w h => rlen_c hx w h
  have HL2 : Hid (∀ w, (refA (.slice ad1 S.list.length c1) (.slice ad2 S.list.length c2) S.list).ho w → Calls Try.prog 92 #[.agg #[.slice ad1 S.list.length c1, .slice ad2 S.list.length c2], .int .i64 r] w fun e w' => e = .returned (.int .i64 y.w.len) ∧ St w [] [] w') := Lib.hid fun w h => rlen_c hy w h
  have hl := pickN_lt (n := m.left) h0
  have hri := pickN_lt (n := m.right) h0
  have HE := Lib.hid (And.intro hle hre)
  have hT := hm.times
  unfold fits64 at hT
  clear h hk hle hre hx hy hm hroom hO hmost
  generalize pickN m.left ids.length = a at *
  generalize pickN m.right ids.length = b at *
  unfold maxLen at hcm
  unfold mkL
  go_enter Try.func63, Try.ntmps63
  go_wp2_with (first | refine sL ?_ | (refine sS ?_; clear H; intro _ H) | (refine sB ?_; clear H; intro _ _ H) | (refine sA ?_; clear H; intro _ _ H) | (go_at_call 29; with_reducible refine same (HP1.out _) ?_) | (go_at_call 29; with_reducible refine same (HP2.out _) ?_) | (go_at_call 29; with_reducible refine same (HP3.out _) ?_) | ((with_reducible refine isLoad ?_); refine AtLoad.cel rfl rfl rfl rfl (rowsA_cell1 (H.get (A := rowsA encI 32 1 (.slice (some ⟨g, 0, none⟩) ids.length c) ids) pk) encI_len HE.out.1 rfl) ?_; simp only [Act.put, puA, puB, puC]) | ((with_reducible refine isLoad ?_); refine AtLoad.cel rfl rfl rfl rfl (rowsA_cell1 (H.get (A := rowsA encI 32 1 (.slice (some ⟨g, 0, none⟩) ids.length c) ids) pk) encI_len HE.out.2 rfl) ?_; simp only [Act.put, puA, puB, puC]) | (go_at_call 92; with_reducible refine Calls.mono (HL1.out _ (H.get (A := (refA (.slice ad1 S.list.length c1) (.slice ad2 S.list.length c2) S.list)) pk)) ?_; rintro e wc ⟨rfl, hb⟩; replace H := H.grew hb.below; clear hb))
  refine wp_region_h H 14 [] [] (by kernel_rfl) (by kernel_rfl) ?_
  apply Exists.intro
  refine ⟨fun w1 hw1 HX => ?_, fun bs wr Hr => ?_⟩
  · refine sG ?_
    repeat (first | refine sQ ?_ | fail | go_big_quiet_step (fail))
    exact wpQuiet_nil rfl
  clear H
  have H := Hr
  clear Hr
  replace H := sH H; refine sT ?_
  go_wp2_with (first | refine sL ?_ | (refine sS ?_; clear H; intro _ H) | (refine sB ?_; clear H; intro _ _ H) | (refine sA ?_; clear H; intro _ _ H))
  exact bodyPost_ret (res_row_tmp rfl H rfl pk rfl rfl) rfl (OnePost.mk' _ _ rfl (H.pick2 (A := (refA (.slice ad1 S.list.length c1) (.slice ad2 S.list.length c2) S.list)) (B := rowsA encI 32 1 (.slice (some ⟨g, 0, none⟩) ids.length c) ids) pk pk).onlyTwo)
attribute [local go_sem] StStep stAt stUpon in
theorem one_powt {vr vl rv : Value} {S : Sto} {ids : List Nat} {m : Mk} (hm : m.Fits) (hO : S.Ok) (h0 : 0 < ids.length) (hids : ids.length ≤ 1048576) (hroom : S.list.length < S.most) {l r : Nat} (hle : ids[pickN m.left ids.length]? = some l) (hre : ids[pickN m.right ids.length]? = some r) {x y : En} (hx : enAt S l = some x) (hy : enAt S r = some y) (hk : pickN m.kind 4 = 3) (hl0 : ((l : Int) == 0) = false) (ht0 : m.times ≤ 0) (w : World) (h : ((refA vr vl S.list).sep (rowsA encI 32 1 rv ids)).ho w) :
    Calls Try.prog 63 #[.agg #[vr, vl], .agg (mkL m).toArray, rv] w (OnePost ((refA vr vl S.list).sep (rowsA encI 32 1 rv ids)).fp rv ids 0 S.list w) := by
  have H := (St.one h).sep
  have hv := refA_shape (H.get Pick.here)
  have hr := rowsA_cases (H.get (Pick.there Pick.here)) h0
  generalize ((refA vr vl S.list).sep (rowsA encI 32 1 rv ids)).fp = M at H ⊢
  obtain ⟨ad1, c1, ad2, c2, rfl, rfl⟩ := hv
  obtain ⟨g, c, rfl, hc, hcm⟩ := hr
  have hmost := hO.most
  have HP1 : Hid (∀ w, Calls Try.prog 29 #[.int .i64 m.left, .int .i64 ids.length] w fun e w' => e = .returned (.int .i64 (pickN m.left ids.length : Nat)) ∧ w' = w) := Lib.hid fun w => pickf_c m.left ids.length _ rfl hm.left h0 (by omega) w
  have HP2 : Hid (∀ w, Calls Try.prog 29 #[.int .i64 m.right, .int .i64 ids.length] w fun e w' => e = .returned (.int .i64 (pickN m.right ids.length : Nat)) ∧ w' = w) := Lib.hid fun w => pickf_c m.right ids.length _ rfl hm.right h0 (by omega) w
  have HP3 : Hid (∀ w, Calls Try.prog 29 #[.int .i64 m.kind, .int .i64 4] w fun e w' => e = .returned (.int .i64 3) ∧ w' = w) := Lib.hid fun w => pick4_c m.kind 3 (by rw [hk]; rfl) hm.kind w
  have HL1 : Hid (∀ w, (refA (.slice ad1 S.list.length c1) (.slice ad2 S.list.length c2) S.list).ho w → Calls Try.prog 92 #[.agg #[.slice ad1 S.list.length c1, .slice ad2 S.list.length c2], .int .i64 l] w fun e w' => e = .returned (.int .i64 x.w.len) ∧ St w [] [] w') := Lib.hid fun w h => rlen_c hx w h
  have HL2 : Hid (∀ w, (refA (.slice ad1 S.list.length c1) (.slice ad2 S.list.length c2) S.list).ho w → Calls Try.prog 92 #[.agg #[.slice ad1 S.list.length c1, .slice ad2 S.list.length c2], .int .i64 r] w fun e w' => e = .returned (.int .i64 y.w.len) ∧ St w [] [] w') := Lib.hid fun w h => rlen_c hy w h
  have hl := pickN_lt (n := m.left) h0
  have hri := pickN_lt (n := m.right) h0
  have HE := Lib.hid (And.intro hle hre)
  have hT := hm.times
  unfold fits64 at hT
  clear h hk hle hre hx hy hm hroom hO hmost
  generalize pickN m.left ids.length = a at *
  generalize pickN m.right ids.length = b at *
  unfold maxLen at hcm
  unfold mkL
  go_enter Try.func63, Try.ntmps63
  go_wp2_with (first | refine sL ?_ | (refine sS ?_; clear H; intro _ H) | (refine sB ?_; clear H; intro _ _ H) | (refine sA ?_; clear H; intro _ _ H) | (go_at_call 29; with_reducible refine same (HP1.out _) ?_) | (go_at_call 29; with_reducible refine same (HP2.out _) ?_) | (go_at_call 29; with_reducible refine same (HP3.out _) ?_) | ((with_reducible refine isLoad ?_); refine AtLoad.cel rfl rfl rfl rfl (rowsA_cell1 (H.get (A := rowsA encI 32 1 (.slice (some ⟨g, 0, none⟩) ids.length c) ids) pk) encI_len HE.out.1 rfl) ?_; simp only [Act.put, puA, puB, puC]) | ((with_reducible refine isLoad ?_); refine AtLoad.cel rfl rfl rfl rfl (rowsA_cell1 (H.get (A := rowsA encI 32 1 (.slice (some ⟨g, 0, none⟩) ids.length c) ids) pk) encI_len HE.out.2 rfl) ?_; simp only [Act.put, puA, puB, puC]) | (go_at_call 92; with_reducible refine Calls.mono (HL1.out _ (H.get (A := (refA (.slice ad1 S.list.length c1) (.slice ad2 S.list.length c2) S.list)) pk)) ?_; rintro e wc ⟨rfl, hb⟩; replace H := H.grew hb.below; clear hb))
  refine wp_region_h H 14 [] [] (by kernel_rfl) (by kernel_rfl) ?_
  apply Exists.intro
  refine ⟨fun w1 hw1 HX => ?_, fun bs wr Hr => ?_⟩
  · refine sG ?_
    repeat (first | refine sQ ?_ | fail | go_big_quiet_step (fail))
    exact wpQuiet_nil rfl
  clear H
  have H := Hr
  clear Hr
  replace H := sH H; refine sT ?_
  go_wp2_with (first | refine sL ?_ | (refine sS ?_; clear H; intro _ H) | (refine sB ?_; clear H; intro _ _ H) | (refine sA ?_; clear H; intro _ _ H))
  exact bodyPost_ret (res_row_tmp rfl H rfl pk rfl rfl) rfl (OnePost.mk' _ _ rfl (H.pick2 (A := (refA (.slice ad1 S.list.length c1) (.slice ad2 S.list.length c2) S.list)) (B := rowsA encI 32 1 (.slice (some ⟨g, 0, none⟩) ids.length c) ids) pk pk).onlyTwo)
attribute [local go_sem] StStep stAt stUpon in
theorem one_powlong {vr vl rv : Value} {S : Sto} {ids : List Nat} {m : Mk} (hm : m.Fits) (hO : S.Ok) (h0 : 0 < ids.length) (hids : ids.length ≤ 1048576) (hroom : S.list.length < S.most) {l r : Nat} (hle : ids[pickN m.left ids.length]? = some l) (hre : ids[pickN m.right ids.length]? = some r) {x y : En} (hx : enAt S l = some x) (hy : enAt S r = some y) (hk : pickN m.kind 4 = 3) (hl0 : ((l : Int) == 0) = false) (hp : 0 < x.w.len) (ht0 : 0 < m.times) (hq : decide (1152921504606846976 / (x.w.len : Int) < m.times) = true) (w : World) (h : ((refA vr vl S.list).sep (rowsA encI 32 1 rv ids)).ho w) :
    Calls Try.prog 63 #[.agg #[vr, vl], .agg (mkL m).toArray, rv] w (OnePost ((refA vr vl S.list).sep (rowsA encI 32 1 rv ids)).fp rv ids 0 S.list w) := by
  have H := (St.one h).sep
  have hv := refA_shape (H.get Pick.here)
  have hr := rowsA_cases (H.get (Pick.there Pick.here)) h0
  generalize ((refA vr vl S.list).sep (rowsA encI 32 1 rv ids)).fp = M at H ⊢
  obtain ⟨ad1, c1, ad2, c2, rfl, rfl⟩ := hv
  obtain ⟨g, c, rfl, hc, hcm⟩ := hr
  have hmost := hO.most
  have HP1 : Hid (∀ w, Calls Try.prog 29 #[.int .i64 m.left, .int .i64 ids.length] w fun e w' => e = .returned (.int .i64 (pickN m.left ids.length : Nat)) ∧ w' = w) := Lib.hid fun w => pickf_c m.left ids.length _ rfl hm.left h0 (by omega) w
  have HP2 : Hid (∀ w, Calls Try.prog 29 #[.int .i64 m.right, .int .i64 ids.length] w fun e w' => e = .returned (.int .i64 (pickN m.right ids.length : Nat)) ∧ w' = w) := Lib.hid fun w => pickf_c m.right ids.length _ rfl hm.right h0 (by omega) w
  have HP3 : Hid (∀ w, Calls Try.prog 29 #[.int .i64 m.kind, .int .i64 4] w fun e w' => e = .returned (.int .i64 3) ∧ w' = w) := Lib.hid fun w => pick4_c m.kind 3 (by rw [hk]; rfl) hm.kind w
  have HL1 : Hid (∀ w, (refA (.slice ad1 S.list.length c1) (.slice ad2 S.list.length c2) S.list).ho w → Calls Try.prog 92 #[.agg #[.slice ad1 S.list.length c1, .slice ad2 S.list.length c2], .int .i64 l] w fun e w' => e = .returned (.int .i64 x.w.len) ∧ St w [] [] w') := Lib.hid fun w h => rlen_c hx w h
  have HL2 : Hid (∀ w, (refA (.slice ad1 S.list.length c1) (.slice ad2 S.list.length c2) S.list).ho w → Calls Try.prog 92 #[.agg #[.slice ad1 S.list.length c1, .slice ad2 S.list.length c2], .int .i64 r] w fun e w' => e = .returned (.int .i64 y.w.len) ∧ St w [] [] w') := Lib.hid fun w h => rlen_c hy w h
  have hl := pickN_lt (n := m.left) h0
  have hri := pickN_lt (n := m.right) h0
  have HE := Lib.hid (And.intro hle hre)
  have hd0 : decide (m.times ≤ 0) = false := decide_eq_false (by omega)
  have hT := hm.times
  unfold fits64 at hT
  clear h hk hle hre hx hy hm hroom hO hmost
  generalize pickN m.left ids.length = a at *
  generalize pickN m.right ids.length = b at *
  unfold maxLen at hcm
  unfold mkL
  go_enter Try.func63, Try.ntmps63
  go_wp2_with (first | refine sL ?_ | (refine sS ?_; clear H; intro _ H) | (refine sB ?_; clear H; intro _ _ H) | (refine sA ?_; clear H; intro _ _ H) | (go_at_call 29; with_reducible refine same (HP1.out _) ?_) | (go_at_call 29; with_reducible refine same (HP2.out _) ?_) | (go_at_call 29; with_reducible refine same (HP3.out _) ?_) | ((with_reducible refine isLoad ?_); refine AtLoad.cel rfl rfl rfl rfl (rowsA_cell1 (H.get (A := rowsA encI 32 1 (.slice (some ⟨g, 0, none⟩) ids.length c) ids) pk) encI_len HE.out.1 rfl) ?_; simp only [Act.put, puA, puB, puC]) | ((with_reducible refine isLoad ?_); refine AtLoad.cel rfl rfl rfl rfl (rowsA_cell1 (H.get (A := rowsA encI 32 1 (.slice (some ⟨g, 0, none⟩) ids.length c) ids) pk) encI_len HE.out.2 rfl) ?_; simp only [Act.put, puA, puB, puC]) | (go_at_call 92; with_reducible refine Calls.mono (HL1.out _ (H.get (A := (refA (.slice ad1 S.list.length c1) (.slice ad2 S.list.length c2) S.list)) pk)) ?_; rintro e wc ⟨rfl, hb⟩; replace H := H.grew hb.below; clear hb))
  refine wp_region_h H 14 [] [] (by kernel_rfl) (by kernel_rfl) ?_
  apply Exists.intro
  refine ⟨fun w1 hw1 HX => ?_, fun bs wr Hr => ?_⟩
  · refine sG ?_
    repeat (first | refine sQ ?_ | fail | go_big_quiet_step (fail))
    exact wpQuiet_nil rfl
  clear H
  have H := Hr
  clear Hr
  replace H := sH H; refine sT ?_
  go_wp2_with (first | refine sL ?_ | (refine sS ?_; clear H; intro _ H) | (refine sB ?_; clear H; intro _ _ H) | (refine sA ?_; clear H; intro _ _ H))
  exact bodyPost_ret (res_row_tmp rfl H rfl pk rfl rfl) rfl (OnePost.mk' _ _ rfl (H.pick2 (A := (refA (.slice ad1 S.list.length c1) (.slice ad2 S.list.length c2) S.list)) (B := rowsA encI 32 1 (.slice (some ⟨g, 0, none⟩) ids.length c) ids) pk pk).onlyTwo)
attribute [local go_sem] StStep stAt stUpon in
theorem one_powone {vr vl rv : Value} {S : Sto} {ids : List Nat} {m : Mk} (hm : m.Fits) (hO : S.Ok) (h0 : 0 < ids.length) (hids : ids.length ≤ 1048576) (hroom : S.list.length < S.most) {l r : Nat} (hle : ids[pickN m.left ids.length]? = some l) (hre : ids[pickN m.right ids.length]? = some r) {x y : En} (hx : enAt S l = some x) (hy : enAt S r = some y) (hk : pickN m.kind 4 = 3) (hl0 : ((l : Int) == 0) = false) (hp : 0 < x.w.len) (ht0 : (m.times == 1) = true) (hd0 : decide (m.times ≤ 0) = false) (hq : decide (1152921504606846976 / (x.w.len : Int) < m.times) = false) (w : World) (h : ((refA vr vl S.list).sep (rowsA encI 32 1 rv ids)).ho w) :
    Calls Try.prog 63 #[.agg #[vr, vl], .agg (mkL m).toArray, rv] w (OnePost ((refA vr vl S.list).sep (rowsA encI 32 1 rv ids)).fp rv ids l S.list w) := by
  have H := (St.one h).sep
  have hv := refA_shape (H.get Pick.here)
  have hr := rowsA_cases (H.get (Pick.there Pick.here)) h0
  generalize ((refA vr vl S.list).sep (rowsA encI 32 1 rv ids)).fp = M at H ⊢
  obtain ⟨ad1, c1, ad2, c2, rfl, rfl⟩ := hv
  obtain ⟨g, c, rfl, hc, hcm⟩ := hr
  have hmost := hO.most
  have HP1 : Hid (∀ w, Calls Try.prog 29 #[.int .i64 m.left, .int .i64 ids.length] w fun e w' => e = .returned (.int .i64 (pickN m.left ids.length : Nat)) ∧ w' = w) := Lib.hid fun w => pickf_c m.left ids.length _ rfl hm.left h0 (by omega) w
  have HP2 : Hid (∀ w, Calls Try.prog 29 #[.int .i64 m.right, .int .i64 ids.length] w fun e w' => e = .returned (.int .i64 (pickN m.right ids.length : Nat)) ∧ w' = w) := Lib.hid fun w => pickf_c m.right ids.length _ rfl hm.right h0 (by omega) w
  have HP3 : Hid (∀ w, Calls Try.prog 29 #[.int .i64 m.kind, .int .i64 4] w fun e w' => e = .returned (.int .i64 3) ∧ w' = w) := Lib.hid fun w => pick4_c m.kind 3 (by rw [hk]; rfl) hm.kind w
  have HL1 : Hid (∀ w, (refA (.slice ad1 S.list.length c1) (.slice ad2 S.list.length c2) S.list).ho w → Calls Try.prog 92 #[.agg #[.slice ad1 S.list.length c1, .slice ad2 S.list.length c2], .int .i64 l] w fun e w' => e = .returned (.int .i64 x.w.len) ∧ St w [] [] w') := Lib.hid fun w h => rlen_c hx w h
  have HL2 : Hid (∀ w, (refA (.slice ad1 S.list.length c1) (.slice ad2 S.list.length c2) S.list).ho w → Calls Try.prog 92 #[.agg #[.slice ad1 S.list.length c1, .slice ad2 S.list.length c2], .int .i64 r] w fun e w' => e = .returned (.int .i64 y.w.len) ∧ St w [] [] w') := Lib.hid fun w h => rlen_c hy w h
  have hl := pickN_lt (n := m.left) h0
  have hri := pickN_lt (n := m.right) h0
  have HE := Lib.hid (And.intro hle hre)
  have hT := hm.times
  unfold fits64 at hT
  clear h hk hle hre hx hy hm hroom hO hmost
  generalize pickN m.left ids.length = a at *
  generalize pickN m.right ids.length = b at *
  unfold maxLen at hcm
  unfold mkL
  go_enter Try.func63, Try.ntmps63
  go_wp2_with (first | refine sL ?_ | (refine sS ?_; clear H; intro _ H) | (refine sB ?_; clear H; intro _ _ H) | (refine sA ?_; clear H; intro _ _ H) | (go_at_call 29; with_reducible refine same (HP1.out _) ?_) | (go_at_call 29; with_reducible refine same (HP2.out _) ?_) | (go_at_call 29; with_reducible refine same (HP3.out _) ?_) | ((with_reducible refine isLoad ?_); refine AtLoad.cel rfl rfl rfl rfl (rowsA_cell1 (H.get (A := rowsA encI 32 1 (.slice (some ⟨g, 0, none⟩) ids.length c) ids) pk) encI_len HE.out.1 rfl) ?_; simp only [Act.put, puA, puB, puC]) | ((with_reducible refine isLoad ?_); refine AtLoad.cel rfl rfl rfl rfl (rowsA_cell1 (H.get (A := rowsA encI 32 1 (.slice (some ⟨g, 0, none⟩) ids.length c) ids) pk) encI_len HE.out.2 rfl) ?_; simp only [Act.put, puA, puB, puC]) | (go_at_call 92; with_reducible refine Calls.mono (HL1.out _ (H.get (A := (refA (.slice ad1 S.list.length c1) (.slice ad2 S.list.length c2) S.list)) pk)) ?_; rintro e wc ⟨rfl, hb⟩; replace H := H.grew hb.below; clear hb))
  refine wp_region_h H 14 [] [] (by kernel_rfl) (by kernel_rfl) ?_
  apply Exists.intro
  refine ⟨fun w1 hw1 HX => ?_, fun bs wr Hr => ?_⟩
  · refine sG ?_
    repeat (first | refine sQ ?_ | fail | go_big_quiet_step (fail))
    exact wpQuiet_nil rfl
  clear H
  have H := Hr
  clear Hr
  replace H := sH H; refine sT ?_
  go_wp2_with (first | refine sL ?_ | (refine sS ?_; clear H; intro _ H) | (refine sB ?_; clear H; intro _ _ H) | (refine sA ?_; clear H; intro _ _ H))
  exact bodyPost_ret (res_row_tmp rfl H rfl pk rfl rfl) rfl (OnePost.mk' _ _ rfl (H.pick2 (A := (refA (.slice ad1 S.list.length c1) (.slice ad2 S.list.length c2) S.list)) (B := rowsA encI 32 1 (.slice (some ⟨g, 0, none⟩) ids.length c) ids) pk pk).onlyTwo)
attribute [local go_sem] StStep stAt stUpon in
theorem one_powin {vr vl rv : Value} {S : Sto} {ids : List Nat} {m : Mk} (hm : m.Fits) (hO : S.Ok) (h0 : 0 < ids.length) (hids : ids.length ≤ 1048576) (hroom : S.list.length < S.most) {l r : Nat} (hle : ids[pickN m.left ids.length]? = some l) (hre : ids[pickN m.right ids.length]? = some r) {x y : En} (hx : enAt S l = some x) (hy : enAt S r = some y) (hk : pickN m.kind 4 = 3) (hl0 : ((l : Int) == 0) = false) (hp : 0 < x.w.len) (ht0 : (m.times == 1) = false) (k : Nat) (hkt : m.times = k) (hd0 : decide (m.times ≤ 0) = false) (hq : decide (1152921504606846976 / (x.w.len : Int) < m.times) = false) (hq2 : x.w.len * k ≤ 1152921504606846976) (w : World) (h : ((refA vr vl S.list).sep (rowsA encI 32 1 rv ids)).ho w) :
    Calls Try.prog 63 #[.agg #[vr, vl], .agg (mkL m).toArray, rv] w (OnePost ((refA vr vl S.list).sep (rowsA encI 32 1 rv ids)).fp rv ids (S.put (powerE x l k)).1.1 (S.put (powerE x l k)).2.list w) := by
  have H := (St.one h).sep
  have hv := refA_shape (H.get Pick.here)
  have hr := rowsA_cases (H.get (Pick.there Pick.here)) h0
  generalize ((refA vr vl S.list).sep (rowsA encI 32 1 rv ids)).fp = M at H ⊢
  obtain ⟨ad1, c1, ad2, c2, rfl, rfl⟩ := hv
  obtain ⟨g, c, rfl, hc, hcm⟩ := hr
  have hmost := hO.most
  have HP1 : Hid (∀ w, Calls Try.prog 29 #[.int .i64 m.left, .int .i64 ids.length] w fun e w' => e = .returned (.int .i64 (pickN m.left ids.length : Nat)) ∧ w' = w) := Lib.hid fun w => pickf_c m.left ids.length _ rfl hm.left h0 (by omega) w
  have HP2 : Hid (∀ w, Calls Try.prog 29 #[.int .i64 m.right, .int .i64 ids.length] w fun e w' => e = .returned (.int .i64 (pickN m.right ids.length : Nat)) ∧ w' = w) := Lib.hid fun w => pickf_c m.right ids.length _ rfl hm.right h0 (by omega) w
  have HP3 : Hid (∀ w, Calls Try.prog 29 #[.int .i64 m.kind, .int .i64 4] w fun e w' => e = .returned (.int .i64 3) ∧ w' = w) := Lib.hid fun w => pick4_c m.kind 3 (by rw [hk]; rfl) hm.kind w
  have HL1 : Hid (∀ w, (refA (.slice ad1 S.list.length c1) (.slice ad2 S.list.length c2) S.list).ho w → Calls Try.prog 92 #[.agg #[.slice ad1 S.list.length c1, .slice ad2 S.list.length c2], .int .i64 l] w fun e w' => e = .returned (.int .i64 x.w.len) ∧ St w [] [] w') := Lib.hid fun w h => rlen_c hx w h
  have HL2 : Hid (∀ w, (refA (.slice ad1 S.list.length c1) (.slice ad2 S.list.length c2) S.list).ho w → Calls Try.prog 92 #[.agg #[.slice ad1 S.list.length c1, .slice ad2 S.list.length c2], .int .i64 r] w fun e w' => e = .returned (.int .i64 y.w.len) ∧ St w [] [] w') := Lib.hid fun w h => rlen_c hy w h
  have hl := pickN_lt (n := m.left) h0
  have hri := pickN_lt (n := m.right) h0
  have HE := Lib.hid (And.intro hle hre)
  have HA : Hid (∀ w, (refA (.slice ad1 S.list.length c1) (.slice ad2 S.list.length c2) S.list).ho w → Calls Try.prog 91 #[.agg #[.slice ad1 S.list.length c1, .slice ad2 S.list.length c2], .agg #[.int .i64 3, .int .u8 0, .int .i64 l, .int .i64 0, .int .i64 m.times], .int .i64 ((x.w.len : Int) * m.times)] w (RefPost (refA (.slice ad1 S.list.length c1) (.slice ad2 S.list.length c2) S.list).fp (S.put (powerE x l k)).1.1 (S.put (powerE x l k)).2.list w)) := Lib.hid fun w h => by
    have := radd_c (powerE x l k) hroom hO.most w h
    rw [hkt]
    rw [show ((powerE x l k).w.len : Int) = (x.w.len : Int) * k from by simp [powerE, Wt.rep]] at this
    exact this
  have hmul : wrap64 ((x.w.len : Int) * m.times) = (x.w.len : Int) * m.times := by
    rw [hkt, ← Int.natCast_mul]; exact IntWalk.wrap64_in _ (by omega)
  clear hkt
  have hT := hm.times
  unfold fits64 at hT
  clear h hk hle hre hx hy hm hroom hO hmost
  generalize pickN m.left ids.length = a at *
  generalize pickN m.right ids.length = b at *
  unfold maxLen at hcm
  unfold mkL
  go_enter Try.func63, Try.ntmps63
  go_wp2_with (first | refine sL ?_ | (refine sS ?_; clear H; intro _ H) | (refine sB ?_; clear H; intro _ _ H) | (refine sA ?_; clear H; intro _ _ H) | (go_at_call 29; with_reducible refine same (HP1.out _) ?_) | (go_at_call 29; with_reducible refine same (HP2.out _) ?_) | (go_at_call 29; with_reducible refine same (HP3.out _) ?_) | ((with_reducible refine isLoad ?_); refine AtLoad.cel rfl rfl rfl rfl (rowsA_cell1 (H.get (A := rowsA encI 32 1 (.slice (some ⟨g, 0, none⟩) ids.length c) ids) pk) encI_len HE.out.1 rfl) ?_; simp only [Act.put, puA, puB, puC]) | ((with_reducible refine isLoad ?_); refine AtLoad.cel rfl rfl rfl rfl (rowsA_cell1 (H.get (A := rowsA encI 32 1 (.slice (some ⟨g, 0, none⟩) ids.length c) ids) pk) encI_len HE.out.2 rfl) ?_; simp only [Act.put, puA, puB, puC]) | (go_at_call 92; with_reducible refine Calls.mono (HL1.out _ (H.get (A := (refA (.slice ad1 S.list.length c1) (.slice ad2 S.list.length c2) S.list)) pk)) ?_; rintro e wc ⟨rfl, hb⟩; replace H := H.grew hb.below; clear hb))
  refine wp_region_h H 14 [] [] (by kernel_rfl) (by kernel_rfl) ?_
  apply Exists.intro
  refine ⟨fun w1 hw1 HX => ?_, fun bs wr Hr => ?_⟩
  · refine sG ?_
    repeat (first | refine sQ ?_ | fail | go_big_quiet_step (fail))
    exact wpQuiet_nil rfl
  clear H
  have H := Hr
  clear Hr
  replace H := sH H; refine sT ?_
  go_wp2_with (first | refine sL ?_ | (refine sS ?_; clear H; intro _ H) | (refine sB ?_; clear H; intro _ _ H) | (refine sA ?_; clear H; intro _ _ H))
  refine (HA.out _ (H.get pk)).mono ?_
  rintro e wc ⟨vr', vl', rfl, hb⟩
  replace H := (H.pick (A := (refA (.slice ad1 S.list.length c1) (.slice ad2 S.list.length c2) S.list)) pk).call hb
  clear hb
  obtain ⟨ad3, c3, ad4, c4, rfl, rfl⟩ := refA_shape (H.get Pick.here)
  go_wp2_with (first | refine sL ?_ | (refine sS ?_; clear H; intro _ H) | (refine sB ?_; clear H; intro _ _ H) | (refine sA ?_; clear H; intro _ _ H))
  exact bodyPost_ret (res_row_tmp rfl H rfl pk rfl rfl) rfl (OnePost.mk' _ _ rfl (H.pick2 (A := refA _ _ (S.put (powerE x l k)).2.list) (B := rowsA encI 32 1 (.slice (some ⟨g, 0, none⟩) ids.length c) ids) pk pk).onlyTwo)
attribute [local go_sem] StStep stAt stUpon in
theorem one_left1 {vr vl rv : Value} {S : Sto} {ids : List Nat} {m : Mk} (hm : m.Fits) (hO : S.Ok) (h0 : 0 < ids.length) (hids : ids.length ≤ 1048576) (hroom : S.list.length < S.most) {l r : Nat} (hle : ids[pickN m.left ids.length]? = some l) (hre : ids[pickN m.right ids.length]? = some r) {x y : En} (hx : enAt S l = some x) (hy : enAt S r = some y) (hk : pickN m.kind 4 = 1) (hl0 : ((l : Int) == 0) = true) (w : World) (h : ((refA vr vl S.list).sep (rowsA encI 32 1 rv ids)).ho w) :
    Calls Try.prog 63 #[.agg #[vr, vl], .agg (mkL m).toArray, rv] w (OnePost ((refA vr vl S.list).sep (rowsA encI 32 1 rv ids)).fp rv ids r S.list w) := by
  have H := (St.one h).sep
  have hv := refA_shape (H.get Pick.here)
  have hr := rowsA_cases (H.get (Pick.there Pick.here)) h0
  generalize ((refA vr vl S.list).sep (rowsA encI 32 1 rv ids)).fp = M at H ⊢
  obtain ⟨ad1, c1, ad2, c2, rfl, rfl⟩ := hv
  obtain ⟨g, c, rfl, hc, hcm⟩ := hr
  have hmost := hO.most
  have HP1 : Hid (∀ w, Calls Try.prog 29 #[.int .i64 m.left, .int .i64 ids.length] w fun e w' => e = .returned (.int .i64 (pickN m.left ids.length : Nat)) ∧ w' = w) := Lib.hid fun w => pickf_c m.left ids.length _ rfl hm.left h0 (by omega) w
  have HP2 : Hid (∀ w, Calls Try.prog 29 #[.int .i64 m.right, .int .i64 ids.length] w fun e w' => e = .returned (.int .i64 (pickN m.right ids.length : Nat)) ∧ w' = w) := Lib.hid fun w => pickf_c m.right ids.length _ rfl hm.right h0 (by omega) w
  have HP3 : Hid (∀ w, Calls Try.prog 29 #[.int .i64 m.kind, .int .i64 4] w fun e w' => e = .returned (.int .i64 1) ∧ w' = w) := Lib.hid fun w => pick4_c m.kind 1 (by rw [hk]; rfl) hm.kind w
  have HL1 : Hid (∀ w, (refA (.slice ad1 S.list.length c1) (.slice ad2 S.list.length c2) S.list).ho w → Calls Try.prog 92 #[.agg #[.slice ad1 S.list.length c1, .slice ad2 S.list.length c2], .int .i64 l] w fun e w' => e = .returned (.int .i64 x.w.len) ∧ St w [] [] w') := Lib.hid fun w h => rlen_c hx w h
  have HL2 : Hid (∀ w, (refA (.slice ad1 S.list.length c1) (.slice ad2 S.list.length c2) S.list).ho w → Calls Try.prog 92 #[.agg #[.slice ad1 S.list.length c1, .slice ad2 S.list.length c2], .int .i64 r] w fun e w' => e = .returned (.int .i64 y.w.len) ∧ St w [] [] w') := Lib.hid fun w h => rlen_c hy w h
  have hl := pickN_lt (n := m.left) h0
  have hri := pickN_lt (n := m.right) h0
  have HE := Lib.hid (And.intro hle hre)
  have hT := hm.times
  unfold fits64 at hT
  clear h hk hle hre hx hy hm hroom hO hmost
  generalize pickN m.left ids.length = a at *
  generalize pickN m.right ids.length = b at *
  unfold maxLen at hcm
  unfold mkL
  go_enter Try.func63, Try.ntmps63
  go_wp2_with (first | refine sL ?_ | (refine sS ?_; clear H; intro _ H) | (refine sB ?_; clear H; intro _ _ H) | (refine sA ?_; clear H; intro _ _ H) | (go_at_call 29; with_reducible refine same (HP1.out _) ?_) | (go_at_call 29; with_reducible refine same (HP2.out _) ?_) | (go_at_call 29; with_reducible refine same (HP3.out _) ?_) | ((with_reducible refine isLoad ?_); refine AtLoad.cel rfl rfl rfl rfl (rowsA_cell1 (H.get (A := rowsA encI 32 1 (.slice (some ⟨g, 0, none⟩) ids.length c) ids) pk) encI_len HE.out.1 rfl) ?_; simp only [Act.put, puA, puB, puC]) | ((with_reducible refine isLoad ?_); refine AtLoad.cel rfl rfl rfl rfl (rowsA_cell1 (H.get (A := rowsA encI 32 1 (.slice (some ⟨g, 0, none⟩) ids.length c) ids) pk) encI_len HE.out.2 rfl) ?_; simp only [Act.put, puA, puB, puC]) | (go_at_call 92; with_reducible refine Calls.mono (HL1.out _ (H.get (A := (refA (.slice ad1 S.list.length c1) (.slice ad2 S.list.length c2) S.list)) pk)) ?_; rintro e wc ⟨rfl, hb⟩; replace H := H.grew hb.below; clear hb))
  exact bodyPost_ret (res_row_tmp rfl H rfl pk rfl rfl) rfl (OnePost.mk' _ _ rfl (H.pick2 (A := (refA (.slice ad1 S.list.length c1) (.slice ad2 S.list.length c2) S.list)) (B := rowsA encI 32 1 (.slice (some ⟨g, 0, none⟩) ids.length c) ids) pk pk).onlyTwo)
attribute [local go_sem] StStep stAt stUpon in
theorem one_right1 {vr vl rv : Value} {S : Sto} {ids : List Nat} {m : Mk} (hm : m.Fits) (hO : S.Ok) (h0 : 0 < ids.length) (hids : ids.length ≤ 1048576) (hroom : S.list.length < S.most) {l r : Nat} (hle : ids[pickN m.left ids.length]? = some l) (hre : ids[pickN m.right ids.length]? = some r) {x y : En} (hx : enAt S l = some x) (hy : enAt S r = some y) (hk : pickN m.kind 4 = 1) (hl0 : ((l : Int) == 0) = false) (hr0 : ((r : Int) == 0) = true) (w : World) (h : ((refA vr vl S.list).sep (rowsA encI 32 1 rv ids)).ho w) :
    Calls Try.prog 63 #[.agg #[vr, vl], .agg (mkL m).toArray, rv] w (OnePost ((refA vr vl S.list).sep (rowsA encI 32 1 rv ids)).fp rv ids l S.list w) := by
  have H := (St.one h).sep
  have hv := refA_shape (H.get Pick.here)
  have hr := rowsA_cases (H.get (Pick.there Pick.here)) h0
  generalize ((refA vr vl S.list).sep (rowsA encI 32 1 rv ids)).fp = M at H ⊢
  obtain ⟨ad1, c1, ad2, c2, rfl, rfl⟩ := hv
  obtain ⟨g, c, rfl, hc, hcm⟩ := hr
  have hmost := hO.most
  have HP1 : Hid (∀ w, Calls Try.prog 29 #[.int .i64 m.left, .int .i64 ids.length] w fun e w' => e = .returned (.int .i64 (pickN m.left ids.length : Nat)) ∧ w' = w) := Lib.hid fun w => pickf_c m.left ids.length _ rfl hm.left h0 (by omega) w
  have HP2 : Hid (∀ w, Calls Try.prog 29 #[.int .i64 m.right, .int .i64 ids.length] w fun e w' => e = .returned (.int .i64 (pickN m.right ids.length : Nat)) ∧ w' = w) := Lib.hid fun w => pickf_c m.right ids.length _ rfl hm.right h0 (by omega) w
  have HP3 : Hid (∀ w, Calls Try.prog 29 #[.int .i64 m.kind, .int .i64 4] w fun e w' => e = .returned (.int .i64 1) ∧ w' = w) := Lib.hid fun w => pick4_c m.kind 1 (by rw [hk]; rfl) hm.kind w
  have HL1 : Hid (∀ w, (refA (.slice ad1 S.list.length c1) (.slice ad2 S.list.length c2) S.list).ho w → Calls Try.prog 92 #[.agg #[.slice ad1 S.list.length c1, .slice ad2 S.list.length c2], .int .i64 l] w fun e w' => e = .returned (.int .i64 x.w.len) ∧ St w [] [] w') := Lib.hid fun w h => rlen_c hx w h
  have HL2 : Hid (∀ w, (refA (.slice ad1 S.list.length c1) (.slice ad2 S.list.length c2) S.list).ho w → Calls Try.prog 92 #[.agg #[.slice ad1 S.list.length c1, .slice ad2 S.list.length c2], .int .i64 r] w fun e w' => e = .returned (.int .i64 y.w.len) ∧ St w [] [] w') := Lib.hid fun w h => rlen_c hy w h
  have hl := pickN_lt (n := m.left) h0
  have hri := pickN_lt (n := m.right) h0
  have HE := Lib.hid (And.intro hle hre)
  have hT := hm.times
  unfold fits64 at hT
  clear h hk hle hre hx hy hm hroom hO hmost
  generalize pickN m.left ids.length = a at *
  generalize pickN m.right ids.length = b at *
  unfold maxLen at hcm
  unfold mkL
  go_enter Try.func63, Try.ntmps63
  go_wp2_with (first | refine sL ?_ | (refine sS ?_; clear H; intro _ H) | (refine sB ?_; clear H; intro _ _ H) | (refine sA ?_; clear H; intro _ _ H) | (go_at_call 29; with_reducible refine same (HP1.out _) ?_) | (go_at_call 29; with_reducible refine same (HP2.out _) ?_) | (go_at_call 29; with_reducible refine same (HP3.out _) ?_) | ((with_reducible refine isLoad ?_); refine AtLoad.cel rfl rfl rfl rfl (rowsA_cell1 (H.get (A := rowsA encI 32 1 (.slice (some ⟨g, 0, none⟩) ids.length c) ids) pk) encI_len HE.out.1 rfl) ?_; simp only [Act.put, puA, puB, puC]) | ((with_reducible refine isLoad ?_); refine AtLoad.cel rfl rfl rfl rfl (rowsA_cell1 (H.get (A := rowsA encI 32 1 (.slice (some ⟨g, 0, none⟩) ids.length c) ids) pk) encI_len HE.out.2 rfl) ?_; simp only [Act.put, puA, puB, puC]) | (go_at_call 92; with_reducible refine Calls.mono (HL1.out _ (H.get (A := (refA (.slice ad1 S.list.length c1) (.slice ad2 S.list.length c2) S.list)) pk)) ?_; rintro e wc ⟨rfl, hb⟩; replace H := H.grew hb.below; clear hb))
  exact bodyPost_ret (res_row_tmp rfl H rfl pk rfl rfl) rfl (OnePost.mk' _ _ rfl (H.pick2 (A := (refA (.slice ad1 S.list.length c1) (.slice ad2 S.list.length c2) S.list)) (B := rowsA encI 32 1 (.slice (some ⟨g, 0, none⟩) ids.length c) ids) pk pk).onlyTwo)
attribute [local go_sem] StStep stAt stUpon in
theorem one_long1 {vr vl rv : Value} {S : Sto} {ids : List Nat} {m : Mk} (hm : m.Fits) (hO : S.Ok) (h0 : 0 < ids.length) (hids : ids.length ≤ 1048576) (hroom : S.list.length < S.most) {l r : Nat} (hle : ids[pickN m.left ids.length]? = some l) (hre : ids[pickN m.right ids.length]? = some r) {x y : En} (hx : enAt S l = some x) (hy : enAt S r = some y) (hk : pickN m.kind 4 = 1) (hl0 : ((l : Int) == 0) = false) (hr0 : ((r : Int) == 0) = false) (hxl : x.w.len ≤ 1152921504606846976) (hyl : y.w.len ≤ 1152921504606846976) (hq : decide (1152921504606846976 - (y.w.len : Int) < x.w.len) = true) (w : World) (h : ((refA vr vl S.list).sep (rowsA encI 32 1 rv ids)).ho w) :
    Calls Try.prog 63 #[.agg #[vr, vl], .agg (mkL m).toArray, rv] w (OnePost ((refA vr vl S.list).sep (rowsA encI 32 1 rv ids)).fp rv ids 0 S.list w) := by
  have H := (St.one h).sep
  have hv := refA_shape (H.get Pick.here)
  have hr := rowsA_cases (H.get (Pick.there Pick.here)) h0
  generalize ((refA vr vl S.list).sep (rowsA encI 32 1 rv ids)).fp = M at H ⊢
  obtain ⟨ad1, c1, ad2, c2, rfl, rfl⟩ := hv
  obtain ⟨g, c, rfl, hc, hcm⟩ := hr
  have hmost := hO.most
  have HP1 : Hid (∀ w, Calls Try.prog 29 #[.int .i64 m.left, .int .i64 ids.length] w fun e w' => e = .returned (.int .i64 (pickN m.left ids.length : Nat)) ∧ w' = w) := Lib.hid fun w => pickf_c m.left ids.length _ rfl hm.left h0 (by omega) w
  have HP2 : Hid (∀ w, Calls Try.prog 29 #[.int .i64 m.right, .int .i64 ids.length] w fun e w' => e = .returned (.int .i64 (pickN m.right ids.length : Nat)) ∧ w' = w) := Lib.hid fun w => pickf_c m.right ids.length _ rfl hm.right h0 (by omega) w
  have HP3 : Hid (∀ w, Calls Try.prog 29 #[.int .i64 m.kind, .int .i64 4] w fun e w' => e = .returned (.int .i64 1) ∧ w' = w) := Lib.hid fun w => pick4_c m.kind 1 (by rw [hk]; rfl) hm.kind w
  have HL1 : Hid (∀ w, (refA (.slice ad1 S.list.length c1) (.slice ad2 S.list.length c2) S.list).ho w → Calls Try.prog 92 #[.agg #[.slice ad1 S.list.length c1, .slice ad2 S.list.length c2], .int .i64 l] w fun e w' => e = .returned (.int .i64 x.w.len) ∧ St w [] [] w') := Lib.hid fun w h => rlen_c hx w h
  have HL2 : Hid (∀ w, (refA (.slice ad1 S.list.length c1) (.slice ad2 S.list.length c2) S.list).ho w → Calls Try.prog 92 #[.agg #[.slice ad1 S.list.length c1, .slice ad2 S.list.length c2], .int .i64 r] w fun e w' => e = .returned (.int .i64 y.w.len) ∧ St w [] [] w') := Lib.hid fun w h => rlen_c hy w h
  have hl := pickN_lt (n := m.left) h0
  have hri := pickN_lt (n := m.right) h0
  have HE := Lib.hid (And.intro hle hre)
  have hT := hm.times
  unfold fits64 at hT
  clear h hk hle hre hx hy hm hroom hO hmost
  generalize pickN m.left ids.length = a at *
  generalize pickN m.right ids.length = b at *
  unfold maxLen at hcm
  unfold mkL
  go_enter Try.func63, Try.ntmps63
  go_wp2_with (first | refine sL ?_ | (refine sS ?_; clear H; intro _ H) | (refine sB ?_; clear H; intro _ _ H) | (refine sA ?_; clear H; intro _ _ H) | (go_at_call 29; with_reducible refine same (HP1.out _) ?_) | (go_at_call 29; with_reducible refine same (HP2.out _) ?_) | (go_at_call 29; with_reducible refine same (HP3.out _) ?_) | ((with_reducible refine isLoad ?_); refine AtLoad.cel rfl rfl rfl rfl (rowsA_cell1 (H.get (A := rowsA encI 32 1 (.slice (some ⟨g, 0, none⟩) ids.length c) ids) pk) encI_len HE.out.1 rfl) ?_; simp only [Act.put, puA, puB, puC]) | ((with_reducible refine isLoad ?_); refine AtLoad.cel rfl rfl rfl rfl (rowsA_cell1 (H.get (A := rowsA encI 32 1 (.slice (some ⟨g, 0, none⟩) ids.length c) ids) pk) encI_len HE.out.2 rfl) ?_; simp only [Act.put, puA, puB, puC]) | (go_at_call 92; with_reducible refine Calls.mono (HL1.out _ (H.get (A := (refA (.slice ad1 S.list.length c1) (.slice ad2 S.list.length c2) S.list)) pk)) ?_; rintro e wc ⟨rfl, hb⟩; replace H := H.grew hb.below; clear hb))
  refine wp_region_h H 8 [] [] (by kernel_rfl) (by kernel_rfl) ?_
  apply Exists.intro
  refine ⟨fun w1 hw1 HX => ?_, fun bs wr Hr => ?_⟩
  · refine sG ?_
    repeat (first | refine sQ ?_ | go_big_quiet_step ((go_at_call 92; with_reducible exact quiet_st_x (HL1.out _ ((HX _).get (A := (refA (.slice ad1 S.list.length c1) (.slice ad2 S.list.length c2) S.list)) pk)))) | go_big_quiet_step ((go_at_call 92; with_reducible exact quiet_st_x (HL2.out _ ((HX _).get (A := (refA (.slice ad1 S.list.length c1) (.slice ad2 S.list.length c2) S.list)) pk)))) | go_big_quiet_step (fail))
    exact wpQuiet_nil rfl
  clear H
  have H := Hr
  clear Hr
  replace H := sH H; refine sT ?_
  go_wp2_with (first | refine sL ?_ | (refine sS ?_; clear H; intro _ H) | (refine sB ?_; clear H; intro _ _ H) | (refine sA ?_; clear H; intro _ _ H))
  exact bodyPost_ret (res_row_tmp rfl H rfl pk rfl rfl) rfl (OnePost.mk' _ _ rfl (H.pick2 (A := (refA (.slice ad1 S.list.length c1) (.slice ad2 S.list.length c2) S.list)) (B := rowsA encI 32 1 (.slice (some ⟨g, 0, none⟩) ids.length c) ids) pk pk).onlyTwo)
attribute [local go_sem] StStep stAt stUpon in
theorem one_in1 {vr vl rv : Value} {S : Sto} {ids : List Nat} {m : Mk} (hm : m.Fits) (hO : S.Ok) (h0 : 0 < ids.length) (hids : ids.length ≤ 1048576) (hroom : S.list.length < S.most) {l r : Nat} (hle : ids[pickN m.left ids.length]? = some l) (hre : ids[pickN m.right ids.length]? = some r) {x y : En} (hx : enAt S l = some x) (hy : enAt S r = some y) (hk : pickN m.kind 4 = 1) (hl0 : ((l : Int) == 0) = false) (hr0 : ((r : Int) == 0) = false) (hxl : x.w.len ≤ 1152921504606846976) (hyl : y.w.len ≤ 1152921504606846976) (hq : decide (1152921504606846976 - (y.w.len : Int) < x.w.len) = false) (w : World) (h : ((refA vr vl S.list).sep (rowsA encI 32 1 rv ids)).ho w) :
    Calls Try.prog 63 #[.agg #[vr, vl], .agg (mkL m).toArray, rv] w (OnePost ((refA vr vl S.list).sep (rowsA encI 32 1 rv ids)).fp rv ids (S.put (pairE x y l r)).1.1 (S.put (pairE x y l r)).2.list w) := by
  have H := (St.one h).sep
  have hv := refA_shape (H.get Pick.here)
  have hr := rowsA_cases (H.get (Pick.there Pick.here)) h0
  generalize ((refA vr vl S.list).sep (rowsA encI 32 1 rv ids)).fp = M at H ⊢
  obtain ⟨ad1, c1, ad2, c2, rfl, rfl⟩ := hv
  obtain ⟨g, c, rfl, hc, hcm⟩ := hr
  have hmost := hO.most
  have HP1 : Hid (∀ w, Calls Try.prog 29 #[.int .i64 m.left, .int .i64 ids.length] w fun e w' => e = .returned (.int .i64 (pickN m.left ids.length : Nat)) ∧ w' = w) := Lib.hid fun w => pickf_c m.left ids.length _ rfl hm.left h0 (by omega) w
  have HP2 : Hid (∀ w, Calls Try.prog 29 #[.int .i64 m.right, .int .i64 ids.length] w fun e w' => e = .returned (.int .i64 (pickN m.right ids.length : Nat)) ∧ w' = w) := Lib.hid fun w => pickf_c m.right ids.length _ rfl hm.right h0 (by omega) w
  have HP3 : Hid (∀ w, Calls Try.prog 29 #[.int .i64 m.kind, .int .i64 4] w fun e w' => e = .returned (.int .i64 1) ∧ w' = w) := Lib.hid fun w => pick4_c m.kind 1 (by rw [hk]; rfl) hm.kind w
  have HL1 : Hid (∀ w, (refA (.slice ad1 S.list.length c1) (.slice ad2 S.list.length c2) S.list).ho w → Calls Try.prog 92 #[.agg #[.slice ad1 S.list.length c1, .slice ad2 S.list.length c2], .int .i64 l] w fun e w' => e = .returned (.int .i64 x.w.len) ∧ St w [] [] w') := Lib.hid fun w h => rlen_c hx w h
  have HL2 : Hid (∀ w, (refA (.slice ad1 S.list.length c1) (.slice ad2 S.list.length c2) S.list).ho w → Calls Try.prog 92 #[.agg #[.slice ad1 S.list.length c1, .slice ad2 S.list.length c2], .int .i64 r] w fun e w' => e = .returned (.int .i64 y.w.len) ∧ St w [] [] w') := Lib.hid fun w h => rlen_c hy w h
  have hl := pickN_lt (n := m.left) h0
  have hri := pickN_lt (n := m.right) h0
  have HE := Lib.hid (And.intro hle hre)
  have HA : Hid (∀ w, (refA (.slice ad1 S.list.length c1) (.slice ad2 S.list.length c2) S.list).ho w → Calls Try.prog 91 #[.agg #[.slice ad1 S.list.length c1, .slice ad2 S.list.length c2], .agg #[.int .i64 2, .int .u8 0, .int .i64 l, .int .i64 r, .int .i64 0], .int .i64 ((x.w.len : Int) + y.w.len)] w (RefPost (refA (.slice ad1 S.list.length c1) (.slice ad2 S.list.length c2) S.list).fp (S.put (pairE x y l r)).1.1 (S.put (pairE x y l r)).2.list w)) := Lib.hid fun w h => by
    have := radd_c (pairE x y l r) hroom hO.most w h
    rw [show ((pairE x y l r).w.len : Int) = (x.w.len : Int) + y.w.len from by simp [pairE, Wt.join]] at this
    exact this
  have hT := hm.times
  unfold fits64 at hT
  clear h hk hle hre hx hy hm hroom hO hmost
  generalize pickN m.left ids.length = a at *
  generalize pickN m.right ids.length = b at *
  unfold maxLen at hcm
  unfold mkL
  go_enter Try.func63, Try.ntmps63
  go_wp2_with (first | refine sL ?_ | (refine sS ?_; clear H; intro _ H) | (refine sB ?_; clear H; intro _ _ H) | (refine sA ?_; clear H; intro _ _ H) | (go_at_call 29; with_reducible refine same (HP1.out _) ?_) | (go_at_call 29; with_reducible refine same (HP2.out _) ?_) | (go_at_call 29; with_reducible refine same (HP3.out _) ?_) | ((with_reducible refine isLoad ?_); refine AtLoad.cel rfl rfl rfl rfl (rowsA_cell1 (H.get (A := rowsA encI 32 1 (.slice (some ⟨g, 0, none⟩) ids.length c) ids) pk) encI_len HE.out.1 rfl) ?_; simp only [Act.put, puA, puB, puC]) | ((with_reducible refine isLoad ?_); refine AtLoad.cel rfl rfl rfl rfl (rowsA_cell1 (H.get (A := rowsA encI 32 1 (.slice (some ⟨g, 0, none⟩) ids.length c) ids) pk) encI_len HE.out.2 rfl) ?_; simp only [Act.put, puA, puB, puC]) | (go_at_call 92; with_reducible refine Calls.mono (HL1.out _ (H.get (A := (refA (.slice ad1 S.list.length c1) (.slice ad2 S.list.length c2) S.list)) pk)) ?_; rintro e wc ⟨rfl, hb⟩; replace H := H.grew hb.below; clear hb))
  rename_i b3 _ b2 _ b1 w1 K0 hK0 K1 hK1
  refine wp_region_h H 8 [] [] (by kernel_rfl) (by kernel_rfl) ?_
  apply Exists.intro
  refine ⟨fun w1 hw1 HX => ?_, fun bs wr Hr => ?_⟩
  · refine sG ?_
    repeat (first | refine sQ ?_ | go_big_quiet_step ((go_at_call 92; with_reducible exact quiet_st_x (HL1.out _ ((HX _).get (A := (refA (.slice ad1 S.list.length c1) (.slice ad2 S.list.length c2) S.list)) pk)))) | go_big_quiet_step ((go_at_call 92; with_reducible exact quiet_st_x (HL2.out _ ((HX _).get (A := (refA (.slice ad1 S.list.length c1) (.slice ad2 S.list.length c2) S.list)) pk)))) | go_big_quiet_step (fail))
    exact wpQuiet_nil rfl
  clear H
  have H := Hr
  clear Hr
  replace H := sH H; refine sT ?_
  go_wp2_with (first | refine sL ?_ | (refine sS ?_; clear H; intro _ H) | (refine sB ?_; clear H; intro _ _ H) | (refine sA ?_; clear H; intro _ _ H))
  replace H := H.pick (A := (refA (.slice ad1 S.list.length c1) (.slice ad2 S.list.length c2) S.list)) pk
  refine wp_region_rgx H [blk b1 (.cells #[.slice none 0 0, .slice none 0 0] 76), blk b2 (.cells (mkL m).toArray 115), blk b3 (.cells #[.slice ad1 S.list.length c1, .slice ad2 S.list.length c2] 76), rowsA encI 32 1 (.slice (some ⟨g, 0, none⟩) ids.length c) ids] 14 [⟨[], [], [], fun v _ => v = .agg #[.slice ad1 S.list.length c1, .slice ad2 S.list.length c2], fun _ _ => []⟩, ⟨[], [], [], fun v _ => v = .int .i64 l, fun _ _ => []⟩, ⟨[], [], [], fun v _ => v = .int .i64 r, fun _ _ => []⟩, ⟨[], [], [1, 2], fun v _ => v = .agg #[.int .i64 2, .int .u8 0, .int .i64 l, .int .i64 r, .int .i64 0], fun _ _ => []⟩, ⟨[], [], [], fun v _ => v = .agg #[.slice ad1 S.list.length c1, .slice ad2 S.list.length c2], fun _ _ => []⟩, ⟨[], [], [], fun v _ => v = .int .i64 l, fun _ _ => []⟩, ⟨[], [14], [4, 5], fun v _ => v = .int .i64 x.w.len, fun _ _ => []⟩, ⟨[], [], [], fun v _ => v = .agg #[.slice ad1 S.list.length c1, .slice ad2 S.list.length c2], fun _ _ => []⟩, ⟨[], [], [], fun v _ => v = .int .i64 r, fun _ _ => []⟩, ⟨[], [14], [7, 8], fun v _ => v = .int .i64 y.w.len, fun _ _ => []⟩, ⟨[], [], [6, 9], fun v _ => v = .int .i64 ((x.w.len : Int) + y.w.len), fun _ _ => []⟩, ⟨[14], [], [0, 3, 10], fun v _ => v = .tuple #[.agg #[tup1 v, tup2 v], .int .i64 (S.put (pairE x y l r)).1.1], fun v _ => [refA (tup1 v) (tup2 v) (S.put (pairE x y l r)).2.list]⟩, ⟨[], [], [11], fun v ds => ∃ d, ds = [d] ∧ v = .agg #[tup1 d, tup2 d], fun _ _ => []⟩, ⟨[], [], [11], fun v _ => v = .int .i64 (S.put (pairE x y l r)).1.1, fun _ _ => []⟩, ⟨[], [], [], fun _ _ => True, fun _ _ => [(refA (.slice ad1 S.list.length c1) (.slice ad2 S.list.length c2) S.list)]⟩] (by kernel_rfl)
    [[], [], [], [(1, 94), (2, 95)], [], [], [(4, 97), (5, 98)], [], [], [(7, 100), (8, 101)], [(6, 99), (9, 102)], [(0, 93), (3, 96), (10, 103)], [(11, 104)], [(11, 104)]] [(0, 93), (1, 94), (2, 95), (3, 96), (4, 97), (5, 98), (6, 99), (7, 100), (8, 101), (9, 102), (10, 103), (11, 104), (12, 105), (13, 106)] [0, 1, 2, 3, 4, 5, 6, 7, 8, 9, 10, 11, 12, 13] (by kernel_rfl) (by kernel_rfl) (by kernel_rfl) ⟨?o0, ?o1, ?o2, ?o3, ?o4, ?o5, ?o6, ?o7, ?o8, ?o9, ?o10, ?o11, ?o12, ?o13, trivial⟩ ?fin
  case o0 =>
    intro vals wx X hd H
    clear hd
    replace H := sP H
    simp only [putS, List.foldl_nil]
    first | refine StStep.cellT rfl rfl rfl gt rfl rfl ⟨rfl, H⟩ | refine StStep.wholeT rfl rfl rfl gt rfl ⟨rfl, H⟩
  case o1 =>
    intro vals wx X hd H
    clear hd
    replace H := sP H
    simp only [putS, List.foldl_nil]
    go_simp
    first | exact H | exact ⟨rfl, H⟩
  case o2 =>
    intro vals wx X hd H
    clear hd
    replace H := sP H
    simp only [putS, List.foldl_nil]
    go_simp
    first | exact H | exact ⟨rfl, H⟩
  case o3 =>
    intro vals wx X hd H
    have h1 : vals 1 = .int .i64 l := hd.1
    have h2 : vals 2 = .int .i64 r := hd.2.1
    clear hd
    replace H := sP H
    simp only [putS, List.foldl_nil, List.foldl_cons, Act.put, List.setIfInBounds_toArray, List.set_cons_zero, List.set_cons_succ, h1, h2]
    clear h1 h2
    go_simp
    first | exact H | exact ⟨rfl, H⟩
  case o4 =>
    intro vals wx X hd H
    clear hd
    replace H := sP H
    simp only [putS, List.foldl_nil]
    first | refine StStep.cellT rfl rfl rfl gt rfl rfl ⟨rfl, H⟩ | refine StStep.wholeT rfl rfl rfl gt rfl ⟨rfl, H⟩
  case o5 =>
    intro vals wx X hd H
    clear hd
    replace H := sP H
    simp only [putS, List.foldl_nil]
    go_simp
    first | exact H | exact ⟨rfl, H⟩
  case o6 =>
    intro vals wx X hd H
    have h4 : vals 4 = .agg #[.slice ad1 S.list.length c1, .slice ad2 S.list.length c2] := hd.1
    have h5 : vals 5 = .int .i64 l := hd.2.1
    clear hd
    replace H := sP H
    simp only [putS, List.foldl_nil, List.foldl_cons, Act.put, List.setIfInBounds_toArray, List.set_cons_zero, List.set_cons_succ, h4, h5]
    go_simp
    with_reducible refine Calls.mono (HL1.out _ (H.get (A := (refA (.slice ad1 S.list.length c1) (.slice ad2 S.list.length c2) S.list)) pk)) ?_
    rintro e wc ⟨rfl, hb⟩
    exact ⟨_, rfl, rfl, H.grew hb.below⟩
  case o7 =>
    intro vals wx X hd H
    clear hd
    replace H := sP H
    simp only [putS, List.foldl_nil]
    first | refine StStep.cellT rfl rfl rfl gt rfl rfl ⟨rfl, H⟩ | refine StStep.wholeT rfl rfl rfl gt rfl ⟨rfl, H⟩
  case o8 =>
    intro vals wx X hd H
    clear hd
    replace H := sP H
    simp only [putS, List.foldl_nil]
    go_simp
    first | exact H | exact ⟨rfl, H⟩
  case o9 =>
    intro vals wx X hd H
    have h7 : vals 7 = .agg #[.slice ad1 S.list.length c1, .slice ad2 S.list.length c2] := hd.1
    have h8 : vals 8 = .int .i64 r := hd.2.1
    clear hd
    replace H := sP H
    simp only [putS, List.foldl_nil, List.foldl_cons, Act.put, List.setIfInBounds_toArray, List.set_cons_zero, List.set_cons_succ, h7, h8]
    go_simp
    with_reducible refine Calls.mono (HL2.out _ (H.get (A := (refA (.slice ad1 S.list.length c1) (.slice ad2 S.list.length c2) S.list)) pk)) ?_
    rintro e wc ⟨rfl, hb⟩
    exact ⟨_, rfl, rfl, H.grew hb.below⟩
  case o10 =>
    intro vals wx X hd H
    have h6 : vals 6 = .int .i64 x.w.len := hd.1
    have h9 : vals 9 = .int .i64 y.w.len := hd.2.1
    clear hd
    replace H := sP H
    simp only [putS, List.foldl_nil, List.foldl_cons, Act.put, List.setIfInBounds_toArray, List.set_cons_zero, List.set_cons_succ, h6, h9]
    have hw := IntWalk.i64_in ((x.w.len : Int) + y.w.len) (by omega)
    clear h6 h9
    go_simp
    first | exact H | exact ⟨rfl, H⟩
  case o11 =>
    intro vals wx X hd H
    have h0 : vals 0 = .agg #[.slice ad1 S.list.length c1, .slice ad2 S.list.length c2] := hd.1
    have h3 : vals 3 = .agg #[.int .i64 2, .int .u8 0, .int .i64 l, .int .i64 r, .int .i64 0] := hd.2.1
    have h10 : vals 10 = .int .i64 ((x.w.len : Int) + y.w.len) := hd.2.2.1
    clear hd
    replace H := sP H
    simp only [putS, List.foldl_nil, List.foldl_cons, Act.put, List.setIfInBounds_toArray, List.set_cons_zero, List.set_cons_succ, h0, h3, h10]
    clear h0 h3 h10
    go_simp
    with_reducible refine Calls.mono (HA.out _ (H.get (A := (refA (.slice ad1 S.list.length c1) (.slice ad2 S.list.length c2) S.list)) pk)) ?_
    rintro e wc ⟨vr', vl', rfl, hb⟩
    exact ⟨_, rfl, rfl, (H.pick (A := (refA (.slice ad1 S.list.length c1) (.slice ad2 S.list.length c2) S.list)) pk).call hb⟩
  case o12 =>
    intro vals wx X hd H
    have h11 := hd.1
    clear hd
    replace H := sP H
    simp only [putS, List.foldl_nil, List.foldl_cons, Act.put, List.setIfInBounds_toArray, List.set_cons_zero, List.set_cons_succ]
    have e11 : vals 11 = .tuple #[.agg #[tup1 (vals 11), tup2 (vals 11)], .int .i64 (S.put (pairE x y l r)).1.1] := h11
    clear h11
    generalize tup1 (vals 11) = p at e11 H ⊢
    generalize tup2 (vals 11) = q at e11 H ⊢
    simp only [e11]
    go_simp
    exact ⟨⟨rfl, rfl⟩, H⟩
  case o13 =>
    intro vals wx X hd H
    have h11 := hd.1
    clear hd
    replace H := sP H
    simp only [putS, List.foldl_nil, List.foldl_cons, Act.put, List.setIfInBounds_toArray, List.set_cons_zero, List.set_cons_succ]
    have e11 : vals 11 = .tuple #[.agg #[tup1 (vals 11), tup2 (vals 11)], .int .i64 (S.put (pairE x y l r)).1.1] := h11
    clear h11
    generalize tup1 (vals 11) = p at e11 H ⊢
    generalize tup2 (vals 11) = q at e11 H ⊢
    simp only [e11]
    go_simp
    first | exact H | exact ⟨rfl, H⟩
  case fin =>
    intro vals wx hd H
    have h0 : vals 0 = .agg #[.slice ad1 S.list.length c1, .slice ad2 S.list.length c2] := hd.1
    have h1 : vals 1 = .int .i64 l := hd.2.1
    have h2 : vals 2 = .int .i64 r := hd.2.2.1
    have h3 : vals 3 = .agg #[.int .i64 2, .int .u8 0, .int .i64 l, .int .i64 r, .int .i64 0] := hd.2.2.2.1
    have h4 : vals 4 = .agg #[.slice ad1 S.list.length c1, .slice ad2 S.list.length c2] := hd.2.2.2.2.1
    have h5 : vals 5 = .int .i64 l := hd.2.2.2.2.2.1
    have h6 : vals 6 = .int .i64 x.w.len := hd.2.2.2.2.2.2.1
    have h7 : vals 7 = .agg #[.slice ad1 S.list.length c1, .slice ad2 S.list.length c2] := hd.2.2.2.2.2.2.2.1
    have h8 : vals 8 = .int .i64 r := hd.2.2.2.2.2.2.2.2.1
    have h9 : vals 9 = .int .i64 y.w.len := hd.2.2.2.2.2.2.2.2.2.1
    have h10 : vals 10 = .int .i64 ((x.w.len : Int) + y.w.len) := hd.2.2.2.2.2.2.2.2.2.2.1
    have h11 := hd.2.2.2.2.2.2.2.2.2.2.2.1
    have h12 := hd.2.2.2.2.2.2.2.2.2.2.2.2.1
    have h13 := hd.2.2.2.2.2.2.2.2.2.2.2.2.2.1
    clear hd
    replace H := sP H
    simp only [putS, List.foldl_nil, List.foldl_cons, Act.put, List.setIfInBounds_toArray, List.set_cons_zero, List.set_cons_succ, List.drop_succ_cons, List.drop_zero, h0, h1, h2, h3, h4, h5, h6, h7, h8, h9, h10]
    clear h0 h1 h2 h3 h4 h5 h6 h7 h8 h9 h10
    obtain ⟨d, e1, e2⟩ : ∃ d, [vals 11] = [d] ∧ vals 12 = .agg #[tup1 d, tup2 d] := h12
    have e3 : vals 13 = .int .i64 (S.put (pairE x y l r)).1.1 := h13
    clear h11 h13
    try simp only [List.cons.injEq, and_true] at e1
    subst e1
    try simp only [List.map_cons, List.map_nil, List.cons_append, List.nil_append] at H
    generalize tup1 (vals 11) = p at e2 H
    generalize tup2 (vals 11) = q at e2 H
    obtain ⟨ad3, c3, ad4, c4, rfl, rfl⟩ := refA_shape (H.get (A := refA p q (S.put (pairE x y l r)).2.list) pk)
    simp only [e2, e3]
    clear e2 e3
    go_wp2_with (first | refine sL ?_ | (refine sS ?_; clear H; intro _ H) | (refine sB ?_; clear H; intro _ _ H) | (refine sA ?_; clear H; intro _ _ H))
    exact bodyPost_ret (res_row_tmp rfl H rfl pk rfl rfl) rfl (OnePost.mk' _ _ rfl (H.pick2 (A := refA _ _ (S.put (pairE x y l r)).2.list) (B := rowsA encI 32 1 (.slice (some ⟨g, 0, none⟩) ids.length c) ids) pk pk).onlyTwo)
attribute [local go_sem] StStep stAt stUpon in
theorem one_left2 {vr vl rv : Value} {S : Sto} {ids : List Nat} {m : Mk} (hm : m.Fits) (hO : S.Ok) (h0 : 0 < ids.length) (hids : ids.length ≤ 1048576) (hroom : S.list.length < S.most) {l r : Nat} (hle : ids[pickN m.left ids.length]? = some l) (hre : ids[pickN m.right ids.length]? = some r) {x y : En} (hx : enAt S l = some x) (hy : enAt S r = some y) (hk : pickN m.kind 4 = 2) (hl0 : ((l : Int) == 0) = true) (w : World) (h : ((refA vr vl S.list).sep (rowsA encI 32 1 rv ids)).ho w) :
    Calls Try.prog 63 #[.agg #[vr, vl], .agg (mkL m).toArray, rv] w (OnePost ((refA vr vl S.list).sep (rowsA encI 32 1 rv ids)).fp rv ids r S.list w) := by
  have H := (St.one h).sep
  have hv := refA_shape (H.get Pick.here)
  have hr := rowsA_cases (H.get (Pick.there Pick.here)) h0
  generalize ((refA vr vl S.list).sep (rowsA encI 32 1 rv ids)).fp = M at H ⊢
  obtain ⟨ad1, c1, ad2, c2, rfl, rfl⟩ := hv
  obtain ⟨g, c, rfl, hc, hcm⟩ := hr
  have hmost := hO.most
  have HP1 : Hid (∀ w, Calls Try.prog 29 #[.int .i64 m.left, .int .i64 ids.length] w fun e w' => e = .returned (.int .i64 (pickN m.left ids.length : Nat)) ∧ w' = w) := Lib.hid fun w => pickf_c m.left ids.length _ rfl hm.left h0 (by omega) w
  have HP2 : Hid (∀ w, Calls Try.prog 29 #[.int .i64 m.right, .int .i64 ids.length] w fun e w' => e = .returned (.int .i64 (pickN m.right ids.length : Nat)) ∧ w' = w) := Lib.hid fun w => pickf_c m.right ids.length _ rfl hm.right h0 (by omega) w
  have HP3 : Hid (∀ w, Calls Try.prog 29 #[.int .i64 m.kind, .int .i64 4] w fun e w' => e = .returned (.int .i64 2) ∧ w' = w) := Lib.hid fun w => pick4_c m.kind 2 (by rw [hk]; rfl) hm.kind w
  have HL1 : Hid (∀ w, (refA (.slice ad1 S.list.length c1) (.slice ad2 S.list.length c2) S.list).ho w → Calls Try.prog 92 #[.agg #[.slice ad1 S.list.length c1, .slice ad2 S.list.length c2], .int .i64 l] w fun e w' => e = .returned (.int .i64 x.w.len) ∧ St w [] [] w') := Lib.hid fun w h => rlen_c hx w h
  have HL2 : Hid (∀ w, (refA (.slice ad1 S.list.length c1) (.slice ad2 S.list.length c2) S.list).ho w → Calls Try.prog 92 #[.agg #[.slice ad1 S.list.length c1, .slice ad2 S.list.length c2], .int .i64 r] w fun e w' => e = .returned (.int .i64 y.w.len) ∧ St w [] [] w') := Lib.hid fun w h => rlen_c hy w h
  have hl := pickN_lt (n := m.left) h0
  have hri := pickN_lt (n := m.right) h0
  have HE := Lib.hid (And.intro hle hre)
  have hT := hm.times
  unfold fits64 at hT
  clear h hk hle hre hx hy hm hroom hO hmost
  generalize pickN m.left ids.length = a at *
  generalize pickN m.right ids.length = b at *
  unfold maxLen at hcm
  unfold mkL
  go_enter Try.func63, Try.ntmps63
  go_wp2_with (first | refine sL ?_ | (refine sS ?_; clear H; intro _ H) | (refine sB ?_; clear H; intro _ _ H) | (refine sA ?_; clear H; intro _ _ H) | (go_at_call 29; with_reducible refine same (HP1.out _) ?_) | (go_at_call 29; with_reducible refine same (HP2.out _) ?_) | (go_at_call 29; with_reducible refine same (HP3.out _) ?_) | ((with_reducible refine isLoad ?_); refine AtLoad.cel rfl rfl rfl rfl (rowsA_cell1 (H.get (A := rowsA encI 32 1 (.slice (some ⟨g, 0, none⟩) ids.length c) ids) pk) encI_len HE.out.1 rfl) ?_; simp only [Act.put, puA, puB, puC]) | ((with_reducible refine isLoad ?_); refine AtLoad.cel rfl rfl rfl rfl (rowsA_cell1 (H.get (A := rowsA encI 32 1 (.slice (some ⟨g, 0, none⟩) ids.length c) ids) pk) encI_len HE.out.2 rfl) ?_; simp only [Act.put, puA, puB, puC]) | (go_at_call 92; with_reducible refine Calls.mono (HL1.out _ (H.get (A := (refA (.slice ad1 S.list.length c1) (.slice ad2 S.list.length c2) S.list)) pk)) ?_; rintro e wc ⟨rfl, hb⟩; replace H := H.grew hb.below; clear hb))
  exact bodyPost_ret (res_row_tmp rfl H rfl pk rfl rfl) rfl (OnePost.mk' _ _ rfl (H.pick2 (A := (refA (.slice ad1 S.list.length c1) (.slice ad2 S.list.length c2) S.list)) (B := rowsA encI 32 1 (.slice (some ⟨g, 0, none⟩) ids.length c) ids) pk pk).onlyTwo)
attribute [local go_sem] StStep stAt stUpon in
theorem one_right2 {vr vl rv : Value} {S : Sto} {ids : List Nat} {m : Mk} (hm : m.Fits) (hO : S.Ok) (h0 : 0 < ids.length) (hids : ids.length ≤ 1048576) (hroom : S.list.length < S.most) {l r : Nat} (hle : ids[pickN m.left ids.length]? = some l) (hre : ids[pickN m.right ids.length]? = some r) {x y : En} (hx : enAt S l = some x) (hy : enAt S r = some y) (hk : pickN m.kind 4 = 2) (hl0 : ((l : Int) == 0) = false) (hr0 : ((r : Int) == 0) = true) (w : World) (h : ((refA vr vl S.list).sep (rowsA encI 32 1 rv ids)).ho w) :
    Calls Try.prog 63 #[.agg #[vr, vl], .agg (mkL m).toArray, rv] w (OnePost ((refA vr vl S.list).sep (rowsA encI 32 1 rv ids)).fp rv ids l S.list w) := by
  have H := (St.one h).sep
  have hv := refA_shape (H.get Pick.here)
  have hr := rowsA_cases (H.get (Pick.there Pick.here)) h0
  generalize ((refA vr vl S.list).sep (rowsA encI 32 1 rv ids)).fp = M at H ⊢
  obtain ⟨ad1, c1, ad2, c2, rfl, rfl⟩ := hv
  obtain ⟨g, c, rfl, hc, hcm⟩ := hr
  have hmost := hO.most
  have HP1 : Hid (∀ w, Calls Try.prog 29 #[.int .i64 m.left, .int .i64 ids.length] w fun e w' => e = .returned (.int .i64 (pickN m.left ids.length : Nat)) ∧ w' = w) := Lib.hid fun w => pickf_c m.left ids.length _ rfl hm.left h0 (by omega) w
  have HP2 : Hid (∀ w, Calls Try.prog 29 #[.int .i64 m.right, .int .i64 ids.length] w fun e w' => e = .returned (.int .i64 (pickN m.right ids.length : Nat)) ∧ w' = w) := Lib.hid fun w => pickf_c m.right ids.length _ rfl hm.right h0 (by omega) w
  have HP3 : Hid (∀ w, Calls Try.prog 29 #[.int .i64 m.kind, .int .i64 4] w fun e w' => e = .returned (.int .i64 2) ∧ w' = w) := Lib.hid fun w => pick4_c m.kind 2 (by rw [hk]; rfl) hm.kind w
  have HL1 : Hid (∀ w, (refA (.slice ad1 S.list.length c1) (.slice ad2 S.list.length c2) S.list).ho w → Calls Try.prog 92 #[.agg #[.slice ad1 S.list.length c1, .slice ad2 S.list.length c2], .int .i64 l] w fun e w' => e = .returned (.int .i64 x.w.len) ∧ St w [] [] w') := Lib.hid fun w h => rlen_c hx w h
  have HL2 : Hid (∀ w, (refA (.slice ad1 S.list.length c1) (.slice ad2 S.list.length c2) S.list).ho w → Calls Try.prog 92 #[.agg #[.slice ad1 S.list.length c1, .slice ad2 S.list.length c2], .int .i64 r] w fun e w' => e = .returned (.int .i64 y.w.len) ∧ St w [] [] w') := Lib.hid fun w h => rlen_c hy w h
  have hl := pickN_lt (n := m.left) h0
  have hri := pickN_lt (n := m.right) h0
  have HE := Lib.hid (And.intro hle hre)
  have hT := hm.times
  unfold fits64 at hT
  clear h hk hle hre hx hy hm hroom hO hmost
  generalize pickN m.left ids.length = a at *
  generalize pickN m.right ids.length = b at *
  unfold maxLen at hcm
  unfold mkL
  go_enter Try.func63, Try.ntmps63
  go_wp2_with (first | refine sL ?_ | (refine sS ?_; clear H; intro _ H) | (refine sB ?_; clear H; intro _ _ H) | (refine sA ?_; clear H; intro _ _ H) | (go_at_call 29; with_reducible refine same (HP1.out _) ?_) | (go_at_call 29; with_reducible refine same (HP2.out _) ?_) | (go_at_call 29; with_reducible refine same (HP3.out _) ?_) | ((with_reducible refine isLoad ?_); refine AtLoad.cel rfl rfl rfl rfl (rowsA_cell1 (H.get (A := rowsA encI 32 1 (.slice (some ⟨g, 0, none⟩) ids.length c) ids) pk) encI_len HE.out.1 rfl) ?_; simp only [Act.put, puA, puB, puC]) | ((with_reducible refine isLoad ?_); refine AtLoad.cel rfl rfl rfl rfl (rowsA_cell1 (H.get (A := rowsA encI 32 1 (.slice (some ⟨g, 0, none⟩) ids.length c) ids) pk) encI_len HE.out.2 rfl) ?_; simp only [Act.put, puA, puB, puC]) | (go_at_call 92; with_reducible refine Calls.mono (HL1.out _ (H.get (A := (refA (.slice ad1 S.list.length c1) (.slice ad2 S.list.length c2) S.list)) pk)) ?_; rintro e wc ⟨rfl, hb⟩; replace H := H.grew hb.below; clear hb))
  exact bodyPost_ret (res_row_tmp rfl H rfl pk rfl rfl) rfl (OnePost.mk' _ _ rfl (H.pick2 (A := (refA (.slice ad1 S.list.length c1) (.slice ad2 S.list.length c2) S.list)) (B := rowsA encI 32 1 (.slice (some ⟨g, 0, none⟩) ids.length c) ids) pk pk).onlyTwo)
attribute [local go_sem] StStep stAt stUpon in
theorem one_long2 {vr vl rv : Value} {S : Sto} {ids : List Nat} {m : Mk} (hm : m.Fits) (hO : S.Ok) (h0 : 0 < ids.length) (hids : ids.length ≤ 1048576) (hroom : S.list.length < S.most) {l r : Nat} (hle : ids[pickN m.left ids.length]? = some l) (hre : ids[pickN m.right ids.length]? = some r) {x y : En} (hx : enAt S l = some x) (hy : enAt S r = some y) (hk : pickN m.kind 4 = 2) (hl0 : ((l : Int) == 0) = false) (hr0 : ((r : Int) == 0) = false) (hxl : x.w.len ≤ 1152921504606846976) (hyl : y.w.len ≤ 1152921504606846976) (hq : decide (1152921504606846976 - (y.w.len : Int) < x.w.len) = true) (w : World) (h : ((refA vr vl S.list).sep (rowsA encI 32 1 rv ids)).ho w) :
    Calls Try.prog 63 #[.agg #[vr, vl], .agg (mkL m).toArray, rv] w (OnePost ((refA vr vl S.list).sep (rowsA encI 32 1 rv ids)).fp rv ids 0 S.list w) := by
  have H := (St.one h).sep
  have hv := refA_shape (H.get Pick.here)
  have hr := rowsA_cases (H.get (Pick.there Pick.here)) h0
  generalize ((refA vr vl S.list).sep (rowsA encI 32 1 rv ids)).fp = M at H ⊢
  obtain ⟨ad1, c1, ad2, c2, rfl, rfl⟩ := hv
  obtain ⟨g, c, rfl, hc, hcm⟩ := hr
  have hmost := hO.most
  have HP1 : Hid (∀ w, Calls Try.prog 29 #[.int .i64 m.left, .int .i64 ids.length] w fun e w' => e = .returned (.int .i64 (pickN m.left ids.length : Nat)) ∧ w' = w) := Lib.hid fun w => pickf_c m.left ids.length _ rfl hm.left h0 (by omega) w
  have HP2 : Hid (∀ w, Calls Try.prog 29 #[.int .i64 m.right, .int .i64 ids.length] w fun e w' => e = .returned (.int .i64 (pickN m.right ids.length : Nat)) ∧ w' = w) := Lib.hid fun w => pickf_c m.right ids.length _ rfl hm.right h0 (by omega) w
  have HP3 : Hid (∀ w, Calls Try.prog 29 #[.int .i64 m.kind, .int .i64 4] w fun e w' => e = .returned (.int .i64 2) ∧ w' = w) := Lib.hid fun w => pick4_c m.kind 2 (by rw [hk]; rfl) hm.kind w
  have HL1 : Hid (∀ w, (refA (.slice ad1 S.list.length c1) (.slice ad2 S.list.length c2) S.list).ho w → Calls Try.prog 92 #[.agg #[.slice ad1 S.list.length c1, .slice ad2 S.list.length c2], .int .i64 l] w fun e w' => e = .returned (.int .i64 x.w.len) ∧ St w [] [] w') := Lib.hid fun w h => rlen_c hx w h
  have HL2 : Hid (∀ w, (refA (.slice ad1 S.list.length c1) (.slice ad2 S.list.length c2) S.list).ho w → Calls Try.prog 92 #[.agg #[.slice ad1 S.list.length c1, .slice ad2 S.list.length c2], .int .i64 r] w fun e w' => e = .returned (.int .i64 y.w.len) ∧ St w [] [] w') := Lib.hid fun w h => rlen_c hy w h
  have hl := pickN_lt (n := m.left) h0
  have hri := pickN_lt (n := m.right) h0
  have HE := Lib.hid (And.intro hle hre)
  have hT := hm.times
  unfold fits64 at hT
  clear h hk hle hre hx hy hm hroom hO hmost
  generalize pickN m.left ids.length = a at *
  generalize pickN m.right ids.length = b at *
  unfold maxLen at hcm
  unfold mkL
  go_enter Try.func63, Try.ntmps63
  go_wp2_with (first | refine sL ?_ | (refine sS ?_; clear H; intro _ H) | (refine sB ?_; clear H; intro _ _ H) | (refine sA ?_; clear H; intro _ _ H) | (go_at_call 29; with_reducible refine same (HP1.out _) ?_) | (go_at_call 29; with_reducible refine same (HP2.out _) ?_) | (go_at_call 29; with_reducible refine same (HP3.out _) ?_) | ((with_reducible refine isLoad ?_); refine AtLoad.cel rfl rfl rfl rfl (rowsA_cell1 (H.get (A := rowsA encI 32 1 (.slice (some ⟨g, 0, none⟩) ids.length c) ids) pk) encI_len HE.out.1 rfl) ?_; simp only [Act.put, puA, puB, puC]) | ((with_reducible refine isLoad ?_); refine AtLoad.cel rfl rfl rfl rfl (rowsA_cell1 (H.get (A := rowsA encI 32 1 (.slice (some ⟨g, 0, none⟩) ids.length c) ids) pk) encI_len HE.out.2 rfl) ?_; simp only [Act.put, puA, puB, puC]) | (go_at_call 92; with_reducible refine Calls.mono (HL1.out _ (H.get (A := (refA (.slice ad1 S.list.length c1) (.slice ad2 S.list.length c2) S.list)) pk)) ?_; rintro e wc ⟨rfl, hb⟩; replace H := H.grew hb.below; clear hb))
  refine wp_region_h H 8 [] [] (by kernel_rfl) (by kernel_rfl) ?_
  apply Exists.intro
  refine ⟨fun w1 hw1 HX => ?_, fun bs wr Hr => ?_⟩
  · refine sG ?_
    repeat (first | refine sQ ?_ | go_big_quiet_step ((go_at_call 92; with_reducible exact quiet_st_x (HL1.out _ ((HX _).get (A := (refA (.slice ad1 S.list.length c1) (.slice ad2 S.list.length c2) S.list)) pk)))) | go_big_quiet_step ((go_at_call 92; with_reducible exact quiet_st_x (HL2.out _ ((HX _).get (A := (refA (.slice ad1 S.list.length c1) (.slice ad2 S.list.length c2) S.list)) pk)))) | go_big_quiet_step (fail))
    exact wpQuiet_nil rfl
  clear H
  have H := Hr
  clear Hr
  replace H := sH H; refine sT ?_
  go_wp2_with (first | refine sL ?_ | (refine sS ?_; clear H; intro _ H) | (refine sB ?_; clear H; intro _ _ H) | (refine sA ?_; clear H; intro _ _ H))
  exact bodyPost_ret (res_row_tmp rfl H rfl pk rfl rfl) rfl (OnePost.mk' _ _ rfl (H.pick2 (A := (refA (.slice ad1 S.list.length c1) (.slice ad2 S.list.length c2) S.list)) (B := rowsA encI 32 1 (.slice (some ⟨g, 0, none⟩) ids.length c) ids) pk pk).onlyTwo)
attribute [local go_sem] StStep stAt stUpon in
theorem one_in2 {vr vl rv : Value} {S : Sto} {ids : List Nat} {m : Mk} (hm : m.Fits) (hO : S.Ok) (h0 : 0 < ids.length) (hids : ids.length ≤ 1048576) (hroom : S.list.length < S.most) {l r : Nat} (hle : ids[pickN m.left ids.length]? = some l) (hre : ids[pickN m.right ids.length]? = some r) {x y : En} (hx : enAt S l = some x) (hy : enAt S r = some y) (hk : pickN m.kind 4 = 2) (hl0 : ((l : Int) == 0) = false) (hr0 : ((r : Int) == 0) = false) (hxl : x.w.len ≤ 1152921504606846976) (hyl : y.w.len ≤ 1152921504606846976) (hq : decide (1152921504606846976 - (y.w.len : Int) < x.w.len) = false) (w : World) (h : ((refA vr vl S.list).sep (rowsA encI 32 1 rv ids)).ho w) :
    Calls Try.prog 63 #[.agg #[vr, vl], .agg (mkL m).toArray, rv] w (OnePost ((refA vr vl S.list).sep (rowsA encI 32 1 rv ids)).fp rv ids (S.put (pairE x y l r)).1.1 (S.put (pairE x y l r)).2.list w) := by
  have H := (St.one h).sep
  have hv := refA_shape (H.get Pick.here)
  have hr := rowsA_cases (H.get (Pick.there Pick.here)) h0
  generalize ((refA vr vl S.list).sep (rowsA encI 32 1 rv ids)).fp = M at H ⊢
  obtain ⟨ad1, c1, ad2, c2, rfl, rfl⟩ := hv
  obtain ⟨g, c, rfl, hc, hcm⟩ := hr
  have hmost := hO.most
  have HP1 : Hid (∀ w, Calls Try.prog 29 #[.int .i64 m.left, .int .i64 ids.length] w fun e w' => e = .returned (.int .i64 (pickN m.left ids.length : Nat)) ∧ w' = w) := Lib.hid fun w => pickf_c m.left ids.length _ rfl hm.left h0 (by omega) w
  have HP2 : Hid (∀ w, Calls Try.prog 29 #[.int .i64 m.right, .int .i64 ids.length] w fun e w' => e = .returned (.int .i64 (pickN m.right ids.length : Nat)) ∧ w' = w) := Lib.hid fun w => pickf_c m.right ids.length _ rfl hm.right h0 (by omega) w
  have HP3 : Hid (∀ w, Calls Try.prog 29 #[.int .i64 m.kind, .int .i64 4] w fun e w' => e = .returned (.int .i64 2) ∧ w' = w) := Lib.hid fun w => pick4_c m.kind 2 (by rw [hk]; rfl) hm.kind w
  have HL1 : Hid (∀ w, (refA (.slice ad1 S.list.length c1) (.slice ad2 S.list.length c2) S.list).ho w → Calls Try.prog 92 #[.agg #[.slice ad1 S.list.length c1, .slice ad2 S.list.length c2], .int .i64 l] w fun e w' => e = .returned (.int .i64 x.w.len) ∧ St w [] [] w') := Lib.hid fun w h => rlen_c hx w h
  have HL2 : Hid (∀ w, (refA (.slice ad1 S.list.length c1) (.slice ad2 S.list.length c2) S.list).ho w → Calls Try.prog 92 #[.agg #[.slice ad1 S.list.length c1, .slice ad2 S.list.length c2], .int .i64 r] w fun e w' => e = .returned (.int .i64 y.w.len) ∧ St w [] [] w') := Lib.hid fun w h => rlen_c hy w h
  have hl := pickN_lt (n := m.left) h0
  have hri := pickN_lt (n := m.right) h0
  have HE := Lib.hid (And.intro hle hre)
  have HA : Hid (∀ w, (refA (.slice ad1 S.list.length c1) (.slice ad2 S.list.length c2) S.list).ho w → Calls Try.prog 91 #[.agg #[.slice ad1 S.list.length c1, .slice ad2 S.list.length c2], .agg #[.int .i64 2, .int .u8 0, .int .i64 l, .int .i64 r, .int .i64 0], .int .i64 ((x.w.len : Int) + y.w.len)] w (RefPost (refA (.slice ad1 S.list.length c1) (.slice ad2 S.list.length c2) S.list).fp (S.put (pairE x y l r)).1.1 (S.put (pairE x y l r)).2.list w)) := Lib.hid fun w h => by
    have := radd_c (pairE x y l r) hroom hO.most w h
    rw [show ((pairE x y l r).w.len : Int) = (x.w.len : Int) + y.w.len from by simp [pairE, Wt.join]] at this
    exact this
  have hT := hm.times
  unfold fits64 at hT
  clear h hk hle hre hx hy hm hroom hO hmost
  generalize pickN m.left ids.length = a at *
  generalize pickN m.right ids.length = b at *
  unfold maxLen at hcm
  unfold mkL
  go_enter Try.func63, Try.ntmps63
  go_wp2_with (first | refine sL ?_ | (refine sS ?_; clear H; intro _ H) | (refine sB ?_; clear H; intro _ _ H) | (refine sA ?_; clear H; intro _ _ H) | (go_at_call 29; with_reducible refine same (HP1.out _) ?_) | (go_at_call 29; with_reducible refine same (HP2.out _) ?_) | (go_at_call 29; with_reducible refine same (HP3.out _) ?_) | ((with_reducible refine isLoad ?_); refine AtLoad.cel rfl rfl rfl rfl (rowsA_cell1 (H.get (A := rowsA encI 32 1 (.slice (some ⟨g, 0, none⟩) ids.length c) ids) pk) encI_len HE.out.1 rfl) ?_; simp only [Act.put, puA, puB, puC]) | ((with_reducible refine isLoad ?_); refine AtLoad.cel rfl rfl rfl rfl (rowsA_cell1 (H.get (A := rowsA encI 32 1 (.slice (some ⟨g, 0, none⟩) ids.length c) ids) pk) encI_len HE.out.2 rfl) ?_; simp only [Act.put, puA, puB, puC]) | (go_at_call 92; with_reducible refine Calls.mono (HL1.out _ (H.get (A := (refA (.slice ad1 S.list.length c1) (.slice ad2 S.list.length c2) S.list)) pk)) ?_; rintro e wc ⟨rfl, hb⟩; replace H := H.grew hb.below; clear hb))
  rename_i b3 _ b2 _ b1 w1 K0 hK0 K1 hK1
  refine wp_region_h H 8 [] [] (by kernel_rfl) (by kernel_rfl) ?_
  apply Exists.intro
  refine ⟨fun w1 hw1 HX => ?_, fun bs wr Hr => ?_⟩
  · refine sG ?_
    repeat (first | refine sQ ?_ | go_big_quiet_step ((go_at_call 92; with_reducible exact quiet_st_x (HL1.out _ ((HX _).get (A := (refA (.slice ad1 S.list.length c1) (.slice ad2 S.list.length c2) S.list)) pk)))) | go_big_quiet_step ((go_at_call 92; with_reducible exact quiet_st_x (HL2.out _ ((HX _).get (A := (refA (.slice ad1 S.list.length c1) (.slice ad2 S.list.length c2) S.list)) pk)))) | go_big_quiet_step (fail))
    exact wpQuiet_nil rfl
  clear H
  have H := Hr
  clear Hr
  replace H := sH H; refine sT ?_
  go_wp2_with (first | refine sL ?_ | (refine sS ?_; clear H; intro _ H) | (refine sB ?_; clear H; intro _ _ H) | (refine sA ?_; clear H; intro _ _ H))
  replace H := H.pick (A := (refA (.slice ad1 S.list.length c1) (.slice ad2 S.list.length c2) S.list)) pk
  refine wp_region_rgx H [blk b1 (.cells #[.slice none 0 0, .slice none 0 0] 76), blk b2 (.cells (mkL m).toArray 115), blk b3 (.cells #[.slice ad1 S.list.length c1, .slice ad2 S.list.length c2] 76), rowsA encI 32 1 (.slice (some ⟨g, 0, none⟩) ids.length c) ids] 14 [⟨[], [], [], fun v _ => v = .agg #[.slice ad1 S.list.length c1, .slice ad2 S.list.length c2], fun _ _ => []⟩, ⟨[], [], [], fun v _ => v = .int .i64 l, fun _ _ => []⟩, ⟨[], [], [], fun v _ => v = .int .i64 r, fun _ _ => []⟩, ⟨[], [], [1, 2], fun v _ => v = .agg #[.int .i64 2, .int .u8 0, .int .i64 l, .int .i64 r, .int .i64 0], fun _ _ => []⟩, ⟨[], [], [], fun v _ => v = .agg #[.slice ad1 S.list.length c1, .slice ad2 S.list.length c2], fun _ _ => []⟩, ⟨[], [], [], fun v _ => v = .int .i64 l, fun _ _ => []⟩, ⟨[], [14], [4, 5], fun v _ => v = .int .i64 x.w.len, fun _ _ => []⟩, ⟨[], [], [], fun v _ => v = .agg #[.slice ad1 S.list.length c1, .slice ad2 S.list.length c2], fun _ _ => []⟩, ⟨[], [], [], fun v _ => v = .int .i64 r, fun _ _ => []⟩, ⟨[], [14], [7, 8], fun v _ => v = .int .i64 y.w.len, fun _ _ => []⟩, ⟨[], [], [6, 9], fun v _ => v = .int .i64 ((x.w.len : Int) + y.w.len), fun _ _ => []⟩, ⟨[14], [], [0, 3, 10], fun v _ => v = .tuple #[.agg #[tup1 v, tup2 v], .int .i64 (S.put (pairE x y l r)).1.1], fun v _ => [refA (tup1 v) (tup2 v) (S.put (pairE x y l r)).2.list]⟩, ⟨[], [], [11], fun v ds => ∃ d, ds = [d] ∧ v = .agg #[tup1 d, tup2 d], fun _ _ => []⟩, ⟨[], [], [11], fun v _ => v = .int .i64 (S.put (pairE x y l r)).1.1, fun _ _ => []⟩, ⟨[], [], [], fun _ _ => True, fun _ _ => [(refA (.slice ad1 S.list.length c1) (.slice ad2 S.list.length c2) S.list)]⟩] (by kernel_rfl)
    [[], [], [], [(1, 94), (2, 95)], [], [], [(4, 97), (5, 98)], [], [], [(7, 100), (8, 101)], [(6, 99), (9, 102)], [(0, 93), (3, 96), (10, 103)], [(11, 104)], [(11, 104)]] [(0, 93), (1, 94), (2, 95), (3, 96), (4, 97), (5, 98), (6, 99), (7, 100), (8, 101), (9, 102), (10, 103), (11, 104), (12, 105), (13, 106)] [0, 1, 2, 3, 4, 5, 6, 7, 8, 9, 10, 11, 12, 13] (by kernel_rfl) (by kernel_rfl) (by kernel_rfl) ⟨?o0, ?o1, ?o2, ?o3, ?o4, ?o5, ?o6, ?o7, ?o8, ?o9, ?o10, ?o11, ?o12, ?o13, trivial⟩ ?fin
  case o0 =>
    intro vals wx X hd H
    clear hd
    replace H := sP H
    simp only [putS, List.foldl_nil]
    first | refine StStep.cellT rfl rfl rfl gt rfl rfl ⟨rfl, H⟩ | refine StStep.wholeT rfl rfl rfl gt rfl ⟨rfl, H⟩
  case o1 =>
    intro vals wx X hd H
    clear hd
    replace H := sP H
    simp only [putS, List.foldl_nil]
    go_simp
    first | exact H | exact ⟨rfl, H⟩
  case o2 =>
    intro vals wx X hd H
    clear hd
    replace H := sP H
    simp only [putS, List.foldl_nil]
    go_simp
    first | exact H | exact ⟨rfl, H⟩
  case o3 =>
    intro vals wx X hd H
    have h1 : vals 1 = .int .i64 l := hd.1
    have h2 : vals 2 = .int .i64 r := hd.2.1
    clear hd
    replace H := sP H
    simp only [putS, List.foldl_nil, List.foldl_cons, Act.put, List.setIfInBounds_toArray, List.set_cons_zero, List.set_cons_succ, h1, h2]
    clear h1 h2
    go_simp
    first | exact H | exact ⟨rfl, H⟩
  case o4 =>
    intro vals wx X hd H
    clear hd
    replace H := sP H
    simp only [putS, List.foldl_nil]
    first | refine StStep.cellT rfl rfl rfl gt rfl rfl ⟨rfl, H⟩ | refine StStep.wholeT rfl rfl rfl gt rfl ⟨rfl, H⟩
  case o5 =>
    intro vals wx X hd H
    clear hd
    replace H := sP H
    simp only [putS, List.foldl_nil]
    go_simp
    first | exact H | exact ⟨rfl, H⟩
  case o6 =>
    intro vals wx X hd H
    have h4 : vals 4 = .agg #[.slice ad1 S.list.length c1, .slice ad2 S.list.length c2] := hd.1
    have h5 : vals 5 = .int .i64 l := hd.2.1
    clear hd
    replace H := sP H
    simp only [putS, List.foldl_nil, List.foldl_cons, Act.put, List.setIfInBounds_toArray, List.set_cons_zero, List.set_cons_succ, h4, h5]
    go_simp
    with_reducible refine Calls.mono (HL1.out _ (H.get (A := (refA (.slice ad1 S.list.length c1) (.slice ad2 S.list.length c2) S.list)) pk)) ?_
    rintro e wc ⟨rfl, hb⟩
    exact ⟨_, rfl, rfl, H.grew hb.below⟩
  case o7 =>
    intro vals wx X hd H
    clear hd
    replace H := sP H
    simp only [putS, List.foldl_nil]
    first | refine StStep.cellT rfl rfl rfl gt rfl rfl ⟨rfl, H⟩ | refine StStep.wholeT rfl rfl rfl gt rfl ⟨rfl, H⟩
  case o8 =>
    intro vals wx X hd H
    clear hd
    replace H := sP H
    simp only [putS, List.foldl_nil]
    go_simp
    first | exact H | exact ⟨rfl, H⟩
  case o9 =>
    intro vals wx X hd H
    have h7 : vals 7 = .agg #[.slice ad1 S.list.length c1, .slice ad2 S.list.length c2] := hd.1
    have h8 : vals 8 = .int .i64 r := hd.2.1
    clear hd
    replace H := sP H
    simp only [putS, List.foldl_nil, List.foldl_cons, Act.put, List.setIfInBounds_toArray, List.set_cons_zero, List.set_cons_succ, h7, h8]
    go_simp
    with_reducible refine Calls.mono (HL2.out _ (H.get (A := (refA (.slice ad1 S.list.length c1) (.slice ad2 S.list.length c2) S.list)) pk)) ?_
    rintro e wc ⟨rfl, hb⟩
    exact ⟨_, rfl, rfl, H.grew hb.below⟩
  case o10 =>
    intro vals wx X hd H
    have h6 : vals 6 = .int .i64 x.w.len := hd.1
    have h9 : vals 9 = .int .i64 y.w.len := hd.2.1
    clear hd
    replace H := sP H
    simp only [putS, List.foldl_nil, List.foldl_cons, Act.put, List.setIfInBounds_toArray, List.set_cons_zero, List.set_cons_succ, h6, h9]
    have hw := IntWalk.i64_in ((x.w.len : Int) + y.w.len) (by omega)
    clear h6 h9
    go_simp
    first | exact H | exact ⟨rfl, H⟩
  case o11 =>
    intro vals wx X hd H
    have h0 : vals 0 = .agg #[.slice ad1 S.list.length c1, .slice ad2 S.list.length c2] := hd.1
    have h3 : vals 3 = .agg #[.int .i64 2, .int .u8 0, .int .i64 l, .int .i64 r, .int .i64 0] := hd.2.1
    have h10 : vals 10 = .int .i64 ((x.w.len : Int) + y.w.len) := hd.2.2.1
    clear hd
    replace H := sP H
    simp only [putS, List.foldl_nil, List.foldl_cons, Act.put, List.setIfInBounds_toArray, List.set_cons_zero, List.set_cons_succ, h0, h3, h10]
    clear h0 h3 h10
    go_simp
    with_reducible refine Calls.mono (HA.out _ (H.get (A := (refA (.slice ad1 S.list.length c1) (.slice ad2 S.list.length c2) S.list)) pk)) ?_
    rintro e wc ⟨vr', vl', rfl, hb⟩
    exact ⟨_, rfl, rfl, (H.pick (A := (refA (.slice ad1 S.list.length c1) (.slice ad2 S.list.length c2) S.list)) pk).call hb⟩
  case o12 =>
    intro vals wx X hd H
    have h11 := hd.1
    clear hd
    replace H := sP H
    simp only [putS, List.foldl_nil, List.foldl_cons, Act.put, List.setIfInBounds_toArray, List.set_cons_zero, List.set_cons_succ]
    have e11 : vals 11 = .tuple #[.agg #[tup1 (vals 11), tup2 (vals 11)], .int .i64 (S.put (pairE x y l r)).1.1] := h11
    clear h11
    generalize tup1 (vals 11) = p at e11 H ⊢
    generalize tup2 (vals 11) = q at e11 H ⊢
    simp only [e11]
    go_simp
    exact ⟨⟨rfl, rfl⟩, H⟩
  case o13 =>
    intro vals wx X hd H
    have h11 := hd.1
    clear hd
    replace H := sP H
    simp only [putS, List.foldl_nil, List.foldl_cons, Act.put, List.setIfInBounds_toArray, List.set_cons_zero, List.set_cons_succ]
    have e11 : vals 11 = .tuple #[.agg #[tup1 (vals 11), tup2 (vals 11)], .int .i64 (S.put (pairE x y l r)).1.1] := h11
    clear h11
    generalize tup1 (vals 11) = p at e11 H ⊢
    generalize tup2 (vals 11) = q at e11 H ⊢
    simp only [e11]
    go_simp
    first | exact H | exact ⟨rfl, H⟩
  case fin =>
    intro vals wx hd H
    have h0 : vals 0 = .agg #[.slice ad1 S.list.length c1, .slice ad2 S.list.length c2] := hd.1
    have h1 : vals 1 = .int .i64 l := hd.2.1
    have h2 : vals 2 = .int .i64 r := hd.2.2.1
    have h3 : vals 3 = .agg #[.int .i64 2, .int .u8 0, .int .i64 l, .int .i64 r, .int .i64 0] := hd.2.2.2.1
    have h4 : vals 4 = .agg #[.slice ad1 S.list.length c1, .slice ad2 S.list.length c2] := hd.2.2.2.2.1
    have h5 : vals 5 = .int .i64 l := hd.2.2.2.2.2.1
    have h6 : vals 6 = .int .i64 x.w.len := hd.2.2.2.2.2.2.1
    have h7 : vals 7 = .agg #[.slice ad1 S.list.length c1, .slice ad2 S.list.length c2] := hd.2.2.2.2.2.2.2.1
    have h8 : vals 8 = .int .i64 r := hd.2.2.2.2.2.2.2.2.1
    have h9 : vals 9 = .int .i64 y.w.len := hd.2.2.2.2.2.2.2.2.2.1
    have h10 : vals 10 = .int .i64 ((x.w.len : Int) + y.w.len) := hd.2.2.2.2.2.2.2.2.2.2.1
    have h11 := hd.2.2.2.2.2.2.2.2.2.2.2.1
    have h12 := hd.2.2.2.2.2.2.2.2.2.2.2.2.1
    have h13 := hd.2.2.2.2.2.2.2.2.2.2.2.2.2.1
    clear hd
    replace H := sP H
    simp only [putS, List.foldl_nil, List.foldl_cons, Act.put, List.setIfInBounds_toArray, List.set_cons_zero, List.set_cons_succ, List.drop_succ_cons, List.drop_zero, h0, h1, h2, h3, h4, h5, h6, h7, h8, h9, h10]
    clear h0 h1 h2 h3 h4 h5 h6 h7 h8 h9 h10
    obtain ⟨d, e1, e2⟩ : ∃ d, [vals 11] = [d] ∧ vals 12 = .agg #[tup1 d, tup2 d] := h12
    have e3 : vals 13 = .int .i64 (S.put (pairE x y l r)).1.1 := h13
    clear h11 h13
    try simp only [List.cons.injEq, and_true] at e1
    subst e1
    try simp only [List.map_cons, List.map_nil, List.cons_append, List.nil_append] at H
    generalize tup1 (vals 11) = p at e2 H
    generalize tup2 (vals 11) = q at e2 H
    obtain ⟨ad3, c3, ad4, c4, rfl, rfl⟩ := refA_shape (H.get (A := refA p q (S.put (pairE x y l r)).2.list) pk)
    simp only [e2, e3]
    clear e2 e3
    go_wp2_with (first | refine sL ?_ | (refine sS ?_; clear H; intro _ H) | (refine sB ?_; clear H; intro _ _ H) | (refine sA ?_; clear H; intro _ _ H))
    exact bodyPost_ret (res_row_tmp rfl H rfl pk rfl rfl) rfl (OnePost.mk' _ _ rfl (H.pick2 (A := refA _ _ (S.put (pairE x y l r)).2.list) (B := rowsA encI 32 1 (.slice (some ⟨g, 0, none⟩) ids.length c) ids) pk pk).onlyTwo)
theorem div_dec (a k : Nat) (ha : 0 < a) : decide (1152921504606846976 / (a : Int) < (k : Int)) = decide (maxT < a * k) := by
  have h1 : 1152921504606846976 / a < k ↔ maxT < a * k := by rw [maxT_eq, Nat.div_lt_iff_lt_mul ha, Nat.mul_comm]
  have h2 : (1152921504606846976 / (a : Int) < (k : Int)) ↔ 1152921504606846976 / a < k := by
    rw [← Int.ofNat_lt]; simp [Int.natCast_ediv]
  exact decide_eq_decide.2 (h2.trans h1)
theorem zero_dec (l : Nat) (h : l = 0) : ((l : Int) == 0) = true := by subst h; rfl
theorem pos_dec (l : Nat) (h : l ≠ 0) : ((l : Int) == 0) = false := by rw [beq_eq_false_iff_ne]; omega
theorem enAt_good {S : Sto} (h : S.Ok) {l : Nat} {x : En} (hx : enAt S l = some x) (hl : l ≠ 0) : 0 < x.w.len ∧ x.w.len ≤ 1152921504606846976 := by
  cases l with
  | zero => exact absurd rfl hl
  | succ l => exact ⟨(h.good l x (by simpa [enAt] using hx)).pos, (h.good l x (by simpa [enAt] using hx)).wok.len⟩
theorem one_c {vr vl rv : Value} {S : Sto} {ids : List Nat} {m : Mk} (hm : m.Fits) (hO : S.Ok) (h0 : 0 < ids.length) (hids : ids.length ≤ 1048576) (hin : ∀ i ∈ ids, i ≤ S.list.length) (hroom : S.list.length < S.most) (w : World) (h : ((refA vr vl S.list).sep (rowsA encI 32 1 rv ids)).ho w) :
    Calls Try.prog 63 #[.agg #[vr, vl], .agg (mkL m).toArray, rv] w (OnePost ((refA vr vl S.list).sep (rowsA encI 32 1 rv ids)).fp rv ids (S.make ids m).1.1 (S.make ids m).2.list w) := by
  have hl := pickN_lt (n := m.left) h0
  have hri := pickN_lt (n := m.right) h0
  obtain ⟨l, hle⟩ : ∃ l, ids[pickN m.left ids.length]? = some l := ⟨ids[pickN m.left ids.length], by simp [hl]⟩
  obtain ⟨r, hre⟩ : ∃ r, ids[pickN m.right ids.length]? = some r := ⟨ids[pickN m.right ids.length], by simp [hri]⟩
  obtain ⟨x, hx⟩ := enAt_some (S := S) (hin l (List.mem_of_getElem? hle))
  obtain ⟨y, hy⟩ := enAt_some (S := S) (hin r (List.mem_of_getElem? hre))
  have e1 : ids.getD (pickN m.left ids.length) 0 = l := by rw [List.getD_eq_getElem?_getD, hle]; rfl
  have e2 : ids.getD (pickN m.right ids.length) 0 = r := by rw [List.getD_eq_getElem?_getD, hre]; rfl
  have hk4 := pickN_lt (n := m.kind) (m := 4) (by omega)
  have hf := hm.times
  unfold fits64 at hf
  unfold Sto.make
  rw [e1, e2]
  clear e1 e2
  by_cases k0 : pickN m.kind 4 = 0
  · rw [if_pos k0]
    exact one_letter hm hO h0 hids hroom hle hre hx hy k0 w h
  · rw [if_neg k0]
    by_cases k3 : pickN m.kind 4 = 3
    · rw [if_pos k3]
      unfold Sto.power
      simp only [hx]
      by_cases hl0 : l = 0
      · rw [if_pos (Or.inr hl0)]
        exact one_pow0 hm hO h0 hids hroom hle hre hx hy k3 (zero_dec l hl0) w h
      · obtain ⟨hp, hxl⟩ := enAt_good hO hx hl0
        by_cases ht : m.times ≤ 0
        · rw [if_pos (Or.inl (by omega))]
          exact one_powt hm hO h0 hids hroom hle hre hx hy k3 (pos_dec l hl0) ht w h
        · obtain ⟨k, hk⟩ : ∃ k : Nat, m.times = k := ⟨m.times.toNat, by omega⟩
          have hkn : m.times.toNat = k := by omega
          rw [hkn, if_neg (by omega)]
          have hd := div_dec x.w.len k hp
          by_cases h1 : k = 1
          · rw [if_pos h1]
            subst h1
            exact one_powone hm hO h0 hids hroom hle hre hx hy k3 (pos_dec l hl0) hp (by rw [hk]; rfl) (decide_eq_false ht) (by rw [hk, hd]; exact decide_eq_false (by rw [maxT_eq]; omega)) w h
          · rw [if_neg h1]
            by_cases hlong : maxT < x.w.len * k
            · rw [if_pos hlong]
              exact one_powlong hm hO h0 hids hroom hle hre hx hy k3 (pos_dec l hl0) hp (by omega) (by rw [hk, hd]; exact decide_eq_true hlong) w h
            · rw [if_neg hlong]
              exact one_powin hm hO h0 hids hroom hle hre hx hy k3 (pos_dec l hl0) hp (by rw [hk, beq_eq_false_iff_ne]; omega) k hk (decide_eq_false ht) (by rw [hk, hd]; exact decide_eq_false hlong) (by rw [maxT_eq] at hlong; omega) w h
    · rw [if_neg k3]
      unfold Sto.pair
      simp only [hx, hy]
      by_cases hl0 : l = 0
      · rw [if_pos hl0]
        by_cases k1 : pickN m.kind 4 = 1
        · exact one_left1 hm hO h0 hids hroom hle hre hx hy k1 (zero_dec l hl0) w h
        · exact one_left2 hm hO h0 hids hroom hle hre hx hy (by omega) (zero_dec l hl0) w h
      · rw [if_neg hl0]
        by_cases hr0 : r = 0
        · rw [if_pos hr0]
          by_cases k1 : pickN m.kind 4 = 1
          · exact one_right1 hm hO h0 hids hroom hle hre hx hy k1 (pos_dec l hl0) (zero_dec r hr0) w h
          · exact one_right2 hm hO h0 hids hroom hle hre hx hy (by omega) (pos_dec l hl0) (zero_dec r hr0) w h
        · rw [if_neg hr0]
          have gx := (enAt_good hO hx hl0).2
          have gy := (enAt_good hO hy hr0).2
          by_cases hlong : maxT < x.w.len + y.w.len
          · rw [if_pos hlong]
            rw [maxT_eq] at hlong
            by_cases k1 : pickN m.kind 4 = 1
            · exact one_long1 hm hO h0 hids hroom hle hre hx hy k1 (pos_dec l hl0) (pos_dec r hr0) gx gy (decide_eq_true (by omega)) w h
            · exact one_long2 hm hO h0 hids hroom hle hre hx hy (by omega) (pos_dec l hl0) (pos_dec r hr0) gx gy (decide_eq_true (by omega)) w h
          · rw [if_neg hlong]
            rw [maxT_eq] at hlong
            by_cases k1 : pickN m.kind 4 = 1
            · exact one_in1 hm hO h0 hids hroom hle hre hx hy k1 (pos_dec l hl0) (pos_dec r hr0) gx gy (decide_eq_false (by omega)) w h
            · exact one_in2 hm hO h0 hids hroom hle hre hx hy (by omega) (pos_dec l hl0) (pos_dec r hr0) gx gy (decide_eq_false (by omega)) w h
end Go.Proofs.Ytijnhpaafhcndaa
end
section
namespace Go.Proofs.Ytijnhpaafhcndaa
open Go.RowKit Go.Maps
set_option linter.unusedSimpArgs false
set_option linter.unusedVariables false
abbrev PoolT := List (Nat × Nat × List Value)
def poolA (P : PoolT) : As := ⟨P.map (·.1), fun w => ∀ x ∈ P, x.1 < w.heap.size ∧ w.rangeAt x.1 x.2.1 x.2.2,
  fun w w' h hw x hx => by
    have hb := h x.1 (List.mem_map.2 ⟨x, hx, rfl⟩)
    obtain ⟨h1, h2⟩ := hw x hx
    refine ⟨?_, fun j v hj => ?_⟩
    · rw [Array.getElem?_eq_getElem h1] at hb
      exact Array.getElem?_eq_some_iff.1 hb |>.1
    · rw [← h2 j v hj]
      unfold World.cell?
      simp only [hb],
  fun w hw b hb => by
    obtain ⟨x, hx, rfl⟩ := List.mem_map.1 hb
    exact (hw x hx).1⟩
theorem poolA_fp (P : PoolT) : (poolA P).fp = P.map (·.1) := rfl
theorem poolA_ho (P : PoolT) (w : World) : (poolA P).ho w = ∀ x ∈ P, x.1 < w.heap.size ∧ w.rangeAt x.1 x.2.1 x.2.2 := rfl
theorem poolA_nil (w : World) : (poolA []).ho w := by rw [poolA_ho]; simp
attribute [irreducible] poolA
theorem pool_rng {P : PoolT} {w : World} (h : (poolA P).ho w) {g o : Nat} {vs : List Value} (hx : (g, o, vs) ∈ P) : w.rangeAt g o vs := by
  rw [poolA_ho] at h
  exact (h _ hx).2
theorem St.pool_add {w0 w : World} {M : List Nat} {P Q : PoolT} {R : List As} (h : St w0 M (poolA P :: poolA Q :: R) w) : St w0 M (poolA (P ++ Q) :: R) w := by
  have h1 := h.ho (poolA P) (by simp)
  have h2 := h.ho (poolA Q) (by simp)
  obtain ⟨d1, d2⟩ := List.pairwise_cons.1 h.dis
  obtain ⟨d3, d4⟩ := List.pairwise_cons.1 d2
  have hfp : ∀ b, b ∈ (poolA (P ++ Q)).fp → b ∈ (poolA P).fp ∨ b ∈ (poolA Q).fp := fun b hb => by
    rw [poolA_fp] at hb ⊢
    rw [poolA_fp]
    rw [List.map_append] at hb
    exact List.mem_append.1 hb
  refine ⟨h.os, h.tape, h.output, h.size, h.keep, fun B hB => ?_, fun B hB b hb => ?_, List.pairwise_cons.2 ⟨fun B hB b hb => ?_, d4⟩⟩
  · rcases List.mem_cons.1 hB with rfl | hB
    · rw [poolA_ho] at h1 h2 ⊢
      intro x hx
      rcases List.mem_append.1 hx with hx | hx
      · exact h1 x hx
      · exact h2 x hx
    · exact h.ho B (by simp [hB])
  · rcases List.mem_cons.1 hB with rfl | hB
    · rcases hfp b hb with hb | hb
      · exact h.own _ (by simp) b hb
      · exact h.own (poolA Q) (by simp) b hb
    · exact h.own B (by simp [hB]) b hb
  · rcases hfp b hb with hb | hb
    · exact d1 B (by simp [hB]) b hb
    · exact d3 B hB b hb
theorem poolA_append {P Q : PoolT} {w : World} (h1 : (poolA P).ho w) (h2 : (poolA Q).ho w) : (poolA (P ++ Q)).ho w := by
  rw [poolA_ho] at h1 h2 ⊢
  intro x hx
  rcases List.mem_append.1 hx with hx | hx
  · exact h1 x hx
  · exact h2 x hx
theorem poolA_sub {P Q : PoolT} {w : World} (h : (poolA Q).ho w) (hs : ∀ x ∈ P, x ∈ Q) : (poolA P).ho w := by
  rw [poolA_ho] at h ⊢
  exact fun x hx => h x (hs x hx)
def RowIn {α : Type} (P : PoolT) (enc : α → List Value) (k : Nat) (v : Value) (xs : List α) : Prop :=
  ∃ ad c, v = .slice ad xs.length c ∧ xs.length ≤ maxLen ∧ (0 < xs.length → ∃ g o, ad = some ⟨g, o, none⟩ ∧ (g, o, flatG enc xs) ∈ P)
section
variable {α : Type} {P Q : PoolT} {enc : α → List Value} {k : Nat} {v : Value} {xs : List α} {w : World}
theorem RowIn.shape (h : RowIn P enc k v xs) : ∃ ad c, v = .slice ad xs.length c ∧ xs.length ≤ maxLen := by
  obtain ⟨ad, c, h1, h2, _⟩ := h
  exact ⟨ad, c, h1, h2⟩
theorem RowIn.has (h : RowIn P enc k v xs) (hx : 0 < xs.length) : ∃ g o c, v = .slice (some ⟨g, o, none⟩) xs.length c ∧ xs.length ≤ maxLen := by
  obtain ⟨ad, c, h1, h2, h3⟩ := h
  obtain ⟨g, o, rfl, _⟩ := h3 hx
  exact ⟨g, o, c, h1, h2⟩
theorem RowIn.mono (h : RowIn P enc k v xs) (hs : ∀ x ∈ P, x ∈ Q) : RowIn Q enc k v xs := by
  obtain ⟨ad, c, h1, h2, h3⟩ := h
  refine ⟨ad, c, h1, h2, fun hx => ?_⟩
  obtain ⟨g, o, e, hm⟩ := h3 hx
  exact ⟨g, o, e, hs _ hm⟩
theorem RowIn.nil (n : Nat) : RowIn P enc k (.slice none 0 n) ([] : List α) := ⟨none, n, rfl, by simp, fun h => by simp at h⟩
theorem RowIn.rng {g o n c i : Nat} {x : α} (h : RowIn P enc k (.slice (some ⟨g, o, none⟩) n c) xs) (hp : (poolA P).ho w) (hk : ∀ x, (enc x).length = k) (hx : xs[i]? = some x) : w.rangeAt g (o + i * k) (enc x) := by
  obtain ⟨ad, c', h1, h2, h3⟩ := h
  obtain ⟨g', o', rfl, hm⟩ := h3 (by have := getElem_len hx; omega)
  injection h1 with e1 e2 e3
  injection e1 with e1
  injection e1 with e4 e5
  subst e4 e5
  have hr := pool_rng hp hm
  intro j u hj
  have hjk : j < k := by rw [← hk x]; exact getElem_len hj
  have := hr (i * k + j) u (by rw [flatG_get enc k hk xs i x hx j hjk]; exact hj)
  rwa [← Nat.add_assoc] at this
theorem RowIn.cell {g o n c i : Nat} {x : α} {u : Value} (h : RowIn P enc 1 (.slice (some ⟨g, o, none⟩) n c) xs) (hp : (poolA P).ho w) (hk : ∀ x, (enc x).length = 1) (hx : xs[i]? = some x) (hu : enc x = [u]) : w.cell? ⟨g, o + i, none⟩ = some u := by
  have := h.rng hp hk hx 0 u (by rw [hu]; rfl)
  simpa using this
theorem rowsA_pool {e : TypeId} (h : (rowsA enc e k v xs).ho w) (hk : ∀ x, (enc x).length = k) : ∃ P, RowIn P enc k v xs ∧ (poolA P).ho w ∧ ∀ b ∈ (poolA P).fp, b ∈ (rowsA enc e k v xs).fp := by
  by_cases h0 : 0 < xs.length
  · obtain ⟨g, c, rfl, hc, hm⟩ := rowsA_cases h h0
    refine ⟨[(g, 0, flatG enc xs)], ⟨_, c, rfl, by omega, fun _ => ⟨g, 0, rfl, by simp⟩⟩, ?_, ?_⟩
    · rw [poolA_ho]
      intro x hx
      simp only [List.mem_singleton] at hx
      subst hx
      refine ⟨(rowsA enc e k _ xs).lt w h g (by rw [rowsA_fp']; simp [Value.ownBlock]), fun j u hj => ?_⟩
      rw [rowsA_ho] at h
      have h1 := World.ownsRow.cells h (g := g) rfl j u hj
      rwa [Addr.add_mid] at h1
    · intro b hb
      rw [poolA_fp] at hb
      rw [rowsA_fp']
      simpa [Value.ownBlock] using hb
  · obtain ⟨ad, c, rfl, hm⟩ := rowsA_shape h
    exact ⟨[], ⟨ad, c, rfl, hm, fun h => absurd h h0⟩, poolA_nil w, by rw [poolA_fp]; simp⟩
theorem St.to_pool {e : TypeId} {w0 : World} {M : List Nat} {R : List As} (h : St w0 M (rowsA enc e k v xs :: R) w) (hk : ∀ x, (enc x).length = k) : ∃ P, RowIn P enc k v xs ∧ St w0 M (poolA P :: R) w := by
  obtain ⟨P, h1, h2, h3⟩ := rowsA_pool (h.ho _ List.mem_cons_self) hk
  obtain ⟨d1, d2⟩ := List.pairwise_cons.1 h.dis
  refine ⟨P, h1, h.os, h.tape, h.output, h.size, h.keep, fun B hB => ?_, fun B hB b hb => ?_, List.pairwise_cons.2 ⟨fun B hB b hb => d1 B hB b (h3 b hb), d2⟩⟩
  · rcases List.mem_cons.1 hB with rfl | hB
    · exact h2
    · exact h.ho B (by simp [hB])
  · rcases List.mem_cons.1 hB with rfl | hB
    · exact h.own _ List.mem_cons_self b (h3 b hb)
    · exact h.own B (by simp [hB]) b hb
theorem St.blk_pool {e : TypeId} {g : Nat} {cs : Array Value} {w0 : World} {M : List Nat} {R : List As} (h : St w0 M (blk g (.cells cs e) :: R) w) : St w0 M (poolA [(g, 0, cs.toList)] :: R) w := by
  refine h.conv (by rw [poolA_fp, blk_fp]; rfl) fun hb => ?_
  rw [blk_ho] at hb
  rw [poolA_ho]
  intro x hx
  simp only [List.mem_singleton] at hx
  subst hx
  refine ⟨lt_of_block hb, fun j u hj => ?_⟩
  rw [cell_of_row w g (0 + j) cs e (0, 0) hb, Nat.zero_add]
  simpa using hj
end
section
variable {P : Program} {ops : Array Oper} {Q : Exit → Act → World → Prop} {rest : List Oper} {a : Act} {w w0 : World} {M : List Nat} {L : List As} {dst : Option Tmp} {ty0 : TypeId} {pos : String} {aft : Array Edge} {gd : Option (Nat × Bool)}
def AtMakeMap (P : Program) (ops : Array Oper) (Q : Exit → Act → World → Prop) (o : Oper) (_ : TypeId) (rest : List Oper) (a : Act) (w : World) : Prop := wpList P ops Q (o :: rest) a w
theorem isMakeMap {t : TypeId} (h : AtMakeMap P ops Q ⟨dst, .makeMap t none, ty0, pos, aft, gd⟩ t rest a w) : wpList P ops Q (⟨dst, .makeMap t none, ty0, pos, aft, gd⟩ :: rest) a w := h
theorem St.new_map (h : St w0 M L w) (P : Program) (kt : TypeId) : St w0 M (mapA P kt w.heap.size [] :: L) (w.alloc (.map #[] 0)) := by
  have := h.alloc (.map #[] 0)
  refine this.conv (by rw [blk_fp]; unfold mapA; rfl) fun hb => ?_
  rw [blk_ho] at hb
  exact mapA_of hb
theorem AtMakeMap.go {o1 : Oper} {t : TypeId} (kt : TypeId) (H : St w0 M L w) (hw : Region.wanted o1 (yielded ops a.tmps) = true) (ho : o1.op = .makeMap t none)
    (h : ∀ m w', St w0 M (mapA P kt m [] :: L) w' → wpList P ops Q rest (a.put o1.dst (.map (some m))) w') : AtMakeMap P ops Q o1 t rest a w :=
  wpList_step fun _ hK => by
    rw [if_pos hw]
    unfold Oper.wp execOp
    have hr : (Instr.makeMap t none).run P w = .ok (.map (some w.heap.size)) (w.alloc (.map #[] 0)) := rfl
    simp only [ho, Option.map_none, Sem.run_bind, hr, Result.andThen_ok, Sem.run_pure]
    exact hK _ _ (h _ _ (H.new_map P kt))
end
end Go.Proofs.Ytijnhpaafhcndaa
end
section
namespace Go.Proofs.Ytijnhpaafhcndaa
open Go.RowKit Go.Maps
attribute [local go_sem] InGr
set_option maxHeartbeats 2000000
set_option maxRecDepth 100000
set_option linter.unusedSimpArgs false
set_option linter.unusedVariables false
theorem Sto.put_most (S : Sto) (x : En) : (S.put x).2.most = S.most := by
  unfold Sto.put
  split
  · rfl
  · split <;> rfl
theorem Sto.put_len (S : Sto) (x : En) : S.list.length ≤ (S.put x).2.list.length ∧ (S.put x).2.list.length ≤ S.list.length + 1 ∧ (S.put x).1.1 ≤ (S.put x).2.list.length := by
  unfold Sto.put
  split
  · rename_i i hi
    obtain ⟨y, hy, _⟩ := look_some hi
    have := getElem_len hy
    simp only
    omega
  · split
    · simp only; omega
    · simp
structure StoStep (S : Sto) (r : (Nat × Option Nat) × Sto) : Prop where
  most : r.2.most = S.most
  le : S.list.length ≤ r.2.list.length
  one : r.2.list.length ≤ S.list.length + 1
  id : r.1.1 ≤ r.2.list.length
theorem StoStep.put (S : Sto) (x : En) : StoStep S (S.put x) := ⟨Sto.put_most S x, (Sto.put_len S x).1, (Sto.put_len S x).2.1, (Sto.put_len S x).2.2⟩
theorem StoStep.same (S : Sto) (i : Nat) (e : Option Nat) (h : i ≤ S.list.length) : StoStep S ((i, e), S) := ⟨rfl, Nat.le_refl _, by simp, h⟩
theorem StoStep.pair (S : Sto) (l r : Nat) (hl : l ≤ S.list.length) (hr : r ≤ S.list.length) : StoStep S (S.pair l r) := by
  unfold Sto.pair
  split
  · split
    · exact .same S _ _ hr
    · split
      · exact .same S _ _ hl
      · split
        · exact .same S _ _ (Nat.zero_le _)
        · exact .put S _
  · exact .same S _ _ (Nat.zero_le _)
theorem StoStep.power (S : Sto) (l k : Nat) (hl : l ≤ S.list.length) : StoStep S (S.power l k) := by
  unfold Sto.power
  split
  · split
    · exact .same S _ _ (Nat.zero_le _)
    · split
      · exact .same S _ _ hl
      · split
        · exact .same S _ _ (Nat.zero_le _)
        · exact .put S _
  · exact .same S _ _ (Nat.zero_le _)
theorem getD_le {ids : List Nat} {n : Nat} (h : ∀ i ∈ ids, i ≤ n) (k : Nat) : ids.getD k 0 ≤ n := by
  rw [List.getD_eq_getElem?_getD]
  cases hk : ids[k]? with
  | none => simp
  | some i => exact h i (List.mem_of_getElem? hk)
theorem StoStep.make (S : Sto) (ids : List Nat) (m : Mk) (h : ∀ i ∈ ids, i ≤ S.list.length) : StoStep S (S.make ids m) := by
  unfold Sto.make
  split
  · exact .put S _
  · split
    · exact .power S _ _ (getD_le h _)
    · exact .pair S _ _ (getD_le h _) (getD_le h _)
theorem Sto.make_ok {S : Sto} (h : S.Ok) (ids : List Nat) (m : Mk) (hm : m.Fits) : (S.make ids m).2.Ok := by
  unfold Sto.make
  split
  · exact Sto.letter_ok h hm.letter
  · split
    · exact Sto.power_ok h _ _
    · exact Sto.pair_ok h _ _
def Sto.makes (S : Sto) (ids : List Nat) : List Mk → Sto × List Nat
  | [] => (S, ids)
  | m :: ms => Sto.makes (S.make ids m).2 (ids ++ [(S.make ids m).1.1]) ms
theorem Sto.makes_snoc (S : Sto) (ids : List Nat) (ms : List Mk) (m : Mk) :
    S.makes ids (ms ++ [m]) = (((S.makes ids ms).1.make (S.makes ids ms).2 m).2, (S.makes ids ms).2 ++ [((S.makes ids ms).1.make (S.makes ids ms).2 m).1.1]) := by
  induction ms generalizing S ids with
  | nil => rfl
  | cons a ms ih => simp only [List.cons_append, Sto.makes, ih]
theorem Sto.makes_take {S : Sto} {ids : List Nat} {ms : List Mk} {m : Mk} {k : Nat} (h : ms[k]? = some m) :
    S.makes ids (ms.take (k + 1)) = (((S.makes ids (ms.take k)).1.make (S.makes ids (ms.take k)).2 m).2, (S.makes ids (ms.take k)).2 ++ [((S.makes ids (ms.take k)).1.make (S.makes ids (ms.take k)).2 m).1.1]) := by
  rw [← Sto.makes_snoc]
  congr 1
  rw [List.take_add_one, h]; rfl
structure Scr (most n : Nat) (S : Sto) (ids : List Nat) : Prop where
  ok : S.Ok
  most : S.most = most
  len : S.list.length ≤ n
  cnt : ids.length = n + 1
  mem : ∀ i ∈ ids, i ≤ S.list.length
theorem Scr.start {most : Nat} (h : most ≤ 1048576) : Scr most 0 ⟨most, []⟩ [0] := ⟨⟨h, by simp, (by intro i j x y hx; simp at hx), by simp⟩, rfl, by simp, by simp, by simp⟩
theorem Scr.step {most n : Nat} {S : Sto} {ids : List Nat} (h : Scr most n S ids) (m : Mk) (hm : m.Fits) : Scr most (n + 1) (S.make ids m).2 (ids ++ [(S.make ids m).1.1]) := by
  have s := StoStep.make S ids m h.mem
  refine ⟨Sto.make_ok h.ok ids m hm, by rw [s.most, h.most], by have := s.one; have := h.len; omega, by simp [h.cnt], ?_⟩
  intro i hi
  rw [List.mem_append, List.mem_singleton] at hi
  rcases hi with hi | rfl
  · exact Nat.le_trans (h.mem i hi) s.le
  · exact s.id
theorem Scr.makes {most : Nat} (hmost : most ≤ 1048576) {ms : List Mk} (hf : ∀ m ∈ ms, m.Fits) (k : Nat) (hk : k ≤ ms.length) :
    Scr most k ((Sto.mk most []).makes [0] (ms.take k)).1 ((Sto.mk most []).makes [0] (ms.take k)).2 := by
  induction k with
  | zero => exact Scr.start hmost
  | succ k ih =>
    have hk' : ms[k]? = some ms[k] := by simp
    rw [Sto.makes_take hk']
    exact (ih (by omega)).step _ (hf _ (List.getElem_mem _))
def BuildPost (ids : List Nat) (l : List En) (w : World) (e : Ending) (w' : World) : Prop :=
  ∃ vr vl rv, e = .returned (.tuple #[.agg #[vr, vl], rv]) ∧ St w [] [refA vr vl l, rowsA encI 32 1 rv ids] w'
theorem encI_one (x : Nat) : ∀ u ∈ encI x, u.oneCell' = true := by
  intro u hu
  rw [encI, List.mem_singleton] at hu
  subst hu
  rfl
theorem refA_nil (w : World) : (refA (.slice none 0 0) (.slice none 0 0) []).ho w ∧ (refA (.slice none 0 0) (.slice none 0 0) []).fp = [] := by
  unfold refA
  refine ⟨?_, ?_⟩
  · rw [sep_ho]
    exact ⟨rowsA_nil w, rowsA_nil w, by rw [rowsA_fp']; simp [Value.ownBlock]⟩
  · rw [sep_fp, rowsA_fp', rowsA_fp']; rfl
theorem St.empty {w0 w : World} {M : List Nat} {L : List As} {A : As} (H : St w0 M L w) (h : A.ho w) (he : A.fp = []) : St w0 M (A :: L) w :=
  ⟨H.os, H.tape, H.output, H.size, H.keep, fun B hB => by
    rw [List.mem_cons] at hB
    rcases hB with rfl | hB
    · exact h
    · exact H.ho B hB, fun B hB b hb => by
    rw [List.mem_cons] at hB
    rcases hB with rfl | hB
    · rw [he] at hb; simp at hb
    · exact H.own B hB b hb, List.pairwise_cons.2 ⟨fun B _ b hb => by rw [he] at hb; simp at hb, H.dis⟩⟩
section
variable {ops : Array Oper} {a : Act} {w w0 : World} {M : List Nat} {L : List As} {o : Oper} {Rr : Value → World → Prop}
theorem StStep.allocT {ty : TypeId} (H : St w0 M L w) (hw : Region.wanted o (yielded ops a.tmps) = true) (ho : o.op = .alloc ty) {z : Value} (hz : zO ty = some z) {cs : Array Value} (hc : cellsO z = some cs)
    (h : ∀ b w', St w0 M (blk b (.cells cs ty) :: L) w' → Rr (.pointer (some ⟨b, 0, none⟩)) w') : StStep Try.prog ops o a w Rr :=
  StStep.val hw (by unfold execOp; simp only [ho, Instr.alloc, Sem.run_bind, zO_ok hz, Result.andThen_ok, newVar, newRow, cellsO_eq hc, run_newObj_alloc, Sem.run_pure]) (h _ _ (H.alloc (.cells cs ty)))
theorem StStep.rngT {ty : TypeId} {x : Operand} (hw : Region.wanted o (yielded ops a.tmps) = true) (ho : o.op = .load ty x) {g off : Nat} (hx : a.eval x = .pointer (some ⟨g, off, none⟩)) {vs : List Value} (hc : w.rangeAt g off vs)
    (hr : isRowT ty vs.length = true) (h : Rr (.agg vs.toArray) w) : StStep Try.prog ops o a w Rr :=
  StStep.val hw (by
    have hr := isRowT_ok hr
    unfold rowTy at hr
    simp only [Bool.and_eq_true, beq_iff_eq] at hr
    unfold execOp
    cases hu : Program.underlying Try.prog ty with
    | none => simp [hu] at hr
    | some d =>
      simp only [ho, hx, Sem.run_bind, run_loadAt_mid w g off ty vs d hc hu (by simp only [hu] at hr; cases d <;> simp_all [TypeDesc.isRow]) hr.2, Result.andThen_ok]
      rfl) h
end
def blockOf : Value → Nat
  | .pointer (some ad) => ad.block
  | _ => 0
theorem mkL_len (m : Mk) : (mkL m).length = 5 := rfl
def scr (most : Nat) (ms : List Mk) (k : Nat) : Sto × List Nat := (Sto.mk most []).makes [0] (ms.take k)
theorem scr_all (most : Nat) (ms : List Mk) : scr most ms ms.length = (Sto.mk most []).makes [0] ms := by unfold scr; rw [List.take_length]
theorem scr_step {most : Nat} {ms : List Mk} {k : Nat} {m : Mk} (h : ms[k]? = some m) : scr most ms (k + 1) = (((scr most ms k).1.make (scr most ms k).2 m).2, (scr most ms k).2 ++ [((scr most ms k).1.make (scr most ms k).2 m).1.1]) := Sto.makes_take h
theorem scr_ok {most : Nat} (hmost : most ≤ 1048576) {ms : List Mk} (hf : ∀ m ∈ ms, m.Fits) (k : Nat) (hk : k ≤ ms.length) : Scr most k (scr most ms k).1 (scr most ms k).2 := Scr.makes hmost hf k hk
attribute [local go_sem] StStep stAt stUpon in
theorem rbuild_c {lv : Value} {ms : List Mk} {P : PoolT} (most : Nat) (hmost : most ≤ 1048576) (hlen : ms.length < most) (hf : ∀ m ∈ ms, m.Fits) (w : World) (h : (poolA P).ho w) (hrow : RowIn P mkL 5 lv ms) :
    Calls Try.prog 31 #[lv] w (BuildPost (scr most ms ms.length).2 (scr most ms ms.length).1.list w) := by
  have HK := Ks.one h
  have H := St.nil w []
  obtain ⟨ad, c, rfl, hm⟩ := hrow.shape
  unfold maxLen at hm
  have HS : Hid (∀ k, k ≤ ms.length → Scr most k (scr most ms k).1 (scr most ms k).2) := Lib.hid fun k hk => scr_ok hmost hf k hk
  have HF := Lib.hid hf
  have HC : Hid (∀ (k : Nat) x, ms[k]? = some x → ∃ g o, ad = some ⟨g, o, none⟩) := Lib.hid fun k x hx => by
    obtain ⟨g, o, c', he, _⟩ := hrow.has (by have := getElem_len hx; omega)
    injection he with e1 e2 e3
    exact ⟨g, o, e1⟩
  have HR := Lib.hid hrow
  clear h hf hrow
  go_enter Try.func31, Try.ntmps31
  go_wp2_with (first | refine sL ?_ | (refine sS ?_; clear H; intro _ H) | (refine sA ?_; clear H; intro _ _ H) | ((with_reducible refine isSlice ?_); refine AtSlice.one H rfl rfl rfl rfl rfl rfl rfl rfl rfl ?_; clear H; intro b _ H; simp only [Act.put, puA, puB, puC]))
  rename_i b2 _ b4 _ _ wz K0 hK0
  replace H := H.conv (A' := rowsA encI 32 1 (.slice (some ⟨b, 0, none⟩) 1 1) [0]) (by rw [rowsA_fp', blk_fp]; rfl) fun hb => rowsA_of_blk (xs := [0]) (by rw [blk_ho] at hb; exact hb) (by simp [maxLen]) (by simp [flatG, encI]) encI_len
  replace H := H.empty (refA_nil wz).1 (refA_nil wz).2
  go_loopw [5, 6] (fun v5 v6 wr => ∃ k : Nat, ∃ vr vl : Value, v6 = .int .i64 k ∧ k ≤ ms.length ∧ St w [] [refA vr vl (scr most ms k).1.list, rowsA encI 32 1 v5 (scr most ms k).2, blk b4 (.cells #[vr, vl] 76), blk b2 (.cells #[.slice none 0 0, .slice none 0 0] 76)] wr) (fun _ v6 _ => ms.length - (intOf v6).toNat)
  case atStart => exact ⟨0, _, _, rfl, Nat.zero_le _, H⟩
  case round =>
    clear H
    obtain ⟨k, vr, vl, rfl, hk, H⟩ := hrel
    obtain ⟨ad1, c1, ad2, c2, rfl, rfl⟩ := refA_shape (H.get Pick.here)
    by_cases hlt : k < ms.length
    · obtain ⟨x, hx⟩ : ∃ x, ms[k]? = some x := ⟨ms[k], by simp⟩
      obtain ⟨g, og, rfl⟩ := HC.out k x hx
      have HX0 := Lib.hid hx
      have HO : Hid (∀ w, ((refA (.slice ad1 (scr most ms k).1.list.length c1) (.slice ad2 (scr most ms k).1.list.length c2) (scr most ms k).1.list).sep (rowsA encI 32 1 u5 (scr most ms k).2)).ho w → Calls Try.prog 63 #[.agg #[.slice ad1 (scr most ms k).1.list.length c1, .slice ad2 (scr most ms k).1.list.length c2], .agg #[.int .i64 x.kind, .int .u8 x.letter, .int .i64 x.left, .int .i64 x.right, .int .i64 x.times], u5] w (OnePost ((refA (.slice ad1 (scr most ms k).1.list.length c1) (.slice ad2 (scr most ms k).1.list.length c2) (scr most ms k).1.list).sep (rowsA encI 32 1 u5 (scr most ms k).2)).fp u5 (scr most ms k).2 ((scr most ms k).1.make (scr most ms k).2 x).1.1 ((scr most ms k).1.make (scr most ms k).2 x).2.list w)) := Lib.hid fun w h => by
        have hs := HS.out k hk
        exact one_c (HF.out x (List.mem_of_getElem? hx)) hs.ok (by rw [hs.cnt]; omega) (by rw [hs.cnt]; omega) hs.mem (by have := hs.len; rw [hs.most]; omega) w h
      clear hx HC
      go_wp2_with (first | refine sL ?_ | (refine sS ?_; clear H; intro _ H) | (refine sA ?_; clear H; intro _ _ H))
      refine wp_region_rgx H [blk b4 (.cells #[.slice ad1 (scr most ms k).1.list.length c1, .slice ad2 (scr most ms k).1.list.length c2] 76), blk b2 (.cells #[.slice none 0 0, .slice none 0 0] 76)] 12 [⟨[], [], [], fun v _ => v = .agg #[.slice ad1 (scr most ms k).1.list.length c1, .slice ad2 (scr most ms k).1.list.length c2], fun _ _ => []⟩, ⟨[], [], [], fun v _ => v = .slice (some ⟨g, og, none⟩) ms.length c, fun _ _ => []⟩, ⟨[], [], [], fun v _ => v = .int .i64 k, fun _ _ => []⟩, ⟨[], [], [1, 2], fun v _ => v = .pointer (some ⟨g, og + k * 5, none⟩), fun _ _ => []⟩, ⟨[], [], [3], fun v _ => v = .agg #[.int .i64 x.kind, .int .u8 x.letter, .int .i64 x.left, .int .i64 x.right, .int .i64 x.times], fun _ _ => []⟩, ⟨[], [], [], fun v _ => v = u5, fun _ _ => []⟩, ⟨[12, 13], [], [0, 4, 5], fun v _ => v = .tuple #[.agg #[tup1 v, tup2 v], .int .i64 (((scr most ms k).1.make (scr most ms k).2 x).1.1 : Nat)], fun v _ => [refA (tup1 v) (tup2 v) ((scr most ms k).1.make (scr most ms k).2 x).2.list, rowsA encI 32 1 u5 (scr most ms k).2]⟩, ⟨[], [], [6], fun v ds => ds = [v], fun _ _ => []⟩, ⟨[], [], [6, 7], fun v ds => ∃ d e, ds = [d, e] ∧ v = .agg #[tup1 d, tup2 d], fun _ _ => []⟩, ⟨[], [], [6, 7], fun v _ => v = .int .i64 (((scr most ms k).1.make (scr most ms k).2 x).1.1 : Nat), fun _ _ => []⟩, ⟨[], [], [], fun v _ => v = .pointer (some ⟨blockOf v, 0, none⟩), fun v _ => [blk (blockOf v) (.cells #[.slice none 0 0, .slice none 0 0] 76)]⟩, ⟨[10], [6], [6, 7, 8, 10], fun _ _ => True, fun _ ds => match ds with | [d, _, _, b] => [blk (blockOf b) (.cells #[tup1 d, tup2 d] 76)] | _ => []⟩, ⟨[], [], [], fun _ _ => True, fun _ _ => [refA (.slice ad1 (scr most ms k).1.list.length c1) (.slice ad2 (scr most ms k).1.list.length c2) (scr most ms k).1.list]⟩, ⟨[], [], [], fun _ _ => True, fun _ _ => [rowsA encI 32 1 u5 (scr most ms k).2]⟩] (by kernel_rfl)
        [[], [], [], [(1, 19), (2, 20)], [(3, 21)], [], [(0, 18), (4, 22), (5, 23)], [(6, 24)], [(7, 17)], [(7, 17)], [], [(8, 25), (10, 7)]] [(0, 18), (1, 19), (2, 20), (3, 21), (4, 22), (5, 23), (6, 24), (7, 17), (8, 25), (9, 26), (10, 7)] [0, 1, 2, 3, 4, 5, 6, 7, 8, 9, 11] (by kernel_rfl) (by kernel_rfl) (by kernel_rfl) ⟨?o0, ?o1, ?o2, ?o3, ?o4, ?o5, ?o6, ?o7, ?o8, ?o9, ?o10, ?o11, trivial⟩ ?fin
      case o0 =>
        intro vals wx X hd H
        clear hd
        replace H := sP H
        simp only [putS, List.foldl_nil]
        first | refine StStep.cellT rfl rfl rfl gt rfl rfl ⟨rfl, H⟩ | refine StStep.wholeT rfl rfl rfl gt rfl ⟨rfl, H⟩
      case o1 =>
        intro vals wx X hd H
        clear hd
        replace H := sP H
        simp only [putS, List.foldl_nil]
        go_simp
        first | exact H | exact ⟨rfl, H⟩
      case o2 =>
        intro vals wx X hd H
        clear hd
        replace H := sP H
        simp only [putS, List.foldl_nil]
        go_simp
        first | exact H | exact ⟨rfl, H⟩
      case o3 =>
        intro vals wx X hd H
        have h1 : vals 1 = .slice (some ⟨g, og, none⟩) ms.length c := hd.1
        have h2 : vals 2 = .int .i64 k := hd.2.1
        clear hd
        replace H := sP H
        simp only [putS, List.foldl_nil, List.foldl_cons, Act.put, List.setIfInBounds_toArray, List.set_cons_zero, List.set_cons_succ, h1, h2]
        clear h1 h2
        go_simp
        first | exact H | exact ⟨rfl, H⟩
      case o4 =>
        intro vals wx X hd H
        have h3 : vals 3 = .pointer (some ⟨g, og + k * 5, none⟩) := hd.1
        clear hd
        replace H := sP H
        simp only [putS, List.foldl_nil, List.foldl_cons, Act.put, List.setIfInBounds_toArray, List.set_cons_zero, List.set_cons_succ, h3]
        exact StStep.rngT (vs := mkL x) rfl rfl rfl (HR.out.rng (H.known HK pk) mkL_len HX0.out) rfl ⟨rfl, H⟩
      case o5 =>
        intro vals wx X hd H
        clear hd
        replace H := sP H
        simp only [putS, List.foldl_nil]
        go_simp
        first | exact H | exact ⟨rfl, H⟩
      case o6 =>
        intro vals wx X hd H
        have h0 : vals 0 = .agg #[.slice ad1 (scr most ms k).1.list.length c1, .slice ad2 (scr most ms k).1.list.length c2] := hd.1
        have h4 : vals 4 = .agg #[.int .i64 x.kind, .int .u8 x.letter, .int .i64 x.left, .int .i64 x.right, .int .i64 x.times] := hd.2.1
        have h5 : vals 5 = u5 := hd.2.2.1
        clear hd
        replace H := sP H
        simp only [putS, List.foldl_nil, List.foldl_cons, Act.put, List.setIfInBounds_toArray, List.set_cons_zero, List.set_cons_succ, h0, h4, h5]
        clear h0 h4 h5
        go_simp
        replace H := H.join
        with_reducible refine Calls.mono (HO.out _ (H.get Pick.here)) ?_
        rintro e wc ⟨vr', vl', rfl, hb⟩
        exact ⟨_, rfl, rfl, H.call hb⟩
      case o7 =>
        intro vals wx X hd H
        have h6 := hd.1
        clear hd
        replace H := sP H
        simp only [putS, List.foldl_nil, List.foldl_cons, Act.put, List.setIfInBounds_toArray, List.set_cons_zero, List.set_cons_succ]
        clear h6
        go_simp
        first | exact H | exact ⟨rfl, H⟩
      case o8 =>
        intro vals wx X hd H
        have h6 := hd.1
        have h7 := hd.2.1
        clear hd
        replace H := sP H
        simp only [putS, List.foldl_nil, List.foldl_cons, Act.put, List.setIfInBounds_toArray, List.set_cons_zero, List.set_cons_succ]
        have e6 : vals 6 = .tuple #[.agg #[tup1 (vals 6), tup2 (vals 6)], .int .i64 (((scr most ms k).1.make (scr most ms k).2 x).1.1 : Nat)] := h6
        have e7 : [vals 6] = [vals 7] := h7
        clear h6 h7
        simp only [List.cons.injEq, and_true] at e7
        simp only [← e7]
        generalize tup1 (vals 6) = p at e6 H ⊢
        generalize tup2 (vals 6) = q at e6 H ⊢
        simp only [e6]
        go_simp
        rw [← e7, e6]
        exact ⟨⟨rfl, rfl⟩, H⟩
      case o9 =>
        intro vals wx X hd H
        have h6 := hd.1
        have h7 := hd.2.1
        clear hd
        replace H := sP H
        simp only [putS, List.foldl_nil, List.foldl_cons, Act.put, List.setIfInBounds_toArray, List.set_cons_zero, List.set_cons_succ]
        have e6 : vals 6 = .tuple #[.agg #[tup1 (vals 6), tup2 (vals 6)], .int .i64 (((scr most ms k).1.make (scr most ms k).2 x).1.1 : Nat)] := h6
        have e7 : [vals 6] = [vals 7] := h7
        clear h6 h7
        simp only [List.cons.injEq, and_true] at e7
        simp only [← e7]
        generalize tup1 (vals 6) = p at e6 H ⊢
        generalize tup2 (vals 6) = q at e6 H ⊢
        simp only [e6]
        go_simp
        first | exact H | exact ⟨rfl, H⟩
      case o10 =>
        intro vals wx X hd H
        clear hd
        replace H := sP H
        simp only [putS, List.foldl_nil]
        exact StStep.allocT H rfl rfl rfl rfl fun b w' H => ⟨rfl, H⟩
      case o11 =>
        intro vals wx X hd H
        have h6 := hd.1
        have h7 := hd.2.1
        have h8 := hd.2.2.1
        have h10 := hd.2.2.2.1
        clear hd
        replace H := sP H
        simp only [putS, List.foldl_nil, List.foldl_cons, Act.put, List.setIfInBounds_toArray, List.set_cons_zero, List.set_cons_succ]
        obtain ⟨d, e, e1, e2⟩ : ∃ d e, [vals 6, vals 7] = [d, e] ∧ vals 8 = .agg #[tup1 d, tup2 d] := h8
        have e10 : vals 10 = .pointer (some ⟨blockOf (vals 10), 0, none⟩) := h10
        clear h6 h7 h10
        simp only [List.cons.injEq, and_true] at e1
        obtain ⟨rfl, rfl⟩ := e1
        obtain ⟨pa, pc, qa, qc, hp, hq⟩ := refA_shape (H.get (A := refA (tup1 (vals 6)) (tup2 (vals 6)) ((scr most ms k).1.make (scr most ms k).2 x).2.list) pk)
        exact StStep.storeT (cs' := #[tup1 (vals 6), tup2 (vals 6)]) rfl rfl e10 (congrArg some e2) rfl (by rw [hp, hq]; rfl) H rfl fun w' H => ⟨trivial, H⟩
      case fin =>
        intro vals wx hd H
        have h0 : vals 0 = .agg #[.slice ad1 (scr most ms k).1.list.length c1, .slice ad2 (scr most ms k).1.list.length c2] := hd.1
        have h1 : vals 1 = .slice (some ⟨g, og, none⟩) ms.length c := hd.2.1
        have h2 : vals 2 = .int .i64 k := hd.2.2.1
        have h3 : vals 3 = .pointer (some ⟨g, og + k * 5, none⟩) := hd.2.2.2.1
        have h4 : vals 4 = .agg #[.int .i64 x.kind, .int .u8 x.letter, .int .i64 x.left, .int .i64 x.right, .int .i64 x.times] := hd.2.2.2.2.1
        have h5 : vals 5 = u5 := hd.2.2.2.2.2.1
        have h6 := hd.2.2.2.2.2.2.1
        have h7 := hd.2.2.2.2.2.2.2.1
        have h8 := hd.2.2.2.2.2.2.2.2.1
        have h9 := hd.2.2.2.2.2.2.2.2.2.1
        have h10 := hd.2.2.2.2.2.2.2.2.2.2.1
        clear hd
        replace H := sP H
        simp only [putS, List.foldl_nil, List.foldl_cons, Act.put, List.setIfInBounds_toArray, List.set_cons_zero, List.set_cons_succ, List.drop_succ_cons, List.drop_zero, h0, h1, h2, h3, h4, h5]
        clear h0 h1 h2 h3 h4 h5
        obtain ⟨d, e, e1, e2⟩ : ∃ d e, [vals 6, vals 7] = [d, e] ∧ vals 8 = .agg #[tup1 d, tup2 d] := h8
        have e9 : vals 9 = .int .i64 (((scr most ms k).1.make (scr most ms k).2 x).1.1 : Nat) := h9
        have e10 : vals 10 = .pointer (some ⟨blockOf (vals 10), 0, none⟩) := h10
        clear h6 h7 h9 h10
        simp only [List.cons.injEq, and_true] at e1
        obtain ⟨rfl, rfl⟩ := e1
        have hs := HS.out k hk
        have hcnt : (scr most ms k).2.length = k + 1 := hs.cnt
        clear hs
        try simp only [List.map_cons, List.map_nil, List.cons_append, List.nil_append] at H
        generalize tup1 (vals 6) = p at e2 H
        generalize tup2 (vals 6) = q at e2 H
        generalize blockOf (vals 10) = b7 at e10 H
        obtain ⟨ad3, c3, ad4, c4, rfl, rfl⟩ := refA_shape (H.get (A := refA p q ((scr most ms k).1.make (scr most ms k).2 x).2.list) pk)
        simp only [e2, e9, e10]
        clear e2 e9 e10
        go_wp2_with (first | refine sL ?_ | (refine sS ?_; clear H; intro _ H) | (refine sA ?_; clear H; intro _ _ H) | ((with_reducible refine isSlice ?_); refine AtSlice.one H rfl rfl rfl rfl rfl rfl rfl rfl rfl ?_; clear H; intro b _ H; simp only [Act.put, puA, puB, puC]) | ((with_reducible refine isAppend ?_); refine AtAppend.go (enc := encI) H rfl rfl rfl rfl rfl (by decide) (by decide) rfl pk rfl (H.at pk) [((scr most ms k).1.make (scr most ms k).2 x).1.1] rfl (by simp [flatG, encI]) encI_len encI_one (by simp; omega) ?_; clear H; intro ad cp _ H; simp only [Act.put, puA, puB, puC]))
        replace H := H.drop (.there .here)
        replace H := H.drop (.there (.there .here))
        replace H := H.pick (.there .here)
        go_roundw
        case rel =>
          have e1 : (scr most ms k).2 ++ [((scr most ms k).1.make (scr most ms k).2 x).1.1] = (scr most ms (k + 1)).2 := by rw [scr_step HX0.out]
          have e2 : ((scr most ms k).1.make (scr most ms k).2 x).2 = (scr most ms (k + 1)).1 := by rw [scr_step HX0.out]
          rw [e1, e2] at H
          exact ⟨k + 1, _, _, by go_num, by omega, H⟩
        case measure => simp [intOf]; omega
    · obtain rfl : k = ms.length := by omega
      go_wp2_with (first | refine sL ?_ | (refine sS ?_; clear H; intro _ H) | (refine sA ?_; clear H; intro _ _ H))
      exact bodyPost_ret (res_row_tmp rfl H rfl pk rfl rfl) rfl ⟨_, _, _, rfl, (H.pick2 (A := refA _ _ (scr most ms ms.length).1.list) (B := rowsA encI 32 1 u5 (scr most ms ms.length).2) pk pk).onlyTwo⟩
end Go.Proofs.Ytijnhpaafhcndaa
end
section
namespace Go.Proofs.Ytijnhpaafhcndaa
open Go.RowKit Go.Maps
attribute [local go_sem] InGr
set_option maxHeartbeats 2000000
set_option maxRecDepth 100000
set_option linter.unusedSimpArgs false
set_option linter.unusedVariables false
def errV : Option Nat → Value
  | none => .nilIface
  | some c => EV c
def StoPost (p m : Nat) (M : List Nat) (r : (Nat × Option Nat) × Sto) (w : World) (e : Ending) (w' : World) : Prop :=
  ∃ lv, e = .returned (.tuple #[.int .i64 r.1.1, errV r.1.2]) ∧ St w M [stoA p lv m r.2] w'
theorem StoPost.mk {p m : Nat} {M : List Nat} {r : (Nat × Option Nat) × Sto} {w : World} {e : Ending} {w' : World} (lv : Value) (he : e = .returned (.tuple #[.int .i64 r.1.1, errV r.1.2])) (h : St w M [stoA p lv m r.2] w') : StoPost p m M r w e w' := ⟨lv, he, h⟩
theorem find_hit_r {p m : Nat} {lv : Value} {S : Sto} {i : Nat} (r : Rl) (h : S.Ok) (hl : S.look r = some i) (w : World) (hs : (stoA p lv m S).ho w) :
    Calls Try.prog 82 #[.pointer (some ⟨p, 0, none⟩), ruleV r] w fun e w' => e = .returned (.tuple #[.int .i64 ((i : Int) + 1), .nilIface]) ∧ St w [] [] w' := by
  obtain ⟨x, hx, rfl⟩ := look_some hl
  exact find_hit hx h.apart (h.good i x hx).fits w hs
theorem find_full_r {p m : Nat} {lv : Value} {S : Sto} (r : Rl) (hf : r.Fits) (h : S.Ok) (hl : S.look r = none) (hm : S.most ≤ S.list.length) (w : World) (hs : (stoA p lv m S).ho w) :
    Calls Try.prog 82 #[.pointer (some ⟨p, 0, none⟩), ruleV r] w fun e w' => e = .returned (.tuple #[.int .i64 0, .iface 42 (.int .i64 3)]) ∧ St w [] [] w' := by
  have := find_miss r (look_none hl) hf w hs (by have := h.most; omega)
  rwa [if_pos hm] at this
theorem find_new_r {p m : Nat} {lv : Value} {S : Sto} (r : Rl) (hf : r.Fits) (h : S.Ok) (hl : S.look r = none) (hm : ¬ S.most ≤ S.list.length) (w : World) (hs : (stoA p lv m S).ho w) :
    Calls Try.prog 82 #[.pointer (some ⟨p, 0, none⟩), ruleV r] w fun e w' => e = .returned (.tuple #[.int .i64 0, .nilIface]) ∧ St w [] [] w' := by
  have := find_miss r (look_none hl) hf w hs (by have := h.most; omega)
  rwa [if_neg hm] at this
theorem wletter_l (b : Nat) (hb : b < 256) (w : World) :
    Calls Try.prog 84 #[.int .u8 b] w fun e w' => e = .returned (.agg #[.int .i64 (Wt.letter b).len, .int .i64 (Wt.letter b).lines, .int .i64 (Wt.letter b).head, .int .i64 (Wt.letter b).tail, .int .u64 (Wt.letter b).val, .int .u64 (Wt.letter b).scale]) ∧ St w [] [] w' := wletter_c b hb w
theorem letter_c {p m : Nat} {lv : Value} {S : Sto} (h : S.Ok) (b : Nat) (hb : b < 256) (w : World) (hs : (stoA p lv m S).ho w) :
    Calls Try.prog 55 #[.pointer (some ⟨p, 0, none⟩), .int .u8 b] w (StoPost p m (stoA p lv m S).fp (S.letter b) w) := by
  have H := St.one hs
  generalize (stoA p lv m S).fp = M at H ⊢
  have HF : Hid (Rl.Fits ⟨1, b, 0, 0, 0⟩) := Lib.hid ⟨by simp, hb, by simp, by simp, by simp⟩
  have HB := Lib.hid hb
  clear hs hb
  have hlen := h.len
  have hmost := h.most
  have HO := Lib.hid h
  cases hl : S.look ⟨1, b, 0, 0, 0⟩ with
  | some i =>
    have HR : Hid (S.letter b = ((i + 1, none), S)) := Lib.hid (by simp [Sto.letter, Sto.put, letterE, hl])
    have HL := Lib.hid hl
    clear hl h
    go_enter Try.func55, Try.ntmps55
    go_wp2_with (first | refine sL ?_ | (refine sS ?_; clear H; intro _ H) | (refine sA ?_; clear H; intro _ _ H) | (go_at_call 82; refine (find_hit_r ⟨1, b, 0, 0, 0⟩ HO.out HL.out _ (H.get pk)).mono ?_; rintro e wc ⟨rfl, hb⟩; replace H := H.grew hb.below; clear hb))
    go_ret2
    exact StoPost.mk lv (by rw [HR.out]; rfl) (by rw [HR.out]; exact H.only pk)
  | none =>
    have HL := Lib.hid hl
    by_cases hm : S.most ≤ S.list.length
    · have HR : Hid (S.letter b = ((0, some 3), S)) := Lib.hid (by simp [Sto.letter, Sto.put, letterE, hl, hm])
      have HM := Lib.hid hm
      clear hl h hm
      go_enter Try.func55, Try.ntmps55
      go_wp2_with (first | refine sL ?_ | (refine sS ?_; clear H; intro _ H) | (refine sA ?_; clear H; intro _ _ H) | (go_at_call 82; refine (find_full_r ⟨1, b, 0, 0, 0⟩ HF.out HO.out HL.out HM.out _ (H.get pk)).mono ?_; rintro e wc ⟨rfl, hb⟩; replace H := H.grew hb.below; clear hb))
      go_ret2
      exact StoPost.mk lv (by rw [HR.out]; rfl) (by rw [HR.out]; exact H.only pk)
    · have HR : Hid (S.letter b = ((S.list.length + 1, none), ⟨S.most, S.list ++ [letterE b]⟩)) := Lib.hid (by simp [Sto.letter, Sto.put, letterE, hl, hm])
      have HM := Lib.hid hm
      have hlt : S.list.length < 1048576 := by omega
      clear hl h hm
      go_enter Try.func55, Try.ntmps55
      go_wp2_with (first | refine sL ?_ | (refine sS ?_; clear H; intro _ H) | (refine sA ?_; clear H; intro _ _ H) | (go_at_call 82; refine (find_new_r ⟨1, b, 0, 0, 0⟩ HF.out HO.out HL.out HM.out _ (H.get pk)).mono ?_; rintro e wc ⟨rfl, hb⟩; replace H := H.grew hb.below; clear hb))
      refine wp_region_h H 5 [] [] (by kernel_rfl) (by kernel_rfl) ?_
      apply Exists.intro
      refine ⟨fun w1 hw1 HX => ?_, fun bs wr Hr => ?_⟩
      · refine sG ?_
        repeat (first | refine sQ ?_ | go_big_quiet_step ((go_at_call 84; exact quiet_st (wletter_l b HB.out _))) | go_big_quiet_step (fail))
        exact wpQuiet_nil rfl
      clear H
      have H := Hr
      clear Hr
      replace H := sH H; refine sT ?_
      go_wp2_with (first | refine sL ?_ | (refine sS ?_; clear H; intro _ H) | (refine sA ?_; clear H; intro _ _ H))
      refine (add_st (letterE b) (look_none HL.out) HF.out hlt _ (H.get pk)).mono ?_
      rintro e wc ⟨lv2, rfl, hb⟩
      replace H := (H.pick (A := stoA p lv m S) pk).call hb
      clear hb
      go_wp2_with (first | refine sL ?_ | (refine sS ?_; clear H; intro _ H) | (refine sA ?_; clear H; intro _ _ H))
      go_ret2
      exact StoPost.mk lv2 (by rw [HR.out]; rfl) (by rw [HR.out]; exact H.onlyHead)
theorem add_ok_e (a b : Nat) (w : World) (h : a + b ≤ maxT) :
    Calls Try.prog 87 #[.int .i64 a, .int .i64 b] w fun e w' => e = .returned (.tuple #[.int .i64 (a + b : Nat), .nilIface]) ∧ w' = w := add_ok a b w h
theorem add_long_e (a b : Nat) (w : World) (ha : a ≤ maxT) (hb : b ≤ maxT) (h : maxT < a + b) :
    Calls Try.prog 87 #[.int .i64 a, .int .i64 b] w fun e w' => e = .returned (.tuple #[.int .i64 0, .iface 42 (.int .i64 2)]) ∧ w' = w := add_long a b w ha hb h
theorem mul_ok_e (a k : Nat) (w : World) (ha : 0 < a) (ha' : a ≤ maxT) (h : a * k ≤ maxT) :
    Calls Try.prog 85 #[.int .i64 a, .int .i64 k] w fun e w' => e = .returned (.tuple #[.int .i64 (a * k : Nat), .nilIface]) ∧ w' = w := mul_ok a k _ rfl w ha ha' h
theorem mul_long_e (a k : Nat) (w : World) (ha : 0 < a) (ha' : a ≤ maxT) (h : maxT < a * k) :
    Calls Try.prog 85 #[.int .i64 a, .int .i64 k] w fun e w' => e = .returned (.tuple #[.int .i64 0, .iface 42 (.int .i64 2)]) ∧ w' = w := mul_long a k _ rfl w ha ha' h
theorem wjoin_l (a b : Wt) (ha : a.Ok) (hb : b.Ok) (hl : a.len + b.len ≤ maxT) (w : World) :
    Calls Try.prog 88 #[.agg #[.int .i64 a.len, .int .i64 a.lines, .int .i64 a.head, .int .i64 a.tail, .int .u64 a.val, .int .u64 a.scale], .agg #[.int .i64 b.len, .int .i64 b.lines, .int .i64 b.head, .int .i64 b.tail, .int .u64 b.val, .int .u64 b.scale]] w
      fun e w' => e = .returned (.tuple #[.agg #[.int .i64 (a.join b).len, .int .i64 (a.join b).lines, .int .i64 (a.join b).head, .int .i64 (a.join b).tail, .int .u64 (a.join b).val, .int .u64 (a.join b).scale], .nilIface]) ∧ St w [] [] w' := wjoin_c a b ha hb hl w
theorem wrepeat_l (x : Wt) (hx : x.Ok) (hp : 0 < x.len) (k : Nat) (hk : 0 < k) (hl : x.len * k ≤ maxT) (w : World) :
    Calls Try.prog 86 #[.agg #[.int .i64 x.len, .int .i64 x.lines, .int .i64 x.head, .int .i64 x.tail, .int .u64 x.val, .int .u64 x.scale], .int .i64 k] w
      fun e w' => e = .returned (.tuple #[.agg #[.int .i64 (x.rep k).len, .int .i64 (x.rep k).lines, .int .i64 (x.rep k).head, .int .i64 (x.rep k).tail, .int .u64 (x.rep k).val, .int .u64 (x.rep k).scale], .nilIface]) ∧ St w [] [] w' := wrepeat_c x hx hp k hk hl _ rfl w
theorem at_in {p m : Nat} {lv : Value} {S : Sto} {i : Nat} {x : En} (hx : S.list[i]? = some x) (w : World) (hs : (stoA p lv m S).ho w) :
    Calls Try.prog 62 #[.pointer (some ⟨p, 0, none⟩), .int .i64 ((i : Int) + 1)] w fun e w' => e = .returned (.agg #[.int .i64 x.r.kind, .int .u8 x.r.letter, .int .i64 x.r.left, .int .i64 x.r.right, .int .i64 x.r.times, .int .i64 x.w.len, .int .i64 x.w.lines, .int .i64 x.w.head, .int .i64 x.w.tail, .int .u64 x.w.val, .int .u64 x.w.scale, .int .i64 x.depth, .bool x.even]) ∧ St w [] [] w' := at_c hx _ rfl w hs
theorem calls_arg {P : Program} {f : FuncId} {xs ys : Array Value} {w : World} {Q : Ending → World → Prop} (e : xs = ys) (h : Calls P f ys w Q) : Calls P f xs w Q := e ▸ h
theorem pair_in {p m : Nat} {lv : Value} {S : Sto} (h : S.Ok) (l r : Nat) (x y : En) (hx : S.list[l]? = some x) (hy : S.list[r]? = some y) (hs2 : x.w.len + y.w.len ≤ maxT) (w : World) (hs : (stoA p lv m S).ho w) :
    Calls Try.prog 57 #[.pointer (some ⟨p, 0, none⟩), .int .i64 ((l : Int) + 1), .int .i64 ((r : Int) + 1)] w (StoPost p m (stoA p lv m S).fp (S.put (pairE x y (l + 1) (r + 1))) w) := by
  have H := St.one hs
  generalize (stoA p lv m S).fp = M at H ⊢
  have hlen := h.len
  have hmost := h.most
  have hli := getElem_len hx
  have hri := getElem_len hy
  have gx := h.good l x hx
  have gy := h.good r y hy
  have hdx := gx.depth
  have hdy := gy.depth
  have HG := Lib.hid (And.intro gx (And.intro gy hs2))
  have HX0 := Lib.hid (And.intro hx hy)
  have HO := Lib.hid h
  obtain ⟨rl, hrl⟩ : ∃ rl, rl = (⟨2, 0, l + 1, r + 1, 0⟩ : Rl) := ⟨_, rfl⟩
  have HF : Hid (Rl.Fits ⟨2, 0, l + 1, r + 1, 0⟩) := Lib.hid ⟨by simp, by simp, by simp; omega, by simp; omega, by simp⟩
  clear hs hx hy gx gy hs2 hrl rl
  cases hl : S.look ⟨2, 0, l + 1, r + 1, 0⟩ with
  | some i =>
    have HR : Hid (S.put (pairE x y (l + 1) (r + 1)) = ((i + 1, none), S)) := Lib.hid (by simp [Sto.put, pairE, hl])
    have HL := Lib.hid hl
    clear hl h
    go_enter Try.func57, Try.ntmps57
    go_wp2_with (first | refine sL ?_ | (refine sS ?_; clear H; intro _ H) | (refine sA ?_; clear H; intro _ _ H) | (go_at_call 61; refine same (known_yes _ _ (H.get pk) (by omega) (by omega)) ?_))
    refine (at_in HX0.out.1 _ (H.get pk)).mono ?_
    rintro e wc ⟨rfl, hb⟩
    replace H := H.grew hb.below
    clear hb
    go_wp2_with (first | refine sL ?_ | (refine sS ?_; clear H; intro _ H) | (refine sA ?_; clear H; intro _ _ H))
    refine (at_in HX0.out.2 _ (H.get pk)).mono ?_
    rintro e wc ⟨rfl, hb⟩
    replace H := H.grew hb.below
    clear hb
    go_wp2_with (first | refine sL ?_ | (refine sS ?_; clear H; intro _ H) | (refine sA ?_; clear H; intro _ _ H) | (go_at_call 87; refine same (add_ok_e x.w.len y.w.len _ HG.out.2.2) ?_) | (go_at_call 82; refine (find_hit_r ⟨2, 0, l + 1, r + 1, 0⟩ HO.out HL.out _ (H.get pk)).mono ?_; rintro e wc ⟨rfl, hb⟩; replace H := H.grew hb.below; clear hb))
    go_ret2
    exact StoPost.mk lv (by rw [HR.out]; rfl) (by rw [HR.out]; exact H.only pk)
  | none =>
    have HL := Lib.hid hl
    by_cases hm : S.most ≤ S.list.length
    · have HR : Hid (S.put (pairE x y (l + 1) (r + 1)) = ((0, some 3), S)) := Lib.hid (by simp [Sto.put, pairE, hl, hm])
      have HM := Lib.hid hm
      clear hl h hm
      go_enter Try.func57, Try.ntmps57
      go_wp2_with (first | refine sL ?_ | (refine sS ?_; clear H; intro _ H) | (refine sA ?_; clear H; intro _ _ H) | (go_at_call 61; refine same (known_yes _ _ (H.get pk) (by omega) (by omega)) ?_))
      refine (at_in HX0.out.1 _ (H.get pk)).mono ?_
      rintro e wc ⟨rfl, hb⟩
      replace H := H.grew hb.below
      clear hb
      go_wp2_with (first | refine sL ?_ | (refine sS ?_; clear H; intro _ H) | (refine sA ?_; clear H; intro _ _ H))
      refine (at_in HX0.out.2 _ (H.get pk)).mono ?_
      rintro e wc ⟨rfl, hb⟩
      replace H := H.grew hb.below
      clear hb
      go_wp2_with (first | refine sL ?_ | (refine sS ?_; clear H; intro _ H) | (refine sA ?_; clear H; intro _ _ H) | (go_at_call 87; refine same (add_ok_e x.w.len y.w.len _ HG.out.2.2) ?_) | (go_at_call 82; refine (find_full_r ⟨2, 0, l + 1, r + 1, 0⟩ HF.out HO.out HL.out HM.out _ (H.get pk)).mono ?_; rintro e wc ⟨rfl, hb⟩; replace H := H.grew hb.below; clear hb))
      go_ret2
      exact StoPost.mk lv (by rw [HR.out]; rfl) (by rw [HR.out]; exact H.only pk)
    · have HR : Hid (S.put (pairE x y (l + 1) (r + 1)) = ((S.list.length + 1, none), ⟨S.most, S.list ++ [pairE x y (l + 1) (r + 1)]⟩)) := Lib.hid (by simp [Sto.put, pairE, hl, hm])
      have HM := Lib.hid hm
      have hlt : S.list.length < 1048576 := by omega
      clear hl h hm
      go_enter Try.func57, Try.ntmps57
      go_wp2_with (first | refine sL ?_ | (refine sS ?_; clear H; intro _ H) | (refine sA ?_; clear H; intro _ _ H) | (go_at_call 61; refine same (known_yes _ _ (H.get pk) (by omega) (by omega)) ?_))
      refine (at_in HX0.out.1 _ (H.get pk)).mono ?_
      rintro e wc ⟨rfl, hb⟩
      replace H := H.grew hb.below
      clear hb
      go_wp2_with (first | refine sL ?_ | (refine sS ?_; clear H; intro _ H) | (refine sA ?_; clear H; intro _ _ H))
      refine (at_in HX0.out.2 _ (H.get pk)).mono ?_
      rintro e wc ⟨rfl, hb⟩
      replace H := H.grew hb.below
      clear hb
      go_wp2_with (first | refine sL ?_ | (refine sS ?_; clear H; intro _ H) | (refine sA ?_; clear H; intro _ _ H) | (go_at_call 87; refine same (add_ok_e x.w.len y.w.len _ HG.out.2.2) ?_) | (go_at_call 82; refine (find_new_r ⟨2, 0, l + 1, r + 1, 0⟩ HF.out HO.out HL.out HM.out _ (H.get pk)).mono ?_; rintro e wc ⟨rfl, hb⟩; replace H := H.grew hb.below; clear hb))
      refine (wjoin_l x.w y.w HG.out.1.wok HG.out.2.1.wok HG.out.2.2 _).mono ?_
      rintro e wc ⟨rfl, hb⟩
      replace H := H.grew hb.below
      clear hb
      obtain ⟨ex, hex⟩ : ∃ ex, ex = x.even := ⟨_, rfl⟩
      obtain ⟨ey, hey⟩ : ∃ ey, ey = y.even := ⟨_, rfl⟩
      rw [← hex, ← hey] at H
      have HEX := Lib.hid hex
      have HEY := Lib.hid hey
      clear hex hey
      cases ex <;> cases ey <;> by_cases h1 : x.depth ≤ y.depth + 1 <;> by_cases h2 : y.depth ≤ x.depth + 1
      all_goals first
        | (exfalso; omega)
        | skip
      all_goals
        go_wp2_with (first | refine sL ?_ | (refine sS ?_; clear H; intro _ H) | (refine sA ?_; clear H; intro _ _ H))
        refine calls_arg (ys := #[.pointer (some ⟨p, 0, none⟩), .agg (enL (pairE x y (l + 1) (r + 1))).toArray]) ?_ ((add_st (pairE x y (l + 1) (r + 1)) (look_none HL.out) HF.out hlt _ (H.get pk)).mono ?_)
        · simp [enL, pairE, ← HEX.out, ← HEY.out, h1, h2]; try omega
        rintro e wc ⟨lv2, rfl, hb⟩
        replace H := (H.pick (A := stoA p lv m S) pk).call hb
        clear hb
        go_wp2_with (first | refine sL ?_ | (refine sS ?_; clear H; intro _ H) | (refine sA ?_; clear H; intro _ _ H))
        go_ret2
        exact StoPost.mk lv2 (by rw [HR.out]; rfl) (by rw [HR.out]; exact H.onlyHead)
end Go.Proofs.Ytijnhpaafhcndaa
end
section
namespace Go.Proofs.Ytijnhpaafhcndaa
open Go.RowKit Go.Maps
attribute [local go_sem] InGr
set_option maxHeartbeats 2000000
set_option maxRecDepth 100000
set_option linter.unusedSimpArgs false
set_option linter.unusedVariables false
theorem pair_long {p m : Nat} {lv : Value} {S : Sto} (h : S.Ok) (l r : Nat) (x y : En) (hx : S.list[l]? = some x) (hy : S.list[r]? = some y) (hs2 : maxT < x.w.len + y.w.len) (w : World) (hs : (stoA p lv m S).ho w) :
    Calls Try.prog 57 #[.pointer (some ⟨p, 0, none⟩), .int .i64 ((l : Int) + 1), .int .i64 ((r : Int) + 1)] w (StoPost p m (stoA p lv m S).fp ((0, some 2), S) w) := by
  have H := St.one hs
  generalize (stoA p lv m S).fp = M at H ⊢
  have hlen := h.len
  have hmost := h.most
  have hli := getElem_len hx
  have hri := getElem_len hy
  have gx := h.good l x hx
  have gy := h.good r y hy
  have HG := Lib.hid (And.intro gx.wok.len (And.intro gy.wok.len hs2))
  have HX0 := Lib.hid (And.intro hx hy)
  clear hs hx hy gx gy hs2 h
  go_enter Try.func57, Try.ntmps57
  go_wp2_with (first | refine sL ?_ | (refine sS ?_; clear H; intro _ H) | (refine sA ?_; clear H; intro _ _ H) | (go_at_call 61; refine same (known_yes _ _ (H.get pk) (by omega) (by omega)) ?_))
  refine (at_in HX0.out.1 _ (H.get pk)).mono ?_
  rintro e wc ⟨rfl, hb⟩
  replace H := H.grew hb.below
  clear hb
  go_wp2_with (first | refine sL ?_ | (refine sS ?_; clear H; intro _ H) | (refine sA ?_; clear H; intro _ _ H))
  refine (at_in HX0.out.2 _ (H.get pk)).mono ?_
  rintro e wc ⟨rfl, hb⟩
  replace H := H.grew hb.below
  clear hb
  go_wp2_with (first | refine sL ?_ | (refine sS ?_; clear H; intro _ H) | (refine sA ?_; clear H; intro _ _ H) | (go_at_call 87; refine same (add_long_e x.w.len y.w.len _ HG.out.1 HG.out.2.1 HG.out.2.2) ?_))
  go_ret2
  exact StoPost.mk lv rfl (H.only pk)
theorem pair_left {p m : Nat} {lv : Value} {S : Sto} (h : S.Ok) (r : Nat) (hr : r ≤ S.list.length) (w : World) (hs : (stoA p lv m S).ho w) :
    Calls Try.prog 57 #[.pointer (some ⟨p, 0, none⟩), .int .i64 0, .int .i64 (r : Int)] w (StoPost p m (stoA p lv m S).fp ((r, none), S) w) := by
  have H := St.one hs
  generalize (stoA p lv m S).fp = M at H ⊢
  have hlen := h.len
  have hmost := h.most
  clear hs h
  go_enter Try.func57, Try.ntmps57
  go_wp2_with (first | refine sL ?_ | (refine sS ?_; clear H; intro _ H) | (refine sA ?_; clear H; intro _ _ H) | (go_at_call 61; refine same (known_yes _ _ (H.get pk) (by omega) (by omega)) ?_))
  go_ret2
  exact StoPost.mk lv rfl (H.only pk)
theorem pair_right {p m : Nat} {lv : Value} {S : Sto} (h : S.Ok) (l : Nat) (hr : l < S.list.length) (w : World) (hs : (stoA p lv m S).ho w) :
    Calls Try.prog 57 #[.pointer (some ⟨p, 0, none⟩), .int .i64 ((l : Int) + 1), .int .i64 0] w (StoPost p m (stoA p lv m S).fp ((l + 1, none), S) w) := by
  have H := St.one hs
  generalize (stoA p lv m S).fp = M at H ⊢
  have hlen := h.len
  have hmost := h.most
  clear hs h
  go_enter Try.func57, Try.ntmps57
  go_wp2_with (first | refine sL ?_ | (refine sS ?_; clear H; intro _ H) | (refine sA ?_; clear H; intro _ _ H) | (go_at_call 61; refine same (known_yes _ _ (H.get pk) (by omega) (by omega)) ?_))
  go_ret2
  exact StoPost.mk lv rfl (H.only pk)
theorem pair_c {p m : Nat} {lv : Value} {S : Sto} (h : S.Ok) (l r : Nat) (hl : l ≤ S.list.length) (hr : r ≤ S.list.length) (w : World) (hs : (stoA p lv m S).ho w) :
    Calls Try.prog 57 #[.pointer (some ⟨p, 0, none⟩), .int .i64 (l : Int), .int .i64 (r : Int)] w (StoPost p m (stoA p lv m S).fp (S.pair l r) w) := by
  obtain ⟨x, hx⟩ := enAt_some hl
  obtain ⟨y, hy⟩ := enAt_some hr
  unfold Sto.pair
  simp only [hx, hy]
  cases l with
  | zero => exact pair_left h r hr w hs
  | succ l =>
    rw [if_neg (by omega)]
    cases r with
    | zero => exact pair_right h l hl w hs
    | succ r =>
      rw [if_neg (by omega)]
      split
      · rename_i hlong
        exact pair_long h l r x y hx hy hlong w hs
      · rename_i hlong
        exact pair_in h l r x y hx hy (by omega) w hs
theorem power_none {p m : Nat} {lv : Value} {S : Sto} (h : S.Ok) (x k : Nat) (hx : x ≤ S.list.length) (hk : k < 9223372036854775808) (h0 : k = 0 ∨ x = 0) (w : World) (hs : (stoA p lv m S).ho w) :
    Calls Try.prog 56 #[.pointer (some ⟨p, 0, none⟩), .int .i64 (x : Int), .int .i64 (k : Int)] w (StoPost p m (stoA p lv m S).fp ((0, none), S) w) := by
  have H := St.one hs
  generalize (stoA p lv m S).fp = M at H ⊢
  have hlen := h.len
  have hmost := h.most
  clear hs h
  by_cases hk0 : k = 0
  · subst hk0
    clear h0
    go_enter Try.func56, Try.ntmps56
    go_wp2_with (first | refine sL ?_ | (refine sS ?_; clear H; intro _ H) | (refine sA ?_; clear H; intro _ _ H) | (go_at_call 61; refine same (known_yes _ _ (H.get pk) (by omega) (by omega)) ?_))
    go_ret2
    exact StoPost.mk lv rfl (H.only pk)
  · obtain rfl : x = 0 := by omega
    clear h0
    have hk1 : ((k : Int) == 0) = false := by rw [beq_eq_false_iff_ne]; omega
    go_enter Try.func56, Try.ntmps56
    go_wp2_with (first | refine sL ?_ | (refine sS ?_; clear H; intro _ H) | (refine sA ?_; clear H; intro _ _ H) | (go_at_call 61; refine same (known_yes _ _ (H.get pk) (by omega) (by omega)) ?_))
    go_ret2
    exact StoPost.mk lv rfl (H.only pk)
theorem power_one {p m : Nat} {lv : Value} {S : Sto} (h : S.Ok) (x : Nat) (hx : x < S.list.length) (w : World) (hs : (stoA p lv m S).ho w) :
    Calls Try.prog 56 #[.pointer (some ⟨p, 0, none⟩), .int .i64 ((x : Int) + 1), .int .i64 1] w (StoPost p m (stoA p lv m S).fp ((x + 1, none), S) w) := by
  have H := St.one hs
  generalize (stoA p lv m S).fp = M at H ⊢
  have hlen := h.len
  have hmost := h.most
  clear hs h
  go_enter Try.func56, Try.ntmps56
  go_wp2_with (first | refine sL ?_ | (refine sS ?_; clear H; intro _ H) | (refine sA ?_; clear H; intro _ _ H) | (go_at_call 61; refine same (known_yes _ _ (H.get pk) (by omega) (by omega)) ?_))
  go_ret2
  exact StoPost.mk lv rfl (H.only pk)
theorem power_long {p m : Nat} {lv : Value} {S : Sto} (h : S.Ok) (l k : Nat) (x : En) (hx : S.list[l]? = some x) (hk2 : 2 ≤ k) (hk : k < 9223372036854775808) (hs2 : maxT < x.w.len * k) (w : World) (hs : (stoA p lv m S).ho w) :
    Calls Try.prog 56 #[.pointer (some ⟨p, 0, none⟩), .int .i64 ((l : Int) + 1), .int .i64 (k : Int)] w (StoPost p m (stoA p lv m S).fp ((0, some 2), S) w) := by
  have H := St.one hs
  generalize (stoA p lv m S).fp = M at H ⊢
  have hlen := h.len
  have hmost := h.most
  have hli := getElem_len hx
  have gx := h.good l x hx
  have HG := Lib.hid (And.intro gx.pos (And.intro gx.wok.len hs2))
  have HX0 := Lib.hid hx
  have hk0 : ((k : Int) == 0) = false := by rw [beq_eq_false_iff_ne]; omega
  have hk1 : ((k : Int) == 1) = false := by rw [beq_eq_false_iff_ne]; omega
  clear hs hx gx hs2 h
  go_enter Try.func56, Try.ntmps56
  go_wp2_with (first | refine sL ?_ | (refine sS ?_; clear H; intro _ H) | (refine sA ?_; clear H; intro _ _ H) | (go_at_call 61; refine same (known_yes _ _ (H.get pk) (by omega) (by omega)) ?_))
  refine (at_in HX0.out _ (H.get pk)).mono ?_
  rintro e wc ⟨rfl, hb⟩
  replace H := H.grew hb.below
  clear hb
  go_wp2_with (first | refine sL ?_ | (refine sS ?_; clear H; intro _ H) | (refine sA ?_; clear H; intro _ _ H) | (go_at_call 85; refine same (mul_long_e x.w.len k _ HG.out.1 HG.out.2.1 HG.out.2.2) ?_))
  go_ret2
  exact StoPost.mk lv rfl (H.only pk)
theorem power_in {p m : Nat} {lv : Value} {S : Sto} (h : S.Ok) (l k : Nat) (x : En) (hx : S.list[l]? = some x) (hk2 : 2 ≤ k) (hs2 : x.w.len * k ≤ maxT) (w : World) (hs : (stoA p lv m S).ho w) :
    Calls Try.prog 56 #[.pointer (some ⟨p, 0, none⟩), .int .i64 ((l : Int) + 1), .int .i64 (k : Int)] w (StoPost p m (stoA p lv m S).fp (S.put (powerE x (l + 1) k)) w) := by
  have H := St.one hs
  generalize (stoA p lv m S).fp = M at H ⊢
  have hlen := h.len
  have hmost := h.most
  have hli := getElem_len hx
  have gx := h.good l x hx
  have hdx := gx.depth
  have hkm : k ≤ 1152921504606846976 := Nat.le_trans (Nat.le_mul_of_pos_left k gx.pos) hs2
  have HG := Lib.hid (And.intro gx hs2)
  have HX0 := Lib.hid hx
  have HO := Lib.hid h
  have HF : Hid (Rl.Fits ⟨3, 0, l + 1, 0, k⟩) := Lib.hid ⟨by simp, by simp, by simp; omega, by simp, by simp; omega⟩
  have hk0 : ((k : Int) == 0) = false := by rw [beq_eq_false_iff_ne]; omega
  have hk1 : ((k : Int) == 1) = false := by rw [beq_eq_false_iff_ne]; omega
  clear hs hx gx hs2
  cases hl : S.look ⟨3, 0, l + 1, 0, k⟩ with
  | some i =>
    have HR : Hid (S.put (powerE x (l + 1) k) = ((i + 1, none), S)) := Lib.hid (by simp [Sto.put, powerE, hl])
    have HL := Lib.hid hl
    clear hl h
    go_enter Try.func56, Try.ntmps56
    go_wp2_with (first | refine sL ?_ | (refine sS ?_; clear H; intro _ H) | (refine sA ?_; clear H; intro _ _ H) | (go_at_call 61; refine same (known_yes _ _ (H.get pk) (by omega) (by omega)) ?_))
    refine (at_in HX0.out _ (H.get pk)).mono ?_
    rintro e wc ⟨rfl, hb⟩
    replace H := H.grew hb.below
    clear hb
    go_wp2_with (first | refine sL ?_ | (refine sS ?_; clear H; intro _ H) | (refine sA ?_; clear H; intro _ _ H) | (go_at_call 85; refine same (mul_ok_e x.w.len k _ HG.out.1.pos HG.out.1.wok.len HG.out.2) ?_) | (go_at_call 82; refine (find_hit_r ⟨3, 0, l + 1, 0, k⟩ HO.out HL.out _ (H.get pk)).mono ?_; rintro e wc ⟨rfl, hb⟩; replace H := H.grew hb.below; clear hb))
    go_ret2
    exact StoPost.mk lv (by rw [HR.out]; rfl) (by rw [HR.out]; exact H.only pk)
  | none =>
    have HL := Lib.hid hl
    by_cases hm : S.most ≤ S.list.length
    · have HR : Hid (S.put (powerE x (l + 1) k) = ((0, some 3), S)) := Lib.hid (by simp [Sto.put, powerE, hl, hm])
      have HM := Lib.hid hm
      clear hl h hm
      go_enter Try.func56, Try.ntmps56
      go_wp2_with (first | refine sL ?_ | (refine sS ?_; clear H; intro _ H) | (refine sA ?_; clear H; intro _ _ H) | (go_at_call 61; refine same (known_yes _ _ (H.get pk) (by omega) (by omega)) ?_))
      refine (at_in HX0.out _ (H.get pk)).mono ?_
      rintro e wc ⟨rfl, hb⟩
      replace H := H.grew hb.below
      clear hb
      go_wp2_with (first | refine sL ?_ | (refine sS ?_; clear H; intro _ H) | (refine sA ?_; clear H; intro _ _ H) | (go_at_call 85; refine same (mul_ok_e x.w.len k _ HG.out.1.pos HG.out.1.wok.len HG.out.2) ?_) | (go_at_call 82; refine (find_full_r ⟨3, 0, l + 1, 0, k⟩ HF.out HO.out HL.out HM.out _ (H.get pk)).mono ?_; rintro e wc ⟨rfl, hb⟩; replace H := H.grew hb.below; clear hb))
      go_ret2
      exact StoPost.mk lv (by rw [HR.out]; rfl) (by rw [HR.out]; exact H.only pk)
    · have HR : Hid (S.put (powerE x (l + 1) k) = ((S.list.length + 1, none), ⟨S.most, S.list ++ [powerE x (l + 1) k]⟩)) := Lib.hid (by simp [Sto.put, powerE, hl, hm])
      have HM := Lib.hid hm
      have hlt : S.list.length < 1048576 := by omega
      clear hl h hm
      go_enter Try.func56, Try.ntmps56
      go_wp2_with (first | refine sL ?_ | (refine sS ?_; clear H; intro _ H) | (refine sA ?_; clear H; intro _ _ H) | (go_at_call 61; refine same (known_yes _ _ (H.get pk) (by omega) (by omega)) ?_))
      refine (at_in HX0.out _ (H.get pk)).mono ?_
      rintro e wc ⟨rfl, hb⟩
      replace H := H.grew hb.below
      clear hb
      go_wp2_with (first | refine sL ?_ | (refine sS ?_; clear H; intro _ H) | (refine sA ?_; clear H; intro _ _ H) | (go_at_call 85; refine same (mul_ok_e x.w.len k _ HG.out.1.pos HG.out.1.wok.len HG.out.2) ?_) | (go_at_call 82; refine (find_new_r ⟨3, 0, l + 1, 0, k⟩ HF.out HO.out HL.out HM.out _ (H.get pk)).mono ?_; rintro e wc ⟨rfl, hb⟩; replace H := H.grew hb.below; clear hb))
      refine (wrepeat_l x.w HG.out.1.wok HG.out.1.pos k (by omega) HG.out.2 _).mono ?_
      rintro e wc ⟨rfl, hb⟩
      replace H := H.grew hb.below
      clear hb
      go_wp2_with (first | refine sL ?_ | (refine sS ?_; clear H; intro _ H) | (refine sA ?_; clear H; intro _ _ H))
      refine calls_arg (ys := #[.pointer (some ⟨p, 0, none⟩), .agg (enL (powerE x (l + 1) k)).toArray]) ?_ ((add_st (powerE x (l + 1) k) (look_none HL.out) HF.out hlt _ (H.get pk)).mono ?_)
      · simp [enL, powerE]
      rintro e wc ⟨lv2, rfl, hb⟩
      replace H := (H.pick (A := stoA p lv m S) pk).call hb
      clear hb
      go_wp2_with (first | refine sL ?_ | (refine sS ?_; clear H; intro _ H) | (refine sA ?_; clear H; intro _ _ H))
      go_ret2
      exact StoPost.mk lv2 (by rw [HR.out]; rfl) (by rw [HR.out]; exact H.onlyHead)
theorem power_c {p m : Nat} {lv : Value} {S : Sto} (h : S.Ok) (x k : Nat) (hx : x ≤ S.list.length) (hk : k < 9223372036854775808) (w : World) (hs : (stoA p lv m S).ho w) :
    Calls Try.prog 56 #[.pointer (some ⟨p, 0, none⟩), .int .i64 (x : Int), .int .i64 (k : Int)] w (StoPost p m (stoA p lv m S).fp (S.power x k) w) := by
  obtain ⟨e, he⟩ := enAt_some hx
  unfold Sto.power
  simp only [he]
  by_cases h0 : k = 0 ∨ x = 0
  · rw [if_pos h0]
    exact power_none h x k hx hk h0 w hs
  · rw [if_neg h0]
    simp at h0
    obtain ⟨l, rfl⟩ := Nat.exists_eq_succ_of_ne_zero h0.2
    by_cases h1 : k = 1
    · rw [if_pos h1]
      subst h1
      exact power_one h l hx w hs
    · rw [if_neg h1]
      split
      · rename_i h2
        exact power_long h l k e he (by omega) hk h2 w hs
      · rename_i h2
        exact power_in h l k e he (by omega) (by omega) w hs
end Go.Proofs.Ytijnhpaafhcndaa
end
section
namespace Go.Proofs.Ytijnhpaafhcndaa
open Go.RowKit Go.Maps
attribute [local go_sem] InGr
set_option maxHeartbeats 2000000
set_option maxRecDepth 100000
set_option linter.unusedSimpArgs false
set_option linter.unusedVariables false
theorem QtLoad.cel {ops : Array Oper} {K : Act → Prop} {rest : List Oper} {a : Act} {w1 : World} {o1 : Oper} {ty : TypeId} {x : Operand} (hw : Region.wanted o1 (yielded ops a.tmps) = true) (ho : o1.op = .load ty x) {g o : Nat} (hx : a.eval x = .pointer (some ⟨g, o, none⟩)) (hr : isCellT ty = true) {v : Value} (hc : ∀ y : Gr w1, y.1.cell? ⟨g, o, none⟩ = some v)
    (h : wpQuiet Try.prog ops (InGr w1) K rest (a.put o1.dst v)) : QtLoad Try.prog ops (InGr w1) K o1 ty x rest a :=
  wpQuiet_step fun _ hK => by
    rw [if_pos hw]
    have hr := isCellT_ok hr
    unfold cellTy at hr
    simp only [Bool.and_eq_true, beq_iff_eq] at hr
    refine ⟨v, fun w2 ⟨y, hy⟩ => ?_, hK _ h⟩
    subst hy
    have hl : (Instr.loadAt ty (.pointer (some ⟨g, o, none⟩))).run Try.prog y.1 = .ok v y.1 := by
      cases hu : Try.prog.underlying ty with
      | none => simp [hu] at hr
      | some d =>
        have hagg : (isAgg ty).run Try.prog y.1 = .ok false y.1 := by
          unfold isAgg
          rw [Sem.run_bind, run_underlying hu y.1]
          simp only [hu] at hr
          cases d <;> simp_all
        simp [Instr.loadAt, Instr.sureAddr, loadVar, Sem.run_bind, hagg, run_load, hc y]
    unfold Oper.quietAt execOp
    simp only [ho, hx, Sem.run_bind, hl, Result.andThen_ok]
    exact ⟨rfl, rfl⟩
theorem quiet_same_x {f : FuncId} {args : Array Value} {v : Value} {w : World} {x : Gr w} (h : Calls Try.prog f args x.1 fun e w' => e = .returned v ∧ w' = x.1) : Calls Try.prog f args x.1 fun e w'' => e = .returned v ∧ ∃ y : Gr w, w'' = y.1 := quiet_gr_same h
theorem stoA_new {p m : Nat} {n : Nat} {w0 w : World} {M : List Nat} {R : List As} (h : St w0 M (blk p (.cells #[.int .i64 (n : Nat), .slice none 0 0, .map (some m)] 113) :: mapA Try.prog 100 m [] :: R) w) : St w0 M (stoA p (.slice none 0 0) m ⟨n, []⟩ :: R) w := by
  have h1 := h.empty (A := rowsA enL 128 13 (.slice none 0 0) []) (rowsA_nil w) (by rw [rowsA_fp']; rfl)
  exact stoA_shut (h1.pick (.there .here)) rfl
theorem new_c (n : Nat) (hn : n ≤ 1048576) (z : Int) (hz : z = n) (w : World) :
    Calls Try.prog 25 #[.int .i64 z] w fun e w' => ∃ p m, e = .returned (.pointer (some ⟨p, 0, none⟩)) ∧ St w [] [stoA p (.slice none 0 0) m ⟨n, []⟩] w' := by
  subst hz
  have H := St.nil w []
  go_enter Try.func25, Try.ntmps25
  go_wp2_with (first | (refine sB ?_; clear H; intro _ _ H) | (go_at_call 54; refine same (clip_c n _ (by omega) (by omega)) ?_) | ((with_reducible refine isMakeMap ?_); refine AtMakeMap.go 100 H rfl rfl ?_; clear H; intro m _ H; simp only [Act.put, puA, puB, puC]))
  go_ret
  exact ⟨_, _, rfl, stoA_new H⟩
theorem St.only3 {w0 w : World} {M : List Nat} {L R R' R'' : List As} {A B C : As} (h : St w0 M L w) (h1 : Pick L A R) (h2 : Pick R B R') (h3 : Pick R' C R'') : St w0 M [A, B, C] w := by
  have h := h.pick3 h1 h2 h3
  refine ⟨h.os, h.tape, h.output, h.size, h.keep, fun D hD => h.ho D ?_, fun D hD => h.own D ?_, ?_⟩
  · simp at hD ⊢; rcases hD with h | h | h <;> simp [h]
  · simp at hD ⊢; rcases hD with h | h | h <;> simp [h]
  · have := h.dis
    simp only [List.pairwise_cons, List.mem_cons] at this ⊢
    obtain ⟨d1, d2, _⟩ := this
    refine ⟨fun D hD => d1 D ?_, fun D hD => d2 D ?_, by simp, List.Pairwise.nil⟩
    · simp at hD; rcases hD with h | h <;> simp [h]
    · simp at hD; simp [hD]
def LBPost (p m : Nat) (M : List Nat) (S : Sto) (ids : List Nat) (w : World) (e : Ending) (w' : World) : Prop :=
  ∃ rv lv, e = .returned (.tuple #[rv, .bool true]) ∧ St w M [stoA p lv m S, rowsA encI 32 1 rv ids] w'
theorem makes_pre (S : Sto) (ids : List Nat) (ms : List Mk) : ∃ l, (S.makes ids ms).2 = ids ++ l := by
  induction ms generalizing S ids with
  | nil => exact ⟨[], by simp [Sto.makes]⟩
  | cons a ms ih =>
    simp only [Sto.makes]
    obtain ⟨l, hl⟩ := ih (S.make ids a).2 (ids ++ [(S.make ids a).1.1])
    exact ⟨[(S.make ids a).1.1] ++ l, by rw [hl, List.append_assoc]⟩
theorem makes_app (S : Sto) (ids : List Nat) (a b : List Mk) : S.makes ids (a ++ b) = (S.makes ids a).1.makes (S.makes ids a).2 b := by
  induction a generalizing S ids with
  | nil => rfl
  | cons x a ih => simp only [List.cons_append, Sto.makes, ih]
theorem scr_pre (most : Nat) (ms : List Mk) (k : Nat) : ∃ l, (scr most ms ms.length).2 = (scr most ms k).2 ++ l := by
  have e : ms.take ms.length = ms.take k ++ ms.drop k := by rw [List.take_length, List.take_append_drop]
  unfold scr
  rw [e, makes_app]
  exact makes_pre _ _ _
theorem scr_want {most : Nat} (hmost : most ≤ 1048576) {ms : List Mk} (hf : ∀ m ∈ ms, m.Fits) {k : Nat} {x : Mk} (hx : ms[k]? = some x) : (scr most ms ms.length).2[k + 1]? = some ((scr most ms k).1.make (scr most ms k).2 x).1.1 := by
  obtain ⟨l, hl⟩ := scr_pre most ms (k + 1)
  have hk := getElem_len hx
  have hc := (scr_ok hmost hf k (by omega)).cnt
  rw [hl, scr_step hx]
  simp [hc]
theorem lbuild_c {p m : Nat} {sv : Value} {lvs : Value} {ms : List Mk} {P : PoolT} (most : Nat) (hmost : most ≤ 1048576) (hlen : ms.length < most) (hf : ∀ m ∈ ms, m.Fits) (w : World) (hs : (stoA p sv m ⟨most, []⟩).ho w) (h : (poolA P).ho w) (hap : ∀ b ∈ (poolA P).fp, b ∉ (stoA p sv m ⟨most, []⟩).fp) (hrow : RowIn P mkL 5 lvs ms) :
    Calls Try.prog 26 #[.pointer (some ⟨p, 0, none⟩), lvs] w (LBPost p m (stoA p sv m ⟨most, []⟩).fp (scr most ms ms.length).1 (scr most ms ms.length).2 w) := by
  have H := St.one hs
  have HK : Ks w (stoA p sv m ⟨most, []⟩).fp [poolA P] := ⟨by simpa using h, by simpa using hap⟩
  generalize (stoA p sv m ⟨most, []⟩).fp = M at *
  obtain ⟨ad, c, rfl, hm⟩ := hrow.shape
  unfold maxLen at hm
  have HS : Hid (∀ k, k ≤ ms.length → Scr most k (scr most ms k).1 (scr most ms k).2) := Lib.hid fun k hk => scr_ok hmost hf k hk
  have HW : Hid (∀ (k : Nat) x, ms[k]? = some x → (scr most ms ms.length).2[k + 1]? = some ((scr most ms k).1.make (scr most ms k).2 x).1.1) := Lib.hid fun k x hx => scr_want hmost hf hx
  have HF := Lib.hid hf
  have HC : Hid (∀ (k : Nat) x, ms[k]? = some x → ∃ g o, ad = some ⟨g, o, none⟩) := Lib.hid fun k x hx => by
    obtain ⟨g, o, c', he, _⟩ := hrow.has (by have := getElem_len hx; omega)
    injection he with e1 e2 e3
    exact ⟨g, o, e1⟩
  have HR := Lib.hid hrow
  have HB : Hid (∀ w, (poolA P).ho w → Calls Try.prog 31 #[.slice ad ms.length c] w fun e w' => ∃ vr vl rv, e = .returned (.tuple #[.agg #[vr, vl], rv]) ∧ St w [] [refA vr vl (scr most ms ms.length).1.list, rowsA encI 32 1 rv (scr most ms ms.length).2] w') := Lib.hid fun w h => rbuild_c most hmost hlen hf w h hrow
  clear h hf hrow hs hap
  go_enter Try.func26, Try.ntmps26
  go_wp2_with (first | refine sL ?_ | (refine sS ?_; clear H; intro _ H) | (refine sA ?_; clear H; intro _ _ H) | (go_at_call 31; go_loud (with_reducible refine Calls.mono (HB.out _ (H.known HK pk)) ?_; rintro e wc ⟨vr, vl, rv, rfl, hb⟩; replace H := H.call0 hb; clear hb; simp only [List.cons_append, List.nil_append] at H; obtain ⟨qa, qb, qc, qd, rfl, rfl⟩ := refA_shape (H.get Pick.here); obtain ⟨qe, qf, rfl, _⟩ := rowsA_shape (H.get (Pick.there Pick.here)))) | ((with_reducible refine isSlice ?_); refine AtSlice.one H rfl rfl rfl rfl rfl rfl rfl rfl rfl ?_; clear H; intro b _ H; simp only [Act.put, puA, puB, puC]))
  have hids : [0] = (scr most ms 0).2 := rfl
  have hsto : (⟨most, []⟩ : Sto) = (scr most ms 0).1 := rfl
  replace H := H.conv (A' := rowsA encI 32 1 (.slice (some ⟨b, 0, none⟩) 1 1) [0]) (by rw [rowsA_fp', blk_fp]; rfl) fun hb => rowsA_of_blk (xs := [0]) (by rw [blk_ho] at hb; exact hb) (by simp [maxLen]) (by simp [flatG, encI]) encI_len
  replace H := (H.drop (.there .here)).drop (.there .here)
  rw [hids, hsto] at H
  clear hids hsto
  have hwc := (HS.out ms.length (Nat.le_refl _)).cnt
  obtain ⟨g2, qf', hqe, _, hl2⟩ := rowsA_cases (H.get (A := rowsA encI 32 1 (.slice qe (scr most ms ms.length).2.length qf) (scr most ms ms.length).2) pk) (by omega)
  injection hqe with e1 e2 e3
  subst e1 e3
  unfold maxLen at hl2
  generalize hwn : (scr most ms ms.length).2 = want at *
  have HWC := Lib.hid hwc
  clear hwc
  go_loopw [8, 22] (fun v8 v22 wr => ∃ k : Nat, ∃ lv : Value, v22 = .int .i64 k ∧ k ≤ ms.length ∧ St w M [rowsA encI 32 1 v8 (scr most ms k).2, rowsA encI 32 1 (.slice (some ⟨g2, 0, none⟩) want.length qf) want, stoA p lv m (scr most ms k).1] wr) (fun _ v22 _ => ms.length - (intOf v22).toNat)
  case atStart => exact ⟨0, _, rfl, Nat.zero_le _, H⟩
  case round =>
    clear H
    obtain ⟨k, lv, rfl, hk, H⟩ := hrel
    have hcnt0 := (HS.out k hk).cnt
    obtain ⟨g1, c1, rfl, _, hl1⟩ := rowsA_cases (H.get Pick.here) (by omega)
    unfold maxLen at hl1
    by_cases hlt : k < ms.length
    · obtain ⟨x, hx⟩ : ∃ x, ms[k]? = some x := ⟨ms[k], by simp⟩
      obtain ⟨g, og, rfl⟩ := HC.out k x hx
      have HX0 := Lib.hid hx
      have hs := HS.out k hk
      have hcnt := hs.cnt
      have hFx := HF.out x (List.mem_of_getElem? hx)
      obtain ⟨l, hl⟩ : ∃ l, (scr most ms k).2[pickN x.left (scr most ms k).2.length]? = some l := ⟨_, List.getElem?_eq_getElem (pickN_lt (by omega))⟩
      obtain ⟨r, hr⟩ : ∃ r, (scr most ms k).2[pickN x.right (scr most ms k).2.length]? = some r := ⟨_, List.getElem?_eq_getElem (pickN_lt (by omega))⟩
      have HL := Lib.hid hl
      have HRr := Lib.hid hr
      have hpl := getElem_len hl
      have hpr := getElem_len hr
      have HP1 : Hid (∀ w, Calls Try.prog 29 #[.int .i64 x.left, .int .i64 (scr most ms k).2.length] w fun e w' => e = .returned (.int .i64 (pickN x.left (scr most ms k).2.length)) ∧ w' = w) := Lib.hid fun w => pickf_c _ _ _ rfl hFx.left (by omega) (by omega) w
      have HP2 : Hid (∀ w, Calls Try.prog 29 #[.int .i64 x.right, .int .i64 (scr most ms k).2.length] w fun e w' => e = .returned (.int .i64 (pickN x.right (scr most ms k).2.length)) ∧ w' = w) := Lib.hid fun w => pickf_c _ _ _ rfl hFx.right (by omega) (by omega) w
      have HCN := Lib.hid hcnt
      have hcl : (scr most ms k).2.length ≤ 1048577 := by omega
      clear hcnt hcnt0
      generalize hpla : pickN x.left (scr most ms k).2.length = pl at *
      generalize hpra : pickN x.right (scr most ms k).2.length = pr at *
      clear hx hl hr
      go_wp2_with (first | refine sL ?_ | (refine sS ?_; clear H; intro _ H) | (refine sA ?_; clear H; intro _ _ H) | ((with_reducible refine isLoad ?_); refine AtLoad.rngT (vs := mkL x) rfl rfl rfl (HR.out.rng (H.known HK pk) mkL_len HX0.out) rfl ?_; simp only [Act.put, puA, puB, puC]))
      refine wp_region_h H 18 [] [] (by kernel_rfl) (by kernel_rfl) ?_
      apply Exists.intro
      refine ⟨fun w1 hw1 HX => ?_, fun bs wr Hr => ?_⟩
      · refine sG ?_
        repeat (first | refine sQ ?_ | ((with_reducible refine isQLoad ?_); refine QtLoad.cel rfl rfl rfl rfl (fun y => rowsA_cell1 ((HX y).get (A := rowsA encI 32 1 (.slice (some ⟨g1, 0, none⟩) (scr most ms k).2.length c1) (scr most ms k).2) pk) encI_len HL.out rfl) ?_; simp only [Act.put, puA, puB, puC]) | ((with_reducible refine isQLoad ?_); refine QtLoad.cel rfl rfl rfl rfl (fun y => rowsA_cell1 ((HX y).get (A := rowsA encI 32 1 (.slice (some ⟨g1, 0, none⟩) (scr most ms k).2.length c1) (scr most ms k).2) pk) encI_len HRr.out rfl) ?_; simp only [Act.put, puA, puB, puC]) | go_big_quiet_step ((go_at_call 29; with_reducible exact quiet_same_x (HP1.out _))) | go_big_quiet_step ((go_at_call 29; with_reducible exact quiet_same_x (HP2.out _))) | go_big_quiet_step (fail))
        exact wpQuiet_nil rfl
      clear H
      have H := Hr
      clear Hr
      replace H := sH H; refine sT ?_
      have hwk : k + 1 < want.length := by rw [HWC.out]; omega
      have HWk := Lib.hid (HW.out k x HX0.out)
      have hidl := (StoStep.make (scr most ms k).1 (scr most ms k).2 x hs.mem)
      have hin1 : l ≤ (scr most ms k).1.list.length := hs.mem _ (List.mem_of_getElem? HL.out)
      have hin2 : r ≤ (scr most ms k).1.list.length := hs.mem _ (List.mem_of_getElem? HRr.out)
      have hge1 : (scr most ms k).2.getD (pickN x.left (scr most ms k).2.length) 0 = l := by rw [hpla, List.getD_eq_getElem?_getD, HL.out]; rfl
      have hge2 : (scr most ms k).2.getD (pickN x.right (scr most ms k).2.length) 0 = r := by rw [hpra, List.getD_eq_getElem?_getD, HRr.out]; rfl
      have hk4 := pickN_lt (n := x.kind) (m := 4) (by omega)
      have hokk := hs.ok
      have hlet := hFx.letter
      have htim := hFx.times
      unfold fits64 at htim
      by_cases k0 : pickN x.kind 4 = 0
      · have HPk : Hid (∀ w, Calls Try.prog 29 #[.int .i64 x.kind, .int .i64 4] w fun e w' => e = .returned (.int .i64 0) ∧ w' = w) := Lib.hid fun w => pick4_c _ 0 (by rw [k0]; rfl) hFx.kind w
        have HO : Hid (∀ w, (stoA p lv m (scr most ms k).1).ho w → Calls Try.prog 55 #[.pointer (some ⟨p, 0, none⟩), .int .u8 x.letter] w (fun e w' => ∃ lv', e = .returned (.tuple #[.int .i64 ((scr most ms k).1.make (scr most ms k).2 x).1.1, errV ((scr most ms k).1.make (scr most ms k).2 x).1.2]) ∧ St w (stoA p lv m (scr most ms k).1).fp [stoA p lv' m ((scr most ms k).1.make (scr most ms k).2 x).2] w')) := Lib.hid fun w h => by
          have e : (scr most ms k).1.make (scr most ms k).2 x = (scr most ms k).1.letter x.letter := by unfold Sto.make; rw [if_pos k0]
          rw [e]
          exact letter_c hokk x.letter hlet w h
        generalize hmk : (scr most ms k).1.make (scr most ms k).2 x = rr at *
        obtain ⟨⟨rid, rerr⟩, rsto⟩ := rr
        have HMK := Lib.hid hmk
        clear hs hidl hge1 hge2 hokk hmk k0
        go_wp2_with (first | refine sL ?_ | (refine sS ?_; clear H; intro _ H) | (refine sA ?_; clear H; intro _ _ H) | (go_at_call 29; with_reducible refine same (HPk.out _) ?_) | (go_at_call 55; with_reducible refine Calls.mono (HO.out _ (H.get (A := stoA p lv m (scr most ms k).1) pk)) ?_; rintro e wc ⟨lv2, rfl, hb⟩; replace H := (H.pick (A := stoA p lv m (scr most ms k).1) pk).call hb; clear hb; simp only [List.cons_append, List.nil_append] at H) | ((with_reducible refine isLoad ?_); refine AtLoad.cel rfl rfl rfl rfl (rowsA_cell1 (H.get (A := rowsA encI 32 1 (.slice (some ⟨g2, 0, none⟩) want.length qf) want) pk) encI_len HWk.out rfl) ?_; simp only [Act.put, puA, puB, puC]) | ((with_reducible refine isSlice ?_); refine AtSlice.one H rfl rfl rfl rfl rfl rfl rfl rfl rfl ?_; clear H; intro b _ H; simp only [Act.put, puA, puB, puC]) | ((with_reducible refine isAppend ?_); refine AtAppend.go (enc := encI) H rfl rfl rfl rfl rfl (by decide) (by decide) rfl pk rfl (H.at pk) [rid] rfl (by simp [flatG, encI]) encI_len encI_one (by simp; omega) ?_; clear H; intro ad cp _ H; simp only [Act.put, puA, puB, puC]))
        have H2 := St.only3 H (A := rowsA encI 32 1 (.slice ad ((scr most ms k).2.length + 1) cp) ((scr most ms k).2 ++ [rid])) (B := rowsA encI 32 1 (.slice (some ⟨g2, 0, none⟩) want.length qf) want) (C := stoA p lv2 m rsto) pk pk pk
        have e1 : (scr most ms (k + 1)).2 = (scr most ms k).2 ++ [rid] := by rw [scr_step HX0.out, HMK.out]
        have e3 : (scr most ms (k + 1)).1 = rsto := by rw [scr_step HX0.out, HMK.out]
        refine ⟨⟨k + 1, lv2, by go_num, by omega, ?_⟩, by simp [intOf]; omega⟩
        rw [e1, e3]
        exact H2
      · by_cases k3 : pickN x.kind 4 = 3
        · have HPk : Hid (∀ w, Calls Try.prog 29 #[.int .i64 x.kind, .int .i64 4] w fun e w' => e = .returned (.int .i64 3) ∧ w' = w) := Lib.hid fun w => pick4_c _ 3 (by rw [k3]; rfl) hFx.kind w
          have HO : Hid (∀ w, (stoA p lv m (scr most ms k).1).ho w → Calls Try.prog 56 #[.pointer (some ⟨p, 0, none⟩), .int .i64 (l : Int), .int .i64 (max x.times 0)] w (fun e w' => ∃ lv', e = .returned (.tuple #[.int .i64 ((scr most ms k).1.make (scr most ms k).2 x).1.1, errV ((scr most ms k).1.make (scr most ms k).2 x).1.2]) ∧ St w (stoA p lv m (scr most ms k).1).fp [stoA p lv' m ((scr most ms k).1.make (scr most ms k).2 x).2] w')) := Lib.hid fun w h => by
            have e : (scr most ms k).1.make (scr most ms k).2 x = (scr most ms k).1.power l x.times.toNat := by unfold Sto.make; rw [if_neg k0, if_pos k3, hge1]
            rw [e]
            have h9 := power_c hokk l x.times.toNat hin1 (by omega) w h
            rw [show ((x.times.toNat : Nat) : Int) = max x.times 0 by omega] at h9
            exact h9
          generalize hmk : (scr most ms k).1.make (scr most ms k).2 x = rr at *
          obtain ⟨⟨rid, rerr⟩, rsto⟩ := rr
          have HMK := Lib.hid hmk
          clear hs hidl hge1 hge2 hokk hmk k0 k3
          go_wp2_with (first | refine sL ?_ | (refine sS ?_; clear H; intro _ H) | (refine sA ?_; clear H; intro _ _ H) | (go_at_call 29; with_reducible refine same (HPk.out _) ?_) | (go_at_call 56; with_reducible refine Calls.mono (HO.out _ (H.get (A := stoA p lv m (scr most ms k).1) pk)) ?_; rintro e wc ⟨lv2, rfl, hb⟩; replace H := (H.pick (A := stoA p lv m (scr most ms k).1) pk).call hb; clear hb; simp only [List.cons_append, List.nil_append] at H) | ((with_reducible refine isLoad ?_); refine AtLoad.cel rfl rfl rfl rfl (rowsA_cell1 (H.get (A := rowsA encI 32 1 (.slice (some ⟨g2, 0, none⟩) want.length qf) want) pk) encI_len HWk.out rfl) ?_; simp only [Act.put, puA, puB, puC]) | ((with_reducible refine isSlice ?_); refine AtSlice.one H rfl rfl rfl rfl rfl rfl rfl rfl rfl ?_; clear H; intro b _ H; simp only [Act.put, puA, puB, puC]) | ((with_reducible refine isAppend ?_); refine AtAppend.go (enc := encI) H rfl rfl rfl rfl rfl (by decide) (by decide) rfl pk rfl (H.at pk) [rid] rfl (by simp [flatG, encI]) encI_len encI_one (by simp; omega) ?_; clear H; intro ad cp _ H; simp only [Act.put, puA, puB, puC]))
          have H2 := St.only3 H (A := rowsA encI 32 1 (.slice ad ((scr most ms k).2.length + 1) cp) ((scr most ms k).2 ++ [rid])) (B := rowsA encI 32 1 (.slice (some ⟨g2, 0, none⟩) want.length qf) want) (C := stoA p lv2 m rsto) pk pk pk
          have e1 : (scr most ms (k + 1)).2 = (scr most ms k).2 ++ [rid] := by rw [scr_step HX0.out, HMK.out]
          have e3 : (scr most ms (k + 1)).1 = rsto := by rw [scr_step HX0.out, HMK.out]
          refine ⟨⟨k + 1, lv2, by go_num, by omega, ?_⟩, by simp [intOf]; omega⟩
          rw [e1, e3]
          exact H2
        · obtain ⟨kk, hkk, hk0, hk3⟩ : ∃ kk : Int, (pickN x.kind 4 : Nat) = kk ∧ kk ≠ 0 ∧ kk ≠ 3 := ⟨_, rfl, by omega, by omega⟩
          have HPk : Hid (∀ w, Calls Try.prog 29 #[.int .i64 x.kind, .int .i64 4] w fun e w' => e = .returned (.int .i64 kk) ∧ w' = w) := Lib.hid fun w => pick4_c _ kk (by rw [hkk]) hFx.kind w
          have HO : Hid (∀ w, (stoA p lv m (scr most ms k).1).ho w → Calls Try.prog 57 #[.pointer (some ⟨p, 0, none⟩), .int .i64 (l : Int), .int .i64 (r : Int)] w (fun e w' => ∃ lv', e = .returned (.tuple #[.int .i64 ((scr most ms k).1.make (scr most ms k).2 x).1.1, errV ((scr most ms k).1.make (scr most ms k).2 x).1.2]) ∧ St w (stoA p lv m (scr most ms k).1).fp [stoA p lv' m ((scr most ms k).1.make (scr most ms k).2 x).2] w')) := Lib.hid fun w h => by
            have e : (scr most ms k).1.make (scr most ms k).2 x = (scr most ms k).1.pair l r := by unfold Sto.make; rw [if_neg k0, if_neg k3, hge1, hge2]
            rw [e]
            exact pair_c hokk l r hin1 hin2 w h
          generalize hmk : (scr most ms k).1.make (scr most ms k).2 x = rr at *
          obtain ⟨⟨rid, rerr⟩, rsto⟩ := rr
          have HMK := Lib.hid hmk
          clear hkk hs hidl hge1 hge2 hokk hmk k0 k3
          go_wp2_with (first | refine sL ?_ | (refine sS ?_; clear H; intro _ H) | (refine sA ?_; clear H; intro _ _ H) | (go_at_call 29; with_reducible refine same (HPk.out _) ?_) | (go_at_call 57; with_reducible refine Calls.mono (HO.out _ (H.get (A := stoA p lv m (scr most ms k).1) pk)) ?_; rintro e wc ⟨lv2, rfl, hb⟩; replace H := (H.pick (A := stoA p lv m (scr most ms k).1) pk).call hb; clear hb; simp only [List.cons_append, List.nil_append] at H) | ((with_reducible refine isLoad ?_); refine AtLoad.cel rfl rfl rfl rfl (rowsA_cell1 (H.get (A := rowsA encI 32 1 (.slice (some ⟨g2, 0, none⟩) want.length qf) want) pk) encI_len HWk.out rfl) ?_; simp only [Act.put, puA, puB, puC]) | ((with_reducible refine isSlice ?_); refine AtSlice.one H rfl rfl rfl rfl rfl rfl rfl rfl rfl ?_; clear H; intro b _ H; simp only [Act.put, puA, puB, puC]) | ((with_reducible refine isAppend ?_); refine AtAppend.go (enc := encI) H rfl rfl rfl rfl rfl (by decide) (by decide) rfl pk rfl (H.at pk) [rid] rfl (by simp [flatG, encI]) encI_len encI_one (by simp; omega) ?_; clear H; intro ad cp _ H; simp only [Act.put, puA, puB, puC]))
          have H2 := St.only3 H (A := rowsA encI 32 1 (.slice ad ((scr most ms k).2.length + 1) cp) ((scr most ms k).2 ++ [rid])) (B := rowsA encI 32 1 (.slice (some ⟨g2, 0, none⟩) want.length qf) want) (C := stoA p lv2 m rsto) pk pk pk
          have e1 : (scr most ms (k + 1)).2 = (scr most ms k).2 ++ [rid] := by rw [scr_step HX0.out, HMK.out]
          have e3 : (scr most ms (k + 1)).1 = rsto := by rw [scr_step HX0.out, HMK.out]
          refine ⟨⟨k + 1, lv2, by go_num, by omega, ?_⟩, by simp [intOf]; omega⟩
          rw [e1, e3]
          exact H2
    · have hke : k = ms.length := by omega
      have H2 : St w M [stoA p lv m (scr most ms k).1, rowsA encI 32 1 (.slice (some ⟨g1, 0, none⟩) (scr most ms k).2.length c1) (scr most ms k).2] wr := (H.pick2 (A := stoA p lv m (scr most ms k).1) (B := rowsA encI 32 1 (.slice (some ⟨g1, 0, none⟩) (scr most ms k).2.length c1) (scr most ms k).2) pk pk).onlyTwo
      go_wp2_with (first | refine sL ?_ | (refine sS ?_; clear H; intro _ H) | (refine sA ?_; clear H; intro _ _ H))
      subst hke
      rw [hwn] at H2
      go_ret2
      exact ⟨_, _, rfl, H2⟩
end Go.Proofs.Ytijnhpaafhcndaa
end
section
namespace Go.Proofs.Ytijnhpaafhcndaa
set_option linter.unusedSimpArgs false
set_option linter.unusedVariables false
structure Mc where
  start : Nat
  cls : List Nat
  next : List (List Nat)
  acc : List Bool
  wts : List Nat
def Mc.n (m : Mc) : Nat := m.next.length
def Mc.step (m : Mc) (q b : Nat) : Nat := (m.next.getD q []).getD (m.cls.getD b 0) 0
def Mc.wt (m : Mc) (q : Nat) : Nat := m.wts.getD q 0
structure Mc.Ok (m : Mc) (c : Nat) : Prop where
  n1 : 1 ≤ m.n
  n256 : m.n ≤ 256
  start : m.start < m.n
  cls : m.cls.length = 256
  c1 : 1 ≤ c
  c256 : c ≤ 256
  clsLt : ∀ (i x : Nat), m.cls[i]? = some x → x < c
  row : ∀ (i : Nat) (r : List Nat), m.next[i]? = some r → r.length = c
  rowLt : ∀ (i j x : Nat) (r : List Nat), m.next[i]? = some r → r[j]? = some x → x < m.n
  acc : m.acc.length = m.n
  wts : m.wts.length = m.n
  wtLe : ∀ (i x : Nat), m.wts[i]? = some x → x ≤ 1048576
namespace Mc
variable {m : Mc} {c : Nat}
theorem Ok.cls_get (h : m.Ok c) {b : Nat} (hb : b < 256) : ∃ x, m.cls[b]? = some x ∧ x < c := by
  have hl : b < m.cls.length := by rw [h.cls]; exact hb
  exact ⟨m.cls[b], by simp, h.clsLt b _ (by simp)⟩
theorem Ok.row_get (h : m.Ok c) {q : Nat} (hq : q < m.n) : ∃ r, m.next[q]? = some r ∧ r.length = c := by
  have hl : q < m.next.length := hq
  exact ⟨m.next[q], by simp, h.row q _ (by simp)⟩
theorem Ok.step_get (h : m.Ok c) {q b : Nat} (hq : q < m.n) (hb : b < 256) : ∃ r x, m.next[q]? = some r ∧ m.cls[b]? = some x ∧ r[x]? = some (m.step q b) ∧ m.step q b < m.n ∧ x < c ∧ r.length = c := by
  obtain ⟨r, hr, hrl⟩ := h.row_get hq
  obtain ⟨x, hx, hxc⟩ := h.cls_get hb
  have hl : x < r.length := by omega
  have e : m.step q b = r[x] := by
    unfold step
    rw [List.getD_eq_getElem?_getD, List.getD_eq_getElem?_getD, List.getD_eq_getElem?_getD, hr, hx]
    simp [hl]
  exact ⟨r, x, hr, hx, by rw [e]; simp, by rw [e]; exact h.rowLt q x _ r hr (by simp), hxc, hrl⟩
theorem Ok.step_lt (h : m.Ok c) {q b : Nat} (hq : q < m.n) (hb : b < 256) : m.step q b < m.n := by
  obtain ⟨_, _, _, _, _, h5, _⟩ := h.step_get hq hb
  exact h5
theorem Ok.wt_get (h : m.Ok c) {q : Nat} (hq : q < m.n) : m.wts[q]? = some (m.wt q) ∧ m.wt q ≤ 1048576 := by
  have hl : q < m.wts.length := by rw [h.wts]; exact hq
  have e : m.wt q = m.wts[q] := by unfold wt; rw [List.getD_eq_getElem?_getD]; simp [hl]
  have e2 : m.wts[q]? = some (m.wt q) := by rw [e]; simp
  exact ⟨e2, h.wtLe q _ e2⟩
def ends (m : Mc) (q : Nat) (l : List Nat) : Nat := l.foldl m.step q
def sum (m : Mc) : Nat → List Nat → Nat
  | _, [] => 0
  | q, b :: l => m.wt (m.step q b) + sum m (m.step q b) l
theorem ends_nil (q : Nat) : m.ends q [] = q := rfl
theorem ends_cons (q b : Nat) (l : List Nat) : m.ends q (b :: l) = m.ends (m.step q b) l := rfl
theorem ends_append (q : Nat) (a b : List Nat) : m.ends q (a ++ b) = m.ends (m.ends q a) b := by simp [ends]
theorem sum_nil (q : Nat) : m.sum q [] = 0 := rfl
theorem sum_append (q : Nat) (a b : List Nat) : m.sum q (a ++ b) = m.sum q a + m.sum (m.ends q a) b := by
  induction a generalizing q with
  | nil => simp [sum, ends]
  | cons x a ih => simp only [List.cons_append, sum, ih, ends_cons]; omega
theorem Ok.ends_lt (h : m.Ok c) : ∀ {q : Nat} {l : List Nat}, q < m.n → (∀ b ∈ l, b < 256) → m.ends q l < m.n := by
  intro q l
  induction l generalizing q with
  | nil => intro hq _; exact hq
  | cons b l ih => intro hq hl; rw [ends_cons]; exact ih (h.step_lt hq (hl b (by simp))) fun x hx => hl x (by simp [hx])
end Mc
def rep (k : Nat) (l : List Nat) : List Nat := (List.replicate k l).flatten
theorem rep_zero (l : List Nat) : rep 0 l = [] := rfl
theorem rep_one (l : List Nat) : rep 1 l = l := by simp [rep]
theorem rep_add (j k : Nat) (l : List Nat) : rep (j + k) l = rep j l ++ rep k l := by simp [rep, ← List.replicate_append_replicate]
theorem rep_succ (k : Nat) (l : List Nat) : rep (k + 1) l = l ++ rep k l := by rw [Nat.add_comm, rep_add, rep_one]
theorem rep_len (k : Nat) (l : List Nat) : (rep k l).length = k * l.length := by
  induction k with
  | zero => simp [rep_zero]
  | succ k ih => rw [rep_succ, List.length_append, ih, Nat.succ_mul, Nat.add_comm]
theorem rep_mem {k : Nat} {l : List Nat} {b : Nat} (h : b ∈ rep k l) : b ∈ l := by
  unfold rep at h
  obtain ⟨a, ha, hb⟩ := List.mem_flatten.1 h
  rw [List.eq_of_mem_replicate ha] at hb
  exact hb
theorem rep_drop (j k : Nat) (l : List Nat) : (rep (j + k) l).drop (j * l.length) = rep k l := by
  rw [rep_add, ← rep_len j l]
  simp
theorem rep_drop_le {j k : Nat} (h : j ≤ k) (l : List Nat) : (rep k l).drop (j * l.length) = rep (k - j) l := by
  have := rep_drop j (k - j) l
  rwa [show j + (k - j) = k by omega] at this
theorem rep_take {j k : Nat} (h : j ≤ k) (l : List Nat) : (rep k l).take (j * l.length) = rep j l := by
  have e : rep k l = rep j l ++ rep (k - j) l := by rw [← rep_add]; congr 1; omega
  rw [e, ← rep_len j l]
  simp
attribute [irreducible] rep
def beyond : Nat := 1152921504606846977
def capN (x : Nat) : Nat := min x beyond
theorem capN_add (a b : Nat) : capN (capN a + capN b) = capN (a + b) := by unfold capN beyond; omega
theorem capN_add' (a b : Nat) : capN (a + capN b) = capN (a + b) := by unfold capN beyond; omega
theorem capN_le (a : Nat) : capN a ≤ beyond := by unfold capN; omega
theorem capN_idem (a : Nat) : capN (capN a) = capN a := by unfold capN; omega
theorem capN_small {a : Nat} (h : a ≤ beyond) : capN a = a := by unfold capN; omega
def effE (m : Mc) (l : List Nat) : List Nat := (List.range m.n).map fun q => m.ends q l
def effH (m : Mc) (l : List Nat) : List Nat := (List.range m.n).map fun q => capN (m.sum q l)
theorem effE_len (m : Mc) (l : List Nat) : (effE m l).length = m.n := by simp [effE]
theorem effH_len (m : Mc) (l : List Nat) : (effH m l).length = m.n := by simp [effH]
theorem effE_get {m : Mc} {q : Nat} (h : q < m.n) (l : List Nat) : (effE m l)[q]? = some (m.ends q l) := by simp [effE, h]
theorem effH_get {m : Mc} {q : Nat} (h : q < m.n) (l : List Nat) : (effH m l)[q]? = some (capN (m.sum q l)) := by simp [effH, h]
theorem effH_le (m : Mc) (l : List Nat) (x : Nat) (h : x ∈ effH m l) : x ≤ beyond := by
  unfold effH at h
  obtain ⟨q, _, rfl⟩ := List.mem_map.1 h
  exact capN_le _
def txtE (T : List (List Nat)) (x : En) : List Nat :=
  if x.r.kind = 1 then [x.r.letter] else if x.r.kind = 2 then T.getD (x.r.left - 1) [] ++ T.getD (x.r.right - 1) [] else rep x.r.times (T.getD (x.r.left - 1) [])
def txts (L : List En) : List (List Nat) := L.foldl (fun T x => T ++ [txtE T x]) []
theorem txts_snoc (L : List En) (x : En) : txts (L ++ [x]) = txts L ++ [txtE (txts L) x] := by simp [txts]
theorem snoc_ind {α : Type} {p : List α → Prop} (h0 : p []) (h1 : ∀ l x, p l → p (l ++ [x])) (l : List α) : p l := by
  have key : ∀ n (l : List α), l.length = n → p l := by
    intro n
    induction n with
    | zero => intro l hl; rw [List.eq_nil_of_length_eq_zero hl]; exact h0
    | succ n ih =>
      intro l hl
      have hne : l ≠ [] := by intro h; rw [h] at hl; simp at hl
      rw [← List.dropLast_concat_getLast hne]
      exact h1 _ _ (ih _ (by simp [hl]))
  exact key l.length l rfl
theorem txts_len (L : List En) : (txts L).length = L.length := by
  induction L using snoc_ind with
  | h0 => rfl
  | h1 l x ih => rw [txts_snoc]; simp [ih]
theorem txts_pre (L : List En) (k : Nat) (hk : k ≤ L.length) : ∃ T, txts L = txts (L.take k) ++ T := by
  induction L using snoc_ind with
  | h0 => exact ⟨[], by simp⟩
  | h1 l x ih =>
    by_cases h : k ≤ l.length
    · obtain ⟨T, hT⟩ := ih h
      refine ⟨T ++ [txtE (txts l) x], ?_⟩
      rw [txts_snoc, List.take_append_of_le_length h]
      conv => lhs; rw [hT]
      rw [List.append_assoc, ← hT]
    · have : k = l.length + 1 := by simp at hk; omega
      subst this
      exact ⟨[], by rw [List.take_of_length_le (by simp)]; simp⟩
theorem txts_get (L : List En) (i : Nat) (x : En) (h : L[i]? = some x) : (txts L)[i]? = some (txtE (txts (L.take i)) x) := by
  have hi := getElem_len h
  obtain ⟨T, hT⟩ := txts_pre L (i + 1) (by omega)
  have e : L.take (i + 1) = L.take i ++ [x] := by rw [List.take_add_one, h]; rfl
  have hl : (txts (L.take i)).length = i := by rw [txts_len, List.length_take, Nat.min_eq_left (Nat.le_of_lt hi)]
  rw [hT, e, txts_snoc, List.getElem?_append_left (by simp [hl]), List.getElem?_append_right (by simp [hl])]
  simp [hl]
theorem txts_low (L : List En) (i l : Nat) (hl : l < i) (hi : i ≤ L.length) : (txts (L.take i)).getD l [] = (txts L).getD l [] := by
  obtain ⟨T, hT⟩ := txts_pre L i hi
  rw [List.getD_eq_getElem?_getD, List.getD_eq_getElem?_getD, hT, List.getElem?_append_left (by simp [txts_len]; omega)]
def Sto.txt (S : Sto) : Nat → List Nat
  | 0 => []
  | i + 1 => (txts S.list).getD i []
theorem Sto.txt_zero (S : Sto) : S.txt 0 = [] := rfl
theorem Sto.txt_get {S : Sto} {i : Nat} {x : En} (h : S.list[i]? = some x) : S.txt (i + 1) = txtE (txts (S.list.take i)) x := by
  show (txts S.list).getD i [] = _
  rw [List.getD_eq_getElem?_getD, txts_get S.list i x h]; rfl
theorem Sto.txt_low {S : Sto} {i l : Nat} (hl : l < i) (hi : i ≤ S.list.length) : (txts (S.list.take i)).getD l [] = S.txt (l + 1) := txts_low S.list i l hl hi
theorem Sto.txt_letter {S : Sto} {i b : Nat} (h : S.list[i]? = some (letterE b)) : S.txt (i + 1) = [b] := by
  rw [S.txt_get h]; simp [txtE, letterE]
theorem Sto.txt_pair {S : Sto} {i l r : Nat} {x y : En} (hl : l < i) (hr : r < i) (h : S.list[i]? = some (pairE x y (l + 1) (r + 1))) : S.txt (i + 1) = S.txt (l + 1) ++ S.txt (r + 1) := by
  have hi := getElem_len h
  rw [S.txt_get h]
  simp only [txtE, pairE, Nat.add_sub_cancel]
  rw [if_neg (by decide), if_pos trivial, S.txt_low hl (by omega), S.txt_low hr (by omega)]
theorem Sto.txt_power {S : Sto} {i l k : Nat} {x : En} (hl : l < i) (h : S.list[i]? = some (powerE x (l + 1) k)) : S.txt (i + 1) = rep k (S.txt (l + 1)) := by
  have hi := getElem_len h
  rw [S.txt_get h]
  simp only [txtE, powerE, Nat.add_sub_cancel]
  rw [if_neg (by decide), if_neg (by decide), S.txt_low hl (by omega)]
theorem Sto.txt_ok {S : Sto} (h : S.Ok) : ∀ (i : Nat) (x : En), S.list[i]? = some x → (S.txt (i + 1)).length = x.w.len ∧ ∀ b ∈ S.txt (i + 1), b < 256 := by
  intro i
  induction i using Nat.strongRecOn with
  | _ i ih =>
    intro x hx
    cases h.ents i x hx with
    | letter b hb => rw [S.txt_letter hx]; exact ⟨by simp [letterE, letter_len], by simpa using hb⟩
    | pair l r y z hl hr hy hz hs =>
      obtain ⟨h1, h2⟩ := ih l hl y hy
      obtain ⟨h3, h4⟩ := ih r hr z hz
      rw [S.txt_pair hl hr hx]
      refine ⟨by rw [List.length_append, h1, h3]; simp [pairE, Wt.join], fun b hb => ?_⟩
      rcases List.mem_append.1 hb with hb | hb
      · exact h2 b hb
      · exact h4 b hb
    | power l k y hl hy hk hs =>
      obtain ⟨h1, h2⟩ := ih l hl y hy
      rw [S.txt_power hl hx]
      exact ⟨by rw [rep_len, h1]; simp [powerE, Wt.rep, Nat.mul_comm], fun b hb => h2 b (rep_mem hb)⟩
theorem Sto.txt_len {S : Sto} (h : S.Ok) {i : Nat} {x : En} (hx : enAt S i = some x) : (S.txt i).length = x.w.len := by
  cases i with
  | zero => simp only [enAt, Option.some.injEq] at hx; subst hx; rfl
  | succ i => exact (S.txt_ok h i x hx).1
theorem Sto.txt_lt {S : Sto} (h : S.Ok) {i : Nat} (hi : i ≤ S.list.length) : ∀ b ∈ S.txt i, b < 256 := by
  cases i with
  | zero => simp [S.txt_zero]
  | succ i => exact (S.txt_ok h i S.list[i] (by simp)).2
end Go.Proofs.Ytijnhpaafhcndaa
end
