/-
  LocateNth: the given statement. For every input the law returns true and leaves its arguments. No condition beyond the statement's own.
-/
import Derived.Test.YtijnhpaafhcndaaGreatBa5
import Derived.ChangeOld
import Derived.Deep.Slices
import Derived.LaidEql
import Derived.Lib.IfaceEq
import Derived.Lib.SmallJoins
import Derived.OpenShut
import Derived.ProofKit
import Derived.RowKitTokens
import Derived.ShutString
import Derived.Test.YtijnhpaafhcndaaGreatRows
section
namespace Go.Proofs.YtijnhpaafhcndaaGreat
open Go.RowKit Go.Maps
attribute [local go_sem] InGr
set_option maxHeartbeats 4000000
set_option maxRecDepth 100000
set_option linter.unusedSimpArgs false
set_option linter.unusedVariables false
theorem xrefs_pair (L R : Nat) (w : World) : Calls Tryz.prog 84 #[.agg #[.int .i64 (2 : Nat), .int .u8 (0 : Nat), .int .i64 L, .int .i64 R, .int .i64 (0 : Nat)]] w (RefsPost [L, R] w) := by
  have H := St.nil w []
  go_enter Tryz.func84, Tryz.ntmps84
  go_wp2_with (first | refine sL ?_ | (refine sB ?_; clear H; intro _ _ H) | ((with_reducible refine isSlice ?_); refine AtSlice.two encI H rfl rfl rfl rfl rfl rfl rfl rfl L R rfl rfl encI_len ?_; clear H; intro b _ H; simp only [Act.put, puA, puB, puC]))
  go_ret
  refine ⟨_, rfl, ?_⟩
  refine (H.conv (A' := rowsA encI 32 1 (.slice (some ⟨_, 0, none⟩) 2 2) [L, R]) (by rw [rowsA_fp', blk_fp]; rfl) fun hb => ?_).onlyHead
  rw [blk_ho] at hb
  exact rowsA_of_blk (xs := [L, R]) hb (by simp [maxLen]) rfl encI_len
theorem xrefs_power (L k : Nat) (w : World) : Calls Tryz.prog 84 #[.agg #[.int .i64 (3 : Nat), .int .u8 (0 : Nat), .int .i64 L, .int .i64 (0 : Nat), .int .i64 k]] w (RefsPost [L] w) := by
  have H := St.nil w []
  go_enter Tryz.func84, Tryz.ntmps84
  go_wp2_with (first | refine sL ?_ | (refine sB ?_; clear H; intro _ _ H) | ((with_reducible refine isSlice ?_); refine AtSlice.one H rfl rfl rfl rfl rfl rfl rfl rfl rfl ?_; clear H; intro b _ H; simp only [Act.put, puA, puB, puC]))
  go_ret
  refine ⟨_, rfl, ?_⟩
  refine (H.conv (A' := rowsA encI 32 1 (.slice (some ⟨_, 0, none⟩) 1 1) [L]) (by rw [rowsA_fp', blk_fp]; rfl) fun hb => ?_).onlyHead
  rw [blk_ho] at hb
  exact rowsA_of_blk (xs := [L]) hb (by simp [maxLen]) rfl encI_len
theorem xrefs_letter (b : Nat) (w : World) : Calls Tryz.prog 84 #[.agg #[.int .i64 (1 : Nat), .int .u8 b, .int .i64 (0 : Nat), .int .i64 (0 : Nat), .int .i64 (0 : Nat)]] w (RefsPost [] w) := by
  have H := St.nil w []
  go_enter Tryz.func84, Tryz.ntmps84
  go_wp2_with (first | refine sL ?_ | (refine sB ?_; clear H; intro _ _ H))
  go_ret
  exact ⟨_, rfl, (H.empty (A := rowsA encI 32 1 (.slice none 0 0) []) (rowsA_nil _) (by rw [rowsA_fp']; rfl)).onlyHead⟩
section
variable {ops : Array Oper} {Q : Exit → Act → World → Prop} {rest : List Oper} {a : Act} {w w0 : World} {M : List Nat} {L : List As} {o1 : Oper}
theorem AtSlice.zero {α : Type} (enc : α → List Value) {t e : TypeId} (H : St w0 M L w) (hw : Region.wanted o1 (yielded ops a.tmps) = true) (ho : o1.op = .buildSlice t 0 #[]) (hte : sliceO t = some e) {z : Value} {k bytes : Nat} (hi : infoO e = some (z, k, bytes)) (hk : ∀ x, (enc x).length = k)
    (h : ∀ b w', St w0 M (rowsA enc e k (.slice (some ⟨b, 0, none⟩) 0 0) [] :: L) w' → wpList Tryz.prog ops Q rest (a.put o1.dst (.slice (some ⟨b, 0, none⟩) 0 0)) w') : AtSlice Tryz.prog ops Q o1 t 0 #[] rest a w :=
  wpList_step fun _ hK => by
    rw [if_pos hw]
    unfold Oper.wp execOp
    simp only [ho, List.map_toArray, List.map_nil, Sem.run_bind, run_slice0 hte hi, Result.andThen_ok, Sem.run_pure]
    exact hK _ _ (h _ _ ((H.alloc (.cells #[] e)).conv (by rw [rowsA_fp', blk_fp]; rfl) fun hb => rowsA_of_blk (xs := []) (by rw [blk_ho] at hb; exact hb) (by simp [maxLen]) (by simp [flatG]) hk))
end
theorem enc8_one (x : Nat) : ∀ u ∈ enc8 x, u.oneCell' = true := by
  intro u hu
  simp [enc8] at hu
  subst hu
  rfl
abbrev DerPost (l : List Nat) (w : World) (e : Ending) (w' : World) : Prop := ∃ v, e = .returned v ∧ St w [] [rowsA enc8 5 1 v l] w'
theorem derive_c {S : Sto} (hS : S.Ok) {P : PoolT} {n c : Nat} {ad : Option Addr} (hrow : RowIn P encR 5 (.slice ad n c) (S.list.take n)) (hn : n ≤ S.list.length) :
    ∀ (i : Nat), i < n → (S.txt (i + 1)).length ≤ 300 → ∀ (z : Int), z = (i : Int) + 1 → ∀ w, (poolA P).ho w → Calls Tryz.prog 85 #[.slice ad n c, .int .i64 z] w (DerPost (S.txt (i + 1)) w) := by
  intro i
  induction i using Nat.strongRecOn with
  | _ i ih =>
    intro hi hl z hz w hp
    subst hz
    have H := St.nil w []
    have HK := Ks.one hp
    obtain ⟨x, hx⟩ : ∃ x, S.list[i]? = some x := ⟨S.list[i], by simp⟩
    have hx' : (S.list.take n)[i]? = some x := by rw [List.getElem?_take, if_pos hi]; exact hx
    have hpos : 0 < (S.list.take n).length := by simp; omega
    obtain ⟨g, o, c', he, hm⟩ := hrow.has hpos
    injection he with e1 e2 e3
    subst e1
    have HR := Lib.hid hrow
    have HX0 := Lib.hid hx'
    have HI := Lib.hid ih
    have hln := hS.len
    have hmost := hS.most
    have hent := hS.ents i x hx
    clear ih hrow hp hx' e2 e3 hm hpos
    cases hent with
    | letter b hb =>
      rw [S.txt_letter hx]
      clear hx hl
      go_enter Tryz.func85, Tryz.ntmps85
      go_wp2_with (first | refine sL ?_ | (refine sS ?_; clear H; intro _ H) | (refine sA ?_; clear H; intro _ _ H) | ((with_reducible refine isLoad ?_); refine AtLoad.rngT (vs := [.int .i64 (1 : Nat), .int .u8 b, .int .i64 (0 : Nat), .int .i64 (0 : Nat), .int .i64 (0 : Nat)]) rfl rfl rfl (HR.out.rng (H.known HK pk) encR_len HX0.out) rfl ?_; simp only [Act.put, puA, puB, puC]) | ((with_reducible refine isSlice ?_); refine AtSlice.one H rfl rfl rfl rfl rfl rfl rfl rfl rfl ?_; clear H; intro b1 _ H; simp only [Act.put, puA, puB, puC]))
      go_ret
      refine ⟨_, rfl, ?_⟩
      refine (H.conv (A' := rowsA enc8 5 1 (.slice (some ⟨_, 0, none⟩) 1 1) [b]) (by rw [rowsA_fp', blk_fp]; rfl) fun hb => ?_).onlyHead
      rw [blk_ho] at hb
      exact rowsA_of_blk (xs := [b]) hb (by simp [maxLen]) rfl enc8_len
    | pair l r y y2 hl1 hr1 hy1 hy2 hle =>
      rw [S.txt_pair hl1 hr1 hx] at hl ⊢
      rw [List.length_append] at hl
      have HD1 := Lib.hid (fun w h => HI.out l hl1 (by omega) (by omega) ((l : Int) + 1) rfl w h)
      have HD2 := Lib.hid (fun w h => HI.out r hr1 (by omega) (by omega) ((r : Int) + 1) rfl w h)
      generalize S.txt (l + 1) = t1 at *
      generalize S.txt (r + 1) = t2 at *
      clear HI hx
      go_enter Tryz.func85, Tryz.ntmps85
      go_wp2_with (first | refine sL ?_ | (refine sS ?_; clear H; intro _ H) | (refine sA ?_; clear H; intro _ _ H) | ((with_reducible refine isLoad ?_); refine AtLoad.rngT (vs := [.int .i64 (2 : Nat), .int .u8 (0 : Nat), .int .i64 ((l + 1 : Nat) : Int), .int .i64 ((r + 1 : Nat) : Int), .int .i64 (0 : Nat)]) rfl rfl rfl (HR.out.rng (H.known HK pk) encR_len HX0.out) rfl ?_; simp only [Act.put, puA, puB, puC]) | ((with_reducible refine isSlice ?_); refine AtSlice.zero enc8 H rfl rfl rfl rfl enc8_len ?_; clear H; intro b1 _ H; simp only [Act.put, puA, puB, puC]) | (go_at_call 85; with_reducible refine Calls.mono (HD1.out _ (H.known HK pk)) ?_; rintro e wc ⟨v1, rfl, hb⟩; replace H := H.call0 hb; clear hb; simp only [List.cons_append, List.nil_append] at H) | (go_at_call 85; with_reducible refine Calls.mono (HD2.out _ (H.known HK pk)) ?_; rintro e wc ⟨v2, rfl, hb⟩; replace H := H.call0 hb; clear hb; simp only [List.cons_append, List.nil_append] at H) | ((with_reducible refine isAppend ?_); refine AtAppend.rows (xs := []) H rfl rfl rfl rfl rfl (by decide) (by decide) rfl pk rfl (H.get (A := rowsA enc8 5 1 v1 t1) pk) enc8_len enc8_one (by simp; omega) ?_; clear H; intro ad3 cp3 _ H; simp only [List.length_nil, Nat.zero_add, List.nil_append] at H; simp only [Act.put, puA, puB, puC, List.length_nil, Nat.zero_add]) | ((with_reducible refine isAppend ?_); refine AtAppend.rows (xs := t1) H rfl rfl rfl rfl rfl (by decide) (by decide) rfl pk rfl (H.get (A := rowsA enc8 5 1 v2 t2) pk) enc8_len enc8_one (by simp; omega) ?_; clear H; intro ad4 cp4 _ H; simp only [Act.put, puA, puB, puC]))
      go_ret
      exact ⟨_, rfl, H.onlyHead⟩
    | power l k y hl1 hy1 hk hle =>
      rw [S.txt_power hl1 hx] at hl ⊢
      rw [rep_len] at hl
      have hlen1 : (S.txt (l + 1)).length ≤ 300 := by have := Nat.le_mul_of_pos_left (S.txt (l + 1)).length (show 0 < k by omega); omega
      have hkm := power_le hS (tid := l + 1) hx
      have HD1 := Lib.hid (fun w h => HI.out l hl1 (by omega) hlen1 ((l : Int) + 1) rfl w h)
      generalize S.txt (l + 1) = t1 at *
      clear HI hx
      go_enter Tryz.func85, Tryz.ntmps85
      go_wp2_with (first | refine sL ?_ | (refine sS ?_; clear H; intro _ H) | (refine sA ?_; clear H; intro b5 _ H) | ((with_reducible refine isLoad ?_); refine AtLoad.rngT (vs := [.int .i64 (3 : Nat), .int .u8 (0 : Nat), .int .i64 ((l + 1 : Nat) : Int), .int .i64 (0 : Nat), .int .i64 k]) rfl rfl rfl (HR.out.rng (H.known HK pk) encR_len HX0.out) rfl ?_; simp only [Act.put, puA, puB, puC]) | ((with_reducible refine isSlice ?_); refine AtSlice.zero enc8 H rfl rfl rfl rfl enc8_len ?_; clear H; intro b1 _ H; simp only [Act.put, puA, puB, puC]) | (go_at_call 85; with_reducible refine Calls.mono (HD1.out _ (H.known HK pk)) ?_; rintro e wc ⟨v1, rfl, hb⟩; replace H := H.call0 hb; clear hb; simp only [List.cons_append, List.nil_append] at H) | ((with_reducible refine isAppend ?_); refine AtAppend.rows (xs := []) H rfl rfl rfl rfl rfl (by decide) (by decide) rfl pk rfl (H.get (A := rowsA enc8 5 1 v1 t1) pk) enc8_len enc8_one (by simp; omega) ?_; clear H; intro ad3 cp3 _ H; simp only [List.length_nil, Nat.zero_add, List.nil_append] at H; simp only [Act.put, puA, puB, puC, List.length_nil, Nat.zero_add]) | ((with_reducible refine isAppend ?_); refine AtAppend.rows (xs := []) H rfl rfl rfl rfl rfl (by decide) (by decide) rfl pk rfl (H.get (A := rowsA enc8 5 1 (.slice ad3 t1.length cp3) t1) pk) enc8_len enc8_one (by simp; omega) ?_; clear H; intro ad4 cp4 _ H; simp only [List.length_nil, Nat.zero_add, List.nil_append] at H; simp only [Act.put, puA, puB, puC, List.length_nil, Nat.zero_add]))
      go_loopw [6, 8] (fun v6 v8 wr => ∃ j : Nat, v8 = .int .i64 j ∧ 1 ≤ j ∧ j ≤ k ∧ St w [] [rowsA enc8 5 1 v6 (rep j t1), rowsA enc8 5 1 (.slice ad4 t1.length cp4) t1, blk b5 (.cells #[.int .i64 (3 : Nat), .int .u8 (0 : Nat), .int .i64 ((l + 1 : Nat) : Int), .int .i64 (0 : Nat), .int .i64 k] 110)] wr) (fun _ v8 _ => k - (intOf v8).toNat)
      case atStart => exact ⟨1, rfl, Nat.le_refl _, by omega, by rw [rep_one]; exact H.only3 (A := rowsA enc8 5 1 (.slice ad3 t1.length cp3) t1) (B := rowsA enc8 5 1 (.slice ad4 t1.length cp4) t1) pk pk pk⟩
      case round =>
        clear H
        obtain ⟨j, rfl, hj1, hjk, H⟩ := hrel
        by_cases hlt : j < k
        · have hjl : (rep j t1).length + t1.length ≤ 300 := by
            rw [rep_len]
            have := Nat.mul_le_mul_right t1.length (show j + 1 ≤ k by omega)
            rw [Nat.succ_mul] at this
            omega
          have HJL := Lib.hid hjl
          clear hjl
          go_wp2_with (first | refine sL ?_ | (refine sS ?_; clear H; intro _ H) | (refine sA ?_; clear H; intro _ _ H) | ((with_reducible refine isAppend ?_); refine AtAppend.rows (xs := rep j t1) H rfl rfl rfl rfl rfl (by decide) (by decide) rfl pk rfl (H.get (A := rowsA enc8 5 1 (.slice ad4 t1.length cp4) t1) pk) enc8_len enc8_one (by have := HJL.out; omega) ?_; clear H; intro ad5 cp5 _ H; simp only [Act.put, puA, puB, puC]))
          exact ⟨⟨j + 1, by go_num, by omega, by omega, by rw [rep_add, rep_one]; exact H⟩, by simp [intOf]; omega⟩
        · obtain rfl : j = k := by omega
          go_wp2_with (first | refine sL ?_ | (refine sS ?_; clear H; intro _ H) | (refine sA ?_; clear H; intro _ _ H))
          go_ret
          exact ⟨_, rfl, H.onlyHead⟩
end Go.Proofs.YtijnhpaafhcndaaGreat
end
section
namespace Go.Proofs.YtijnhpaafhcndaaGreat
open Go.RowKit Go.Maps
attribute [local go_sem] InGr
set_option maxHeartbeats 8000000
set_option maxRecDepth 100000
set_option linter.unusedSimpArgs false
set_option linter.unusedVariables false
def capX (S : Sto) (k : Nat) : Nat := min (S.txt k).length 301
def capL (S : Sto) (n i : Nat) : List Nat := (List.range (n + 1)).map fun k => if k ≤ i then capX S k else 0
theorem capL_len (S : Sto) (n i : Nat) : (capL S n i).length = n + 1 := by simp [capL]
theorem capL_get {S : Sto} {n i k : Nat} (h : k ≤ i) (hi : i ≤ n) : (capL S n i)[k]? = some (capX S k) := by
  unfold capL
  rw [List.getElem?_map, List.getElem?_range (by omega)]
  simp [h]
theorem capL_zero (S : Sto) (n : Nat) : capL S n 0 = List.replicate (n + 1) 0 := by
  unfold capL
  refine List.ext_getElem (by simp) fun k h1 h2 => ?_
  simp only [List.getElem_map, List.getElem_range, List.getElem_replicate]
  split
  · obtain rfl : k = 0 := by omega
    simp [capX, S.txt_zero]
  · rfl
theorem capL_next {S : Sto} {n i : Nat} (h : i < n) {v : Nat} (hv : v = capX S (i + 1)) : (capL S n i).set (i + 1) v = capL S n (i + 1) := by
  subst hv
  unfold capL
  refine List.ext_getElem (by simp) fun k h1 h2 => ?_
  rw [List.getElem_set]
  simp only [List.getElem_map, List.getElem_range]
  split
  · subst_vars; simp
  · rename_i hk
    by_cases hki : k ≤ i
    · rw [if_pos hki, if_pos (by omega)]
    · rw [if_neg hki, if_neg (by omega)]
theorem capX_le (S : Sto) (k : Nat) : capX S k ≤ 301 := by unfold capX; omega
inductive RCase (S : Sto) (i : Nat) : Nat → Nat → Nat → Nat → Nat → List Nat → Prop
  | letter (b : Nat) (h : capX S (i + 1) = 1) : RCase S i 1 b 0 0 0 []
  | pair (l r : Nat) (hl : l + 1 ≤ i) (hr : r + 1 ≤ i) (h : (S.txt (i + 1)).length = (S.txt (l + 1)).length + (S.txt (r + 1)).length) : RCase S i 2 0 (l + 1) (r + 1) 0 [l + 1, r + 1]
  | power (l k : Nat) (hl : l + 1 ≤ i) (hk : 2 ≤ k) (hm : k ≤ 1152921504606846976) (h : (S.txt (i + 1)).length = k * (S.txt (l + 1)).length) : RCase S i 3 0 (l + 1) 0 k [l + 1]
theorem rcase {S : Sto} (hS : S.Ok) {i : Nat} (hi : i < S.list.length) : ∃ x kd lt lf rt tm rl, S.list[i]? = some x ∧ encR x = [.int .i64 (kd : Nat), .int .u8 (lt : Nat), .int .i64 (lf : Nat), .int .i64 (rt : Nat), .int .i64 (tm : Nat)] ∧ RCase S i kd lt lf rt tm rl ∧
    (∀ w, Calls Tryz.prog 84 #[.agg #[.int .i64 (kd : Nat), .int .u8 (lt : Nat), .int .i64 (lf : Nat), .int .i64 (rt : Nat), .int .i64 (tm : Nat)]] w fun e w' => ∃ v, e = .returned v ∧ St w [] [rowsA encI 32 1 v rl] w') ∧ (∀ r ∈ rl, 1 ≤ r ∧ r ≤ i) ∧ rl.length ≤ 2 := by
  obtain ⟨x, hx⟩ : ∃ x, S.list[i]? = some x := ⟨S.list[i], by simp⟩
  have hent := hS.ents i x hx
  cases hent with
  | letter b hb => exact ⟨_, 1, b, 0, 0, 0, [], hx, rfl, .letter b (by unfold capX; rw [S.txt_letter hx]; rfl), fun w => xrefs_letter b w, by simp, by simp⟩
  | pair l r y y2 hl1 hr1 hy1 hy2 hle => exact ⟨_, 2, 0, l + 1, r + 1, 0, [l + 1, r + 1], hx, rfl, .pair l r (by omega) (by omega) (by rw [S.txt_pair hl1 hr1 hx, List.length_append]), fun w => xrefs_pair (l + 1) (r + 1) w, by simp; omega, by simp⟩
  | power l k y hl1 hy1 hk hle => exact ⟨_, 3, 0, l + 1, 0, k, [l + 1], hx, rfl, .power l k (by omega) hk (power_le hS (tid := l + 1) hx) (by rw [S.txt_power hl1 hx, rep_len]), fun w => xrefs_power (l + 1) k w, by simp; omega, by simp⟩
def ExpPost (l : List Nat) (w : World) (e : Ending) (w' : World) : Prop :=
  (l.length ≤ 300 ∧ ∃ v, e = .returned (.tuple #[v, .bool true]) ∧ St w [] [rowsA enc8 5 1 v l] w') ∨ (¬ l.length ≤ 300 ∧ e = .returned (.tuple #[.slice none 0 0, .bool false]) ∧ St w [] [] w')
theorem expand_c {S : Sto} (hS : S.Ok) {P : PoolT} {n c : Nat} {ad : Option Addr} (hrow : RowIn P encR 5 (.slice ad n c) (S.list.take n)) (hn : n ≤ S.list.length) (w : World) (hp : (poolA P).ho w) :
    Calls Tryz.prog 56 #[.slice ad n c, .int .i64 300] w (ExpPost (S.txt n) w) := by
  have H := St.nil w []
  have HK := Ks.one hp
  have hln := hS.len
  have hmost := hS.most
  rcases Nat.eq_zero_or_pos n with rfl | hpos
  · clear hrow
    go_enter Tryz.func56, Tryz.ntmps56
    go_wp2_with (first | refine sL ?_ | (refine sS ?_; clear H; intro _ H) | (refine sA ?_; clear H; intro _ _ H))
    go_ret2
    exact .inl ⟨by simp [S.txt_zero], _, rfl, by rw [S.txt_zero]; exact (H.empty (A := rowsA enc8 5 1 (.slice none 0 0) []) (rowsA_nil _) (by rw [rowsA_fp']; rfl)).onlyHead⟩
  have hpos' : 0 < (S.list.take n).length := by simp; omega
  obtain ⟨g, o, c', he, hm⟩ := hrow.has hpos'
  injection he with e1 e2 e3
  subst e1
  have HDER := Lib.hid (fun (h : (S.txt n).length ≤ 300) w h2 => derive_c hS hrow hn (n - 1) (by omega) (by rw [show n - 1 + 1 = n by omega]; exact h) (n : Int) (by omega) w h2)
  rw [show n - 1 + 1 = n by omega] at HDER
  have HR := Lib.hid hrow
  have HC : Hid (∀ i, i < n → _) := Lib.hid (fun i (hi : i < n) => rcase hS (i := i) (by omega))
  have hn1 : ((n : Int) + 1) = ((n + 1 : Nat) : Int) := rfl
  have h0 : ((n : Int) == 0) = false := by rw [beq_eq_false_iff_ne]; omega
  clear hrow hp e2 e3 hm hpos' hS
  generalize hN1 : n + 1 = N1 at *
  have HN1 := Lib.hid hN1
  have hNb : N1 ≤ 1048577 := by omega
  clear hN1
  go_enter Tryz.func56, Tryz.ntmps56
  go_wp2_with (first | refine sL ?_ | (refine sS ?_; clear H; intro _ H) | (refine sA ?_; clear H; intro _ _ H) | ((with_reducible refine isMakeSlice ?_); refine AtMakeSlice.go encI H rfl rfl N1 rfl rfl rfl rfl 0 rfl rfl encI_len (by omega) (by omega) ?_; clear H; intro bl _ H; simp only [Act.put, puA, puB, puC]))
  go_loopw [7] (fun v7 wr => ∃ i : Nat, v7 = .int .i64 i ∧ i ≤ n ∧ St w [] [rowsA encI 3 1 (.slice (some ⟨bl, 0, none⟩) N1 N1) (capL S n i)] wr) (fun v7 _ => n - (intOf v7).toNat)
  case atStart => exact ⟨0, rfl, Nat.zero_le _, by rw [capL_zero, HN1.out]; exact H⟩
  case round =>
    clear H
    obtain ⟨i, rfl, hi, H⟩ := hrel
    by_cases hlt : i < n
    · obtain ⟨x, kd, lt, lf, rt, tm, rl, hx, henc, hcase, href, hrl, hrl2⟩ := HC.out i hlt
      have HLD : Hid (∀ w, (poolA P).ho w → w.rangeAt g (o + i * 5) [.int .i64 (kd : Nat), .int .u8 (lt : Nat), .int .i64 (lf : Nat), .int .i64 (rt : Nat), .int .i64 (tm : Nat)]) := Lib.hid fun w h => by
        rw [← henc]
        exact HR.out.rng h encR_len (by rw [List.getElem?_take, if_pos hlt]; exact hx)
      have HREF := Lib.hid href
      have HCASE := Lib.hid hcase
      have HRL := Lib.hid hrl
      clear hx henc hcase href hrl HC
      go_wp2_with (first | refine sL ?_ | (refine sS ?_; clear H; intro _ H) | (refine sA ?_; clear H; intro b8 _ H) | ((with_reducible refine isLoad ?_); refine AtLoad.rngT rfl rfl rfl (HLD.out _ (H.known HK pk)) rfl ?_; simp only [Act.put, puA, puB, puC]) | (go_at_call 84; with_reducible refine Calls.mono (HREF.out _) ?_; rintro e wc ⟨v9, rfl, hb⟩; obtain ⟨a9, c9, rfl, _⟩ := rowsA_shape (hb.get (A := rowsA encI 32 1 v9 rl) pk); replace H := H.call0 hb; clear hb; simp only [List.cons_append, List.nil_append] at H))
      go_loopw [10] (fun v10 wr => ∃ k : Nat, v10 = .int .i64 k ∧ k ≤ rl.length ∧ St w [] [rowsA encI 3 1 (.slice (some ⟨bl, 0, none⟩) N1 N1) (capL S n i), rowsA encI 32 1 (.slice a9 rl.length c9) rl, blk b8 (.cells #[.int .i64 (kd : Nat), .int .u8 (lt : Nat), .int .i64 (lf : Nat), .int .i64 (rt : Nat), .int .i64 (tm : Nat)] 110)] wr) (fun v10 _ => rl.length - (intOf v10).toNat)
      case atStart => exact ⟨0, rfl, Nat.zero_le _, H.only3 (A := rowsA encI 3 1 (.slice (some ⟨bl, 0, none⟩) N1 N1) (capL S n i)) (B := rowsA encI 32 1 (.slice a9 rl.length c9) rl) pk pk pk⟩
      case round =>
        clear H
        obtain ⟨k, rfl, hk, H⟩ := hrel
        by_cases hkl : k < rl.length
        · obtain ⟨r, hr⟩ : ∃ r, rl[k]? = some r := ⟨_, List.getElem?_eq_getElem hkl⟩
          obtain ⟨g9, c9', e1, _⟩ := rowsA_cases (H.get (A := rowsA encI 32 1 (.slice a9 rl.length c9) rl) pk) (by omega)
          injection e1 with e1 e2 e3
          subst e1
          have hb := HRL.out r (List.mem_of_getElem? hr)
          have d1 : decide ((r : Int) < 1) = false := by simp; omega
          have d2 : decide ((i : Int) < (r : Int)) = false := by simp; omega
          have d3 : decide (i < r) = false := by simp; omega
          have HRR := Lib.hid hr
          clear hr e2 e3
          go_wp2_with (first | refine sL ?_ | (refine sS ?_; clear H; intro _ H) | (refine sA ?_; clear H; intro _ _ H) | ((with_reducible refine isLoad ?_); refine AtLoad.cel rfl rfl rfl rfl (rowsA_cell1 (H.get (A := rowsA encI 32 1 (.slice (some ⟨g9, 0, none⟩) rl.length c9) rl) pk) encI_len HRR.out rfl) ?_; simp only [Act.put, puA, puB, puC]))
          exact ⟨⟨k + 1, by go_num, by omega, H⟩, by simp [intOf]; omega⟩
        · obtain rfl : k = rl.length := by omega
          have hcase := HCASE.out
          clear HLD HREF HCASE HRL
          cases hcase with
          | letter b h =>
            go_wp2_with (first | refine sL ?_ | (refine sS ?_; clear H; intro _ H) | (refine sA ?_; clear H; intro _ _ H) | ((with_reducible refine isStore ?_); refine AtStore.rowA (enc := encI) (n := N1) (c := N1) H rfl rfl rfl rfl rfl rfl pk (1) (by first | rfl | (simp only [encI]; go_num)) encI_len ?bd ?_; (case bd => rw [capL_len]; omega); clear H; intro _ H; simp only [Act.put, puA, puB, puC]))
            exact ⟨⟨i + 1, by go_num, by omega, by rw [← capL_next hlt (show 1 = capX S (i + 1) from h.symm)]; exact (H.only (A := rowsA encI 3 1 (.slice (some ⟨bl, 0, none⟩) N1 N1) ((capL S n i).set (i + 1) (1))) pk)⟩, by simp [intOf]; omega⟩
          | pair l r hl hr h =>
            have hxi : capX S (i + 1) = min (capX S (l + 1) + capX S (r + 1)) 301 := by unfold capX; omega
            have ha := capX_le S (l + 1)
            have hb := capX_le S (r + 1)
            have HL1 := Lib.hid (capL_get (S := S) (n := n) hl (by omega))
            have HL2 := Lib.hid (capL_get (S := S) (n := n) hr (by omega))
            generalize capX S (l + 1) = a at *
            generalize capX S (r + 1) = b at *
            go_wp2_with (first | refine sL ?_ | (refine sS ?_; clear H; intro _ H) | (refine sA ?_; clear H; intro _ _ H))
            refine wp_region_h H 11 [] [] (by kernel_rfl) (by kernel_rfl) ?_
            apply Exists.intro
            refine ⟨fun w1 hw1 HX => ?_, fun bs wr Hr => ?_⟩
            · refine sG ?_
              repeat (first | refine sQ ?_ | ((with_reducible refine isQLoad ?_); refine QtLoad.cel rfl rfl rfl rfl (fun y => rowsA_cell1 ((HX y).get (A := rowsA encI 3 1 (.slice (some ⟨bl, 0, none⟩) N1 N1) (capL S n i)) pk) encI_len HL1.out rfl) ?_; simp only [Act.put, puA, puB, puC]) | ((with_reducible refine isQLoad ?_); refine QtLoad.cel rfl rfl rfl rfl (fun y => rowsA_cell1 ((HX y).get (A := rowsA encI 3 1 (.slice (some ⟨bl, 0, none⟩) N1 N1) (capL S n i)) pk) encI_len HL2.out rfl) ?_; simp only [Act.put, puA, puB, puC]) | go_big_quiet_step (fail))
              exact wpQuiet_nil rfl
            clear H
            have H := Hr
            clear Hr
            replace H := sH H; refine sT ?_
            by_cases hs : a + b ≤ 300
            · have d1 : decide ((300 : Int) < (a : Int) + b) = false := by simp; omega
              have hv : a + b = capX S (i + 1) := by omega
              clear hxi h hs
              go_wp2_with (first | refine sL ?_ | (refine sS ?_; clear H; intro _ H) | (refine sA ?_; clear H; intro _ _ H) | ((with_reducible refine isStore ?_); refine AtStore.rowA (enc := encI) (n := N1) (c := N1) H rfl rfl rfl rfl rfl rfl pk (a + b) (by first | rfl | (simp only [encI]; go_num)) encI_len ?bd ?_; (case bd => rw [capL_len]; omega); clear H; intro _ H; simp only [Act.put, puA, puB, puC]))
              exact ⟨⟨i + 1, by go_num, by omega, by rw [← capL_next hlt (show a + b = capX S (i + 1) from hv)]; exact (H.only (A := rowsA encI 3 1 (.slice (some ⟨bl, 0, none⟩) N1 N1) ((capL S n i).set (i + 1) (a + b))) pk)⟩, by simp [intOf]; omega⟩
            · have d1 : decide ((300 : Int) < (a : Int) + b) = true := by simp; omega
              have hv : 301 = capX S (i + 1) := by omega
              clear hxi h hs
              go_wp2_with (first | refine sL ?_ | (refine sS ?_; clear H; intro _ H) | (refine sA ?_; clear H; intro _ _ H) | ((with_reducible refine isStore ?_); refine AtStore.rowA (enc := encI) (n := N1) (c := N1) H rfl rfl rfl rfl rfl rfl pk (301) (by first | rfl | (simp only [encI]; go_num)) encI_len ?bd ?_; (case bd => rw [capL_len]; omega); clear H; intro _ H; simp only [Act.put, puA, puB, puC]))
              exact ⟨⟨i + 1, by go_num, by omega, by rw [← capL_next hlt (show 301 = capX S (i + 1) from hv)]; exact (H.only (A := rowsA encI 3 1 (.slice (some ⟨bl, 0, none⟩) N1 N1) ((capL S n i).set (i + 1) (301))) pk)⟩, by simp [intOf]; omega⟩
          | power l tm hl hk2 hm h =>
            have hxi : capX S (i + 1) = min (tm * (S.txt (l + 1)).length) 301 := by unfold capX; rw [h]
            have hai : capX S (l + 1) = min (S.txt (l + 1)).length 301 := rfl
            have ha := capX_le S (l + 1)
            have HL1 := Lib.hid (capL_get (S := S) (n := n) hl (by omega))
            have hz : (tm : Int) ≠ 0 := by omega
            have hqb : 300 / tm ≤ 300 := Nat.div_le_self _ _
            have hq : (300 : Int).tdiv (tm : Int) = ((300 / tm : Nat) : Int) := rfl
            have d2 : decide ((tm : Int) < 1) = false := by simp; omega
            have d3 : decide (tm < 1) = false := by simp; omega
            generalize capX S (l + 1) = a at *
            generalize (S.txt (l + 1)).length = len at *
            by_cases hle : a ≤ 300 / tm
            · have hak : a * tm ≤ 300 := (Nat.le_div_iff_mul_le (by omega)).1 hle
              have ha2 : a * 2 ≤ a * tm := Nat.mul_le_mul_left a hk2
              have hal : len = a := by omega
              have hv : a * tm = capX S (i + 1) := by rw [hxi, hal, Nat.mul_comm tm a]; omega
              have d1 : decide ((a : Int) ≤ ((300 / tm : Nat) : Int)) = true := by simp only [decide_eq_true_eq]; omega
              have d5 : decide (a ≤ 300 / tm) = true := by simp only [decide_eq_true_eq]; omega
              have hp : (a : Int) * (tm : Int) = ((a * tm : Nat) : Int) := (Int.natCast_mul a tm).symm
              generalize a * tm = pr at *
              generalize 300 / tm = qk at *
              clear hxi h hai hal ha2 hle
              have d4 : decide ((300 : Int) < (pr : Int)) = false := by simp; omega
              go_wp2_with (first | refine sL ?_ | (refine sS ?_; clear H; intro _ H) | (refine sA ?_; clear H; intro _ _ H))
              refine wp_region_h H 10 [] [] (by kernel_rfl) (by kernel_rfl) ?_
              apply Exists.intro
              refine ⟨fun w1 hw1 HX => ?_, fun bs wr Hr => ?_⟩
              · refine sG ?_
                repeat (first | refine sQ ?_ | ((with_reducible refine isQLoad ?_); refine QtLoad.cel rfl rfl rfl rfl (fun y => rowsA_cell1 ((HX y).get (A := rowsA encI 3 1 (.slice (some ⟨bl, 0, none⟩) N1 N1) (capL S n i)) pk) encI_len HL1.out rfl) ?_; simp only [Act.put, puA, puB, puC]) | go_big_quiet_step (fail))
                exact wpQuiet_nil rfl
              clear H
              have H := Hr
              clear Hr
              replace H := sH H; refine sT ?_
              go_wp2_with (first | refine sL ?_ | (refine sS ?_; clear H; intro _ H) | (refine sA ?_; clear H; intro _ _ H))
              refine wp_region_h H 8 [] [] (by kernel_rfl) (by kernel_rfl) ?_
              apply Exists.intro
              refine ⟨fun w1 hw1 HX => ?_, fun bs wr Hr => ?_⟩
              · refine sG ?_
                repeat (first | refine sQ ?_ | ((with_reducible refine isQLoad ?_); refine QtLoad.cel rfl rfl rfl rfl (fun y => rowsA_cell1 ((HX y).get (A := rowsA encI 3 1 (.slice (some ⟨bl, 0, none⟩) N1 N1) (capL S n i)) pk) encI_len HL1.out rfl) ?_; simp only [Act.put, puA, puB, puC]) | go_big_quiet_step (fail))
                exact wpQuiet_nil rfl
              clear H
              have H := Hr
              clear Hr
              replace H := sH H; refine sT ?_
              go_wp2_with (first | refine sL ?_ | (refine sS ?_; clear H; intro _ H) | (refine sA ?_; clear H; intro _ _ H) | ((with_reducible refine isStore ?_); refine AtStore.rowA (enc := encI) (n := N1) (c := N1) H rfl rfl rfl rfl rfl rfl pk (pr) (by first | rfl | (simp only [encI]; go_num)) encI_len ?bd ?_; (case bd => rw [capL_len]; omega); clear H; intro _ H; simp only [Act.put, puA, puB, puC]))
              exact ⟨⟨i + 1, by go_num, by omega, by rw [← capL_next hlt (show pr = capX S (i + 1) from hv)]; exact (H.only (A := rowsA encI 3 1 (.slice (some ⟨bl, 0, none⟩) N1 N1) ((capL S n i).set (i + 1) (pr))) pk)⟩, by simp [intOf]; omega⟩
            · have hak : 300 < a * tm := by
                exact Nat.lt_of_not_le fun h => hle ((Nat.le_div_iff_mul_le (by omega)).2 h)
              have hv : 301 = capX S (i + 1) := by
                have := Nat.mul_le_mul_left tm (show a ≤ len by omega)
                rw [Nat.mul_comm tm a] at this
                omega
              have d1 : decide ((a : Int) ≤ ((300 / tm : Nat) : Int)) = false := by simp only [decide_eq_false_iff_not]; omega
              have d5 : decide (a ≤ 300 / tm) = false := by simp only [decide_eq_false_iff_not]; omega
              generalize 300 / tm = qk at *
              clear hxi h hai hak hle
              go_wp2_with (first | refine sL ?_ | (refine sS ?_; clear H; intro _ H) | (refine sA ?_; clear H; intro _ _ H))
              refine wp_region_h H 10 [] [] (by kernel_rfl) (by kernel_rfl) ?_
              apply Exists.intro
              refine ⟨fun w1 hw1 HX => ?_, fun bs wr Hr => ?_⟩
              · refine sG ?_
                repeat (first | refine sQ ?_ | ((with_reducible refine isQLoad ?_); refine QtLoad.cel rfl rfl rfl rfl (fun y => rowsA_cell1 ((HX y).get (A := rowsA encI 3 1 (.slice (some ⟨bl, 0, none⟩) N1 N1) (capL S n i)) pk) encI_len HL1.out rfl) ?_; simp only [Act.put, puA, puB, puC]) | go_big_quiet_step (fail))
                exact wpQuiet_nil rfl
              clear H
              have H := Hr
              clear Hr
              replace H := sH H; refine sT ?_
              go_wp2_with (first | refine sL ?_ | (refine sS ?_; clear H; intro _ H) | (refine sA ?_; clear H; intro _ _ H) | ((with_reducible refine isStore ?_); refine AtStore.rowA (enc := encI) (n := N1) (c := N1) H rfl rfl rfl rfl rfl rfl pk (301) (by first | rfl | (simp only [encI]; go_num)) encI_len ?bd ?_; (case bd => rw [capL_len]; omega); clear H; intro _ H; simp only [Act.put, puA, puB, puC]))
              exact ⟨⟨i + 1, by go_num, by omega, by rw [← capL_next hlt (show 301 = capX S (i + 1) from hv)]; exact (H.only (A := rowsA encI 3 1 (.slice (some ⟨bl, 0, none⟩) N1 N1) ((capL S n i).set (i + 1) (301))) pk)⟩, by simp [intOf]; omega⟩
    · obtain rfl : i = n := by omega
      have hcx : capX S i = min (S.txt i).length 301 := rfl
      have HL1 := Lib.hid (capL_get (S := S) (n := i) (Nat.le_refl i) (Nat.le_refl i))
      generalize capX S i = cx at *
      by_cases hs : (S.txt i).length ≤ 300
      · have d1 : decide ((300 : Int) < (cx : Int)) = false := by simp; omega
        have HD := Lib.hid (HDER.out hs)
        have HS := Lib.hid hs
        clear HDER hcx hs
        go_wp2_with (first | refine sL ?_ | (refine sS ?_; clear H; intro _ H) | (refine sA ?_; clear H; intro _ _ H) | ((with_reducible refine isLoad ?_); refine AtLoad.cel rfl rfl rfl rfl (rowsA_cell1 (H.get (A := rowsA encI 3 1 (.slice (some ⟨bl, 0, none⟩) N1 N1) (capL S i i)) pk) encI_len HL1.out rfl) ?_; simp only [Act.put, puA, puB, puC]) | (go_at_call 85; with_reducible refine Calls.mono (HD.out _ (H.known HK pk)) ?_; rintro e wc ⟨v1, rfl, hb⟩; replace H := H.call0 hb; clear hb; simp only [List.cons_append, List.nil_append] at H))
        go_ret2
        exact .inl ⟨HS.out, _, rfl, H.onlyHead⟩
      · have d1 : decide ((300 : Int) < (cx : Int)) = true := by simp; omega
        have HS := Lib.hid hs
        clear HDER hcx hs
        go_wp2_with (first | refine sL ?_ | (refine sS ?_; clear H; intro _ H) | (refine sA ?_; clear H; intro _ _ H) | ((with_reducible refine isLoad ?_); refine AtLoad.cel rfl rfl rfl rfl (rowsA_cell1 (H.get (A := rowsA encI 3 1 (.slice (some ⟨bl, 0, none⟩) N1 N1) (capL S i i)) pk) encI_len HL1.out rfl) ?_; simp only [Act.put, puA, puB, puC]))
        go_ret2
        exact .inr ⟨HS.out, rfl, H.nix⟩
end Go.Proofs.YtijnhpaafhcndaaGreat
end
section
namespace Go.Proofs.YtijnhpaafhcndaaGreat
open Go.RowKit Go.Maps
attribute [local go_sem] InGr
set_option maxHeartbeats 8000000
set_option maxRecDepth 100000
set_option linter.unusedSimpArgs false
set_option linter.unusedVariables false
theorem hits_snoc (m : Mc) (q b : Nat) (l : List Nat) : m.hits q (l ++ [b]) = m.hits q l ++ [m.wt (m.step (m.ends q l) b)] := by
  rw [Mc.hits_append]; rfl
theorem hits_c {P : PoolT} {m : Mc} {c : Nat} (ok : m.Ok c) {cv nv av hv tv : Value} {rvs : List Value} (hm : MacAt P cv nv av rvs m) (hh : RowIn P encI 1 hv m.wts) {l : List Nat} (hl : ∀ b ∈ l, b < 256) (hlen : l.length ≤ 300) (ht : RowIn P enc8 1 tv l) (w : World) (hp : (poolA P).ho w) :
    Calls Tryz.prog 26 #[.agg #[.int .i64 m.start, cv, nv, av], hv, tv] w fun e w' => ∃ v, e = .returned v ∧ St w [] [rowsA encI 3 1 v (m.hits m.start l)] w' := by
  have H := St.nil w []
  have HK := Ks.one hp
  have hn1 := ok.n1
  have hn256 := ok.n256
  obtain ⟨gc, oc, cc, rfl, hrc⟩ := hm.cls.hasN ok.cls (by omega)
  obtain ⟨gn, on, cn, rfl, hrn⟩ := hm.next.hasN hm.len ok.n1
  obtain ⟨gh, oh, ch, rfl, hrh⟩ := hh.hasN ok.wts ok.n1
  obtain ⟨at_, ct, rfl, hmx⟩ := ht.shape
  have HRC := Lib.hid hrc
  have HRN := Lib.hid hrn
  have HRH := Lib.hid hrh
  have HM := Lib.hid hm
  have HO := Lib.hid ok
  have HT := Lib.hid ht
  have HL := Lib.hid hl
  have HQ : Hid (∀ k, m.ends m.start (l.take k) < m.n) := Lib.hid fun k => ok.ends_lt ok.start fun b hb => hl b (List.mem_of_mem_take hb)
  have HST : Hid (∀ k b, l[k]? = some b → m.ends m.start (l.take (k + 1)) = m.step (m.ends m.start (l.take k)) b ∧ m.hits m.start (l.take (k + 1)) = m.hits m.start (l.take k) ++ [m.wt (m.step (m.ends m.start (l.take k)) b)]) := Lib.hid fun k b hb => by
    rw [List.take_add_one, hb]
    exact ⟨by rw [Mc.ends_append]; rfl, hits_snoc _ _ _ _⟩
  clear hm hh hl ht ok hp hrc hrn hrh
  go_enter Tryz.func26, Tryz.ntmps26
  go_wp2_with (first | refine sL ?_ | (refine sB ?_; clear H; intro b3 _ H))
  replace H := H.empty (A := rowsA encI 3 1 (.slice none 0 0) []) (rowsA_nil _) (by rw [rowsA_fp']; rfl)
  go_loopw [7, 8, 9] (fun v7 v8 v9 wr => ∃ k : Nat, v9 = .int .i64 k ∧ k ≤ l.length ∧ v8 = .int .i64 (m.ends m.start (l.take k) : Nat) ∧ St w [] [rowsA encI 3 1 v7 (m.hits m.start (l.take k)), blk b3 (.cells #[.int .i64 m.start, .slice (some ⟨gc, oc, none⟩) 256 cc, .slice (some ⟨gn, on, none⟩) m.n cn, av] 26)] wr) (fun _ _ v9 _ => l.length - (intOf v9).toNat)
  case atStart => exact ⟨0, rfl, Nat.zero_le _, rfl, H⟩
  case round =>
    clear H
    obtain ⟨k, rfl, hk, rfl, H⟩ := hrel
    by_cases hlt : k < l.length
    · obtain ⟨b, hb⟩ : ∃ b, l[k]? = some b := ⟨_, List.getElem?_eq_getElem hlt⟩
      have hb256 := HL.out b (List.mem_of_getElem? hb)
      have hq := HQ.out k
      obtain ⟨s1, s2⟩ := HST.out k b hb
      have hhl : (m.hits m.start (l.take k)).length = k := by rw [Mc.hits_len, List.length_take]; omega
      generalize m.ends m.start (l.take k) = q at *
      generalize m.hits m.start (l.take k) = hs at *
      obtain ⟨r, x, x1, x2, x3, x4, x5, x6⟩ := HO.out.step_get hq hb256
      obtain ⟨gr, og, d, r', y1, y2, y3, y4⟩ := HM.out.row HO.out hq
      rw [x1] at y2
      cases y2
      obtain ⟨gt', ot, ct', z1, z2⟩ := HT.out.has (by omega)
      injection z1 with z1 z3 z4
      subst z1
      have hwt := HO.out.wt_get x4
      have hcn : c ≤ 256 := HO.out.c256
      have HB := Lib.hid hb
      have HX1 := Lib.hid x2
      have HX2 := Lib.hid x3
      have HX3 := Lib.hid y1
      have HROW := Lib.hid y3
      have HW := Lib.hid hwt.1
      have HS := Lib.hid (And.intro s1 s2)
      clear x1 x2 x3 y1 y3 hwt hb s1 s2 z2 z3 z4 HST HQ HL
      generalize m.step q b = q2 at *
      generalize m.wt q2 = wq at *
      generalize hnn : m.n = nn at *
      go_wp2_with (first | refine sL ?_ | (refine sB ?_; clear H; intro _ _ H))
      refine wp_region_h H 15 [] [] (by kernel_rfl) (by kernel_rfl) ?_
      apply Exists.intro
      refine ⟨fun w1 hw1 HX => ?_, fun bs wr Hr => ?_⟩
      · refine sG ?_
        repeat (first | refine sQ ?_ | ((with_reducible refine isQLoad ?_); refine QtLoad.cel rfl rfl rfl rfl (fun y => HRC.out.cell ((HX y).known HK pk) encI_len HX1.out rfl) ?_; simp only [Act.put, puA, puB, puC]) | ((with_reducible refine isQLoad ?_); refine QtLoad.cel rfl rfl rfl rfl (fun y => HROW.out.cell ((HX y).known HK pk) encI_len HX2.out rfl) ?_; simp only [Act.put, puA, puB, puC]) | ((with_reducible refine isQLoad ?_); refine QtLoad.cel rfl rfl rfl rfl (fun y => HRN.out.cell ((HX y).known HK pk) encV_len HX3.out rfl) ?_; simp only [Act.put, puA, puB, puC]) | ((with_reducible refine isQLoad ?_); refine QtLoad.cel rfl rfl rfl rfl (fun y => HT.out.cell ((HX y).known HK pk) enc8_len HB.out rfl) ?_; simp only [Act.put, puA, puB, puC]) | go_big_quiet_step (fail))
        exact wpQuiet_nil rfl
      clear H
      have H := Hr
      clear Hr
      replace H := sH H; refine sT ?_
      go_wp2_with (first | refine sL ?_ | (refine sB ?_; clear H; intro _ _ H) | ((with_reducible refine isLoad ?_); refine AtLoad.cel rfl rfl rfl rfl (HRH.out.cell (H.known HK pk) encI_len HW.out rfl) ?_; simp only [Act.put, puA, puB, puC]) | ((with_reducible refine isSlice ?_); refine AtSlice.one H rfl rfl rfl rfl rfl rfl rfl rfl rfl ?_; clear H; intro b1 _ H; simp only [Act.put, puA, puB, puC]) | ((with_reducible refine isAppend ?_); refine AtAppend.go (enc := encI) H rfl rfl rfl rfl rfl (by decide) (by decide) rfl pk rfl (H.at pk) [wq] rfl (by simp [flatG, encI]) encI_len encI_one (by simp; omega) ?_; clear H; intro ad9 cp9 _ H; simp only [Act.put, puA, puB, puC]))
      obtain ⟨s1, s2⟩ := HS.out
      exact ⟨⟨k + 1, by go_num, by omega, by rw [s1], by rw [s2]; exact H.drop (A := blk b1 (.cells #[.int .i64 (wq : Nat)] 3)) pk⟩, by simp [intOf]; omega⟩
    · obtain rfl : k = l.length := by omega
      go_wp2_with (first | refine sL ?_ | (refine sB ?_; clear H; intro _ _ H))
      go_ret
      rw [List.take_length] at H
      exact ⟨_, rfl, H.onlyHead⟩
end Go.Proofs.YtijnhpaafhcndaaGreat
end
section
namespace Go.Proofs.YtijnhpaafhcndaaGreat
open Go.RowKit Go.Maps
attribute [local go_sem] InGr
set_option maxHeartbeats 8000000
set_option maxRecDepth 100000
set_option linter.unusedSimpArgs false
set_option linter.unusedVariables false
end Go.Proofs.YtijnhpaafhcndaaGreat
end
section
namespace Go.Proofs.YtijnhpaafhcndaaGreat
open Go.RowKit Go.Maps
attribute [local go_sem] InGr
set_option maxHeartbeats 8000000
set_option maxRecDepth 100000
set_option linter.unusedSimpArgs false
set_option linter.unusedVariables false
section
variable {ops : Array Oper} {Q : Exit → Act → World → Prop} {rest : List Oper} {a : Act} {w w0 : World} {o1 : Oper} {dst : Option Tmp} {ty0 : TypeId} {pos : String} {aft : Array Edge} {gd : Option (Nat × Bool)}
theorem run_cut {t e : TypeId} (hte : sliceO t = some e) {z : Value} {k bytes : Nat} (hi : infoO e = some (z, k, bytes)) {ad : Option Addr} {n c m : Nat} (had : ad = none ∨ ∃ g, ad = some ⟨g, 0, none⟩) (hm : m ≤ c) (w : World) :
    (Instr.sliceAt t (.slice ad n c) none (some (.int .i64 (m : Nat))) none).run Tryz.prog w = .ok (.slice ad m c) w := by
  obtain ⟨i, h2, h3, h4, h5⟩ := infoO_ok hi
  have hu := sliceO_ok hte
  have hb : (Instr.sliceBound (Value.int .i64 (m : Nat)) c .sliceAcap).run Tryz.prog w = .ok m w := by
    unfold Instr.sliceBound
    simp [asIntOf, hm]
  rcases had with rfl | ⟨g, rfl⟩
  · simp [Instr.sliceAt, Instr.slice, Instr.sliceBounds, run_underlying hu, sizeOf, typeInfo, h2, Sem.run_bind, Result.andThen, hb]
  · simp [Instr.sliceAt, Instr.slice, Instr.sliceBounds, run_underlying hu, sizeOf, typeInfo, h2, Sem.run_bind, Result.andThen, hb, Addr.add]
theorem AtCut.any {t e : TypeId} {x y : Operand} (hw : Region.wanted o1 (yielded ops a.tmps) = true) (ho : o1.op = .slice t x none (some y) none) (hte : sliceO t = some e) {z : Value} {k bytes : Nat} (hi : infoO e = some (z, k, bytes)) {ad : Option Addr} {n c m : Nat} (hx : a.eval x = .slice ad n c) (hy : a.eval y = .int .i64 (m : Nat)) (had : ad = none ∨ ∃ g, ad = some ⟨g, 0, none⟩) (hm : m ≤ c)
    (h : wpList Tryz.prog ops Q rest (a.put o1.dst (.slice ad m c)) w) : AtCut Tryz.prog ops Q o1 t x y rest a w :=
  wpList_step fun _ hK => by
    rw [if_pos hw]
    unfold Oper.wp execOp
    simp only [ho, hx, hy, Option.map_none, Option.map_some, Sem.run_bind, run_cut hte hi had hm, Result.andThen_ok, Sem.run_pure]
    exact hK _ _ h
end
theorem flatG_take {α : Type} {enc : α → List Value} (xs : List α) (m j : Nat) (u : Value) (h : (flatG enc (xs.take m))[j]? = some u) : (flatG enc xs)[j]? = some u := by
  have e : flatG enc xs = flatG enc (xs.take m) ++ flatG enc (xs.drop m) := by
    have : flatG enc (xs.take m ++ xs.drop m) = flatG enc (xs.take m) ++ flatG enc (xs.drop m) := List.flatMap_append
    rwa [List.take_append_drop] at this
  rw [e, List.getElem?_append_left (getElem_len h)]
  exact h
theorem rowsA_front {α : Type} {enc : α → List Value} {e : TypeId} {k n c : Nat} {ad : Option Addr} {xs : List α} {w : World} (h : (rowsA enc e k (.slice ad n c) xs).ho w) (hk : ∀ x, (enc x).length = k) {m : Nat} (hm : m ≤ xs.length) : m ≤ c ∧ ∃ P, RowIn P enc k (.slice ad m c) (xs.take m) ∧ (poolA P).ho w := by
  have hl : (xs.take m).length = m := by simp; omega
  by_cases h0 : 0 < xs.length
  · obtain ⟨g, c', e1, hc, hmx⟩ := rowsA_cases h h0
    injection e1 with e1 e2 e3
    subst e1 e2 e3
    refine ⟨by omega, [(g, 0, flatG enc (xs.take m))], ⟨_, c, by rw [hl], by rw [hl]; omega, fun _ => ⟨g, 0, rfl, by simp⟩⟩, ?_⟩
    rw [poolA_ho]
    intro x hx
    simp only [List.mem_singleton] at hx
    subst hx
    refine ⟨(rowsA enc e k _ xs).lt w h g (by rw [rowsA_fp']; simp [Value.ownBlock]), fun j u hj => ?_⟩
    rw [rowsA_ho] at h
    have h1 := World.ownsRow.cells h (g := g) rfl j u (flatG_take xs m j u hj)
    rwa [Addr.add_mid] at h1
  · have hm0 : m = 0 := by omega
    subst hm0
    refine ⟨Nat.zero_le _, [], ⟨ad, c, by simp, by simp, fun hx => by simp at hx⟩, poolA_nil w⟩
theorem text_c {S : Sto} (hS : S.Ok) {vr vl : Value} {id : Nat} (hid : id ≤ S.list.length) (w : World) (h : (refA vr vl S.list).ho w) :
    Calls Tryz.prog 25 #[.agg #[vr, vl], .int .i64 id, .int .i64 300] w (ExpPost (S.txt id) w) := by
  have H := St.nil w []
  obtain ⟨h1, _⟩ := refA_ks h
  obtain ⟨ad, c, rfl, _⟩ := rowsA_shape h1
  have had := rowsA_ad h1
  obtain ⟨hmc, P, hrow, hp⟩ := rowsA_front h1 encR_len hid
  have HK := Ks.one hp
  have HX : Hid (∀ w, (poolA P).ho w → Calls Tryz.prog 56 #[.slice ad id c, .int .i64 300] w fun e w' => ((S.txt id).length ≤ 300 ∧ ∃ v, e = .returned (.tuple #[v, .bool true]) ∧ St w [] [rowsA enc8 5 1 v (S.txt id)] w') ∨ (¬ (S.txt id).length ≤ 300 ∧ e = .returned (.tuple #[.slice none 0 0, .bool false]) ∧ St w [] [] w')) := Lib.hid fun w h => expand_c hS hrow hid w h
  have HA := Lib.hid had
  clear h h1 hrow hp had
  unfold ExpPost
  generalize S.txt id = t at *
  go_enter Tryz.func25, Tryz.ntmps25
  go_wp2_with (first | refine sL ?_ | (refine sB ?_; clear H; intro _ _ H) | ((with_reducible refine isCut ?_); refine AtCut.any rfl rfl rfl rfl rfl rfl HA.out hmc ?_; simp only [Act.put, puA, puB, puC]))
  with_reducible refine Calls.mono (HX.out _ (H.known HK pk)) ?_
  rintro e wc (⟨hl, v, rfl, hb⟩ | ⟨hl, rfl, hb⟩)
  · replace H := H.call0 hb
    clear hb
    simp only [List.cons_append, List.nil_append] at H
    go_wp2_with (first | refine sL ?_ | (refine sB ?_; clear H; intro _ _ H))
    go_ret2
    exact .inl ⟨hl, v, rfl, H.onlyHead⟩
  · replace H := H.grew hb.below
    clear hb
    go_wp2_with (first | refine sL ?_ | (refine sB ?_; clear H; intro _ _ H))
    go_ret2
    exact .inr ⟨hl, rfl, H.nix⟩
abbrev PlainPost (l hs : List Nat) (w : World) (e : Ending) (w' : World) : Prop :=
  (l.length ≤ 300 ∧ ∃ v, e = .returned (.tuple #[v, .bool true]) ∧ St w [] [rowsA encI 3 1 v hs] w') ∨ (¬ l.length ≤ 300 ∧ e = .returned (.tuple #[.slice none 0 0, .bool false]) ∧ St w [] [] w')
theorem plain_c {P : PoolT} {cv nv av hv lv : Value} {rvs : List Value} {R : Raw} {c : Nat} {ms : List Mk} {N : Int} (h : RawAt P cv nv av hv rvs R) (hR : R.Snd c) (hms : RowIn P mkL 5 lv ms) (hf : ∀ m ∈ ms, m.Fits) (hl : ms.length ≤ 100) {id : Nat} (hid : id ≤ (stoOf ms).list.length) (w : World) (hp : (poolA P).ho w) :
    Calls Tryz.prog 7 #[.agg #[.int .i64 R.start, cv, nv, av, hv, lv, .int .i64 N], .int .i64 id] w (PlainPost ((stoOf ms).txt id) (R.mc.hits R.mc.start ((stoOf ms).txt id)) w) := by
  have H := St.nil w []
  have HK := Ks.one hp
  obtain ⟨hok, _⟩ := idOf_le hf 0
  obtain ⟨hmac, hhit⟩ := h.mac hR
  have hst : ((R.mc.start : Nat) : Int) = R.start := by simp [Raw.mc, Int.toNat_of_nonneg hR.s0]
  have HBU : Hid (∀ w, (poolA P).ho w → Calls Tryz.prog 24 #[lv] w fun e w' => ∃ vr vl rv, e = .returned (.tuple #[.agg #[vr, vl], rv]) ∧ St w [] [refA vr vl (stoOf ms).list, rowsA encI 32 1 rv (idsOf ms)] w') := Lib.hid fun w h => rbuild_c 1000 (by omega) (by omega) hf w h hms
  have HT : Hid (∀ vr vl w, (refA vr vl (stoOf ms).list).ho w → Calls Tryz.prog 25 #[.agg #[vr, vl], .int .i64 id, .int .i64 300] w fun e w' => (((stoOf ms).txt id).length ≤ 300 ∧ ∃ v, e = .returned (.tuple #[v, .bool true]) ∧ St w [] [rowsA enc8 5 1 v ((stoOf ms).txt id)] w') ∨ (¬ ((stoOf ms).txt id).length ≤ 300 ∧ e = .returned (.tuple #[.slice none 0 0, .bool false]) ∧ St w [] [] w')) := Lib.hid fun vr vl w h => text_c hok hid w h
  have HH : Hid (∀ tv w, ((stoOf ms).txt id).length ≤ 300 → (poolA P).ho w → (rowsA enc8 5 1 tv ((stoOf ms).txt id)).ho w → Calls Tryz.prog 26 #[.agg #[.int .i64 R.start, cv, nv, av], hv, tv] w fun e w' => ∃ v, e = .returned v ∧ St w [] [rowsA encI 3 1 v (R.mc.hits R.mc.start ((stoOf ms).txt id))] w') := Lib.hid fun tv w hlen hp hr => by
    obtain ⟨Q, hrow, hq, _⟩ := rowsA_pool hr enc8_len
    have := hits_c hR.ok (hmac.mono (Q := P ++ Q) (by simp +contextual)) (hhit.mono (Q := P ++ Q) (by simp +contextual)) (fun b hb => Sto.txt_lt hok hid b hb) hlen (hrow.mono (Q := P ++ Q) (by simp +contextual)) w (poolA_append hp hq)
    rw [hst] at this
    exact this
  obtain ⟨a1, c1, rfl, hm1⟩ := h.cls.shape
  obtain ⟨a2, c2, rfl, hm2⟩ := h.next.shape
  obtain ⟨a3, c3, rfl, hm3⟩ := h.acc.shape
  obtain ⟨a4, c4, rfl, hm4⟩ := h.wts.shape
  obtain ⟨a5, c5, rfl, hm5⟩ := hms.shape
  clear h hms hf hp hok hmac hhit hst hm1 hm2 hm3 hm4 hm5 hid hR
  generalize (R.mc.hits R.mc.start ((stoOf ms).txt id)) = hs at *
  generalize (stoOf ms).txt id = t at *
  generalize stoOf ms = S at *
  generalize idsOf ms = ids at *
  go_enter Tryz.func7, Tryz.ntmps7
  go_wp2_with (first | refine sL ?_ | (refine sS ?_; clear H; intro _ H) | (refine sB ?_; clear H; intro _ _ H) | (refine sA ?_; clear H; intro _ _ H) | (go_at_call 24; with_reducible refine Calls.mono (HBU.out _ (H.known HK pk)) ?_; rintro e wc ⟨vr, vl, rv, rfl, hb⟩; obtain ⟨aa, ca, ab, cb, rfl, rfl⟩ := refA_shape (hb.get (A := refA vr vl S.list) pk); replace H := H.call0 hb; clear hb; simp only [List.cons_append, List.nil_append] at H))
  with_reducible refine Calls.mono (HT.out _ _ _ (H.get (A := refA (.slice aa S.list.length ca) (.slice ab S.list.length cb) S.list) pk)) ?_
  rintro e wc (⟨hl, v, rfl, hb⟩ | ⟨hl, rfl, hb⟩)
  · replace H := H.call0 hb
    clear hb
    simp only [List.cons_append, List.nil_append] at H
    obtain ⟨at1, ct1, rfl, _⟩ := rowsA_shape (H.get (A := rowsA enc8 5 1 v t) pk)
    go_wp2_with (first | refine sL ?_ | (refine sS ?_; clear H; intro _ H) | (refine sB ?_; clear H; intro _ _ H) | (refine sA ?_; clear H; intro _ _ H) | (go_at_call 26; with_reducible refine Calls.mono (HH.out _ _ hl (H.known HK pk) (H.get (A := rowsA enc8 5 1 (.slice at1 t.length ct1) t) pk)) ?_; rintro e wc ⟨vh, rfl, hb⟩; replace H := H.call0 hb; clear hb; simp only [List.cons_append, List.nil_append] at H))
    go_ret2
    exact .inl ⟨hl, _, rfl, H.onlyHead⟩
  · replace H := H.grew hb.below
    clear hb
    go_wp2_with (first | refine sL ?_ | (refine sS ?_; clear H; intro _ H) | (refine sB ?_; clear H; intro _ _ H) | (refine sA ?_; clear H; intro _ _ H))
    go_ret2
    exact .inr ⟨hl, rfl, H.nix⟩
end Go.Proofs.YtijnhpaafhcndaaGreat
end
section
namespace Go.Proofs.YtijnhpaafhcndaaGreat
open Go.RowKit Go.Maps
attribute [local go_sem] InGr
set_option maxHeartbeats 4000000
set_option maxRecDepth 100000
set_option linter.unusedSimpArgs false
set_option linter.unusedVariables false
structure TK (S : Sto) (p s : Nat) (mc : Mc) (bk : Bool) (T : Tab) : Prop where
  ok : TabOk S T
  p : T.p = p
  s : T.s = s
  mc : T.mc = mc
  bk : T.back = bk
theorem TK.ext {S : Sto} {p s : Nat} {mc : Mc} {bk : Bool} {T T' : Tab} (h : TK S p s mc bk T) (hx : T.Ext T') (hT : TabOk S T') : TK S p s mc bk T' := by
  obtain ⟨x1, x2, x3, x4, x5, x6⟩ := hx.same
  exact ⟨hT, x1.trans h.p, x2.trans h.s, x5.trans h.mc, x6.trans h.bk⟩
abbrev TPost (S : Sto) (p s : Nat) (mc : Mc) (bk : Bool) (v : Value) (w : World) (M : List Nat) (e : Ending) (w' : World) : Prop := ∃ T, e = .returned v ∧ TK S p s mc bk T ∧ St w M [tabA T] w'
def TC (S : Sto) (lv : Value) (m p s : Nat) (mc : Mc) (bk : Bool) (f : FuncId) (args : Array Value) (v : Value) : Prop :=
  ∀ T w, TK S p s mc bk T → ((tabA T).sep (stoA s lv m S)).ho w → Calls Tryz.prog f args w (TPost S p s mc bk v w (tabA T).fp)
def TQ (S : Sto) (lv : Value) (m p s : Nat) (mc : Mc) (bk : Bool) (f : FuncId) (args : Array Value) (v : Value) : Prop :=
  ∀ T w, TK S p s mc bk T → (tabA T).ho w → (stoA s lv m S).ho w → Calls Tryz.prog f args w fun e w' => e = .returned v ∧ St w [] [] w'
section
variable {S : Sto} {lv : Value} {m p s : Nat} {mc : Mc} {bk : Bool} {f : FuncId} {args : Array Value} {v : Value} {T : Tab} {w w0 : World} {M : List Nat} {L R K : List As}
theorem TC.mk (k : ∀ T w M, Hid (TK S p s mc bk T) → St w M [tabA T] w → Ks w M [stoA s lv m S] → Calls Tryz.prog f args w (TPost S p s mc bk v w M)) : TC S lv m p s mc bk f args v := fun T w hT h => by
  rw [sep_ho] at h
  obtain ⟨h1, h2, hd⟩ := h
  exact k T w _ (Lib.hid hT) (St.one h1) ⟨by simpa using h2, by simpa using fun b hb hm => hd b hm hb⟩
theorem TC.of (k : ∀ T w, TK S p s mc bk T → ((tabA T).sep (stoA T.s lv m S)).ho w → Calls Tryz.prog f args w (TabPost S T v (tabA T).fp w)) : TC S lv m p s mc bk f args v := fun T w hT h => by
  refine (k T w hT (by rw [hT.s]; exact h)).mono ?_
  rintro e w' ⟨T', he, hx, hT', hs⟩
  exact ⟨T', he, hT.ext hx hT', hs⟩
theorem TC.use (hc : TC S lv m p s mc bk f args v) (hT : TK S p s mc bk T) (H : St w0 M L w) (hp : Pick L (tabA T) R) (hs : ((tabA T).sep (stoA s lv m S)).ho w) {Q : Ending → World → Prop} (k : ∀ T' w', Hid (TK S p s mc bk T') → St w0 M (tabA T' :: R) w' → Q (.returned v) w') : Calls Tryz.prog f args w Q := by
  refine (hc T w hT hs).mono ?_
  rintro e w' ⟨T', rfl, hT', hst⟩
  exact k T' w' (Lib.hid hT') (by simpa using (H.pick hp).call hst)
theorem TQ.use (hc : TQ S lv m p s mc bk f args v) (hT : TK S p s mc bk T) (H : St w0 M L w) (hp : Pick L (tabA T) R) (hs : ((tabA T).sep (stoA s lv m S)).ho w) {Q : Ending → World → Prop} (k : ∀ w', St w0 M L w' → Q (.returned v) w') : Calls Tryz.prog f args w Q := by
  rw [sep_ho] at hs
  refine (hc T w hT hs.1 hs.2.1).mono ?_
  rintro e w' ⟨rfl, hst⟩
  exact k w' (H.grew hst.below)
theorem St.sepO {A B : As} {R R' : List As} (h : St w0 M L w) (h1 : Pick L A R) (h2 : Pick R B R') : (A.sep B).ho w := by
  have := (h.pick2 h1 h2).join
  exact this.ho _ List.mem_cons_self
end
theorem ts {P : Prop} (h : P := by first | exact H.sepK HK pk pk | exact H.sepO pk pk) : P := h
def Sto.dtx (S : Sto) (bk : Bool) (id : Nat) : List Nat := dirT bk (S.txt id)
theorem dtx_lt {S : Sto} (hS : S.Ok) (bk : Bool) {id : Nat} (hid : id ≤ S.list.length) : ∀ b ∈ S.dtx bk id, b < 256 := fun b hb => S.txt_lt hS hid b (by unfold Sto.dtx dirT at hb; split at hb; simpa using hb; exact hb)
theorem dtx_len (S : Sto) (bk : Bool) (id : Nat) : (S.dtx bk id).length = (S.txt id).length := by unfold Sto.dtx dirT; split <;> simp
section
variable {S : Sto} {lv : Value} {m p s : Nat} {mc : Mc} {bk : Bool} {id q : Nat}
theorem send_t (hS : S.Ok) (hid : id ≤ S.list.length) (hq : q < mc.n) : TC S lv m p s mc bk 46 #[.pointer (some ⟨p, 0, none⟩), .int .i64 id, .int .i64 q] (.int .i64 (mc.ends q (S.dtx bk id) : Nat)) :=
  TC.of fun T w hT h => by
    obtain ⟨ok, rfl, rfl, rfl, rfl⟩ := hT
    exact send_c hS ok hid hq w h
theorem ssize_t (hS : S.Ok) (hid : id ≤ S.list.length) : TQ S lv m p s mc bk 37 #[.pointer (some ⟨p, 0, none⟩), .int .i64 id] (.int .i64 ((S.txt id).length : Nat)) := fun T w hT h1 h2 => by
  obtain ⟨ok, rfl, rfl, rfl, rfl⟩ := hT
  exact ssize_c hS ok hid w h1 h2
theorem store_t : TQ S lv m p s mc bk 12 #[.pointer (some ⟨p, 0, none⟩)] (.pointer (some ⟨s, 0, none⟩)) := fun T w hT h1 h2 => by
  obtain ⟨ok, rfl, rfl, rfl, rfl⟩ := hT
  refine (store_c ok w h1).mono ?_
  rintro e w' ⟨he, rfl⟩
  exact ⟨he, St.nil _ _⟩
def hitsV (x : Nat) : Value := if x ≤ 1152921504606846976 then .tuple #[.int .i64 x, .nilIface] else .tuple #[.int .i64 0, .iface 42 (.int .i64 2)]
theorem hits_t (hS : S.Ok) (hid : id ≤ S.list.length) (hq : q < mc.n) : TC S lv m p s mc bk 58 #[.pointer (some ⟨p, 0, none⟩), .int .i64 id, .int .i64 q] (hitsV (mc.sum q (S.dtx bk id))) := by
  refine TC.mk fun T w M HT H HK => ?_
  have hTK := HT.out
  obtain ⟨hok, rfl, rfl, rfl, rfl⟩ := hTK
  have HE : Hid (∀ w, ((tabA T).sep (stoA T.s lv m S)).ho w → Calls Tryz.prog 86 #[.pointer (some ⟨T.p, 0, none⟩), .int .i64 id, .int .i64 q] w (fun e w' => ∃ T' a1 n1 c1 a2 n2 c2, e = .returned (.tuple #[.agg #[.slice a1 n1 c1, .slice a2 n2 c2], .nilIface]) ∧ T.Ext T' ∧ TabOk S T' ∧ (id ≠ 0 → EffAt T'.P T.mc (dirT T.back (S.txt id)) (.slice a1 n1 c1) (.slice a2 n2 c2)) ∧ St w (tabA T).fp [tabA T'] w')) := Lib.hid fun w h => effect_c hS hok hid hq w h
  unfold Sto.dtx
  by_cases hz : id = 0
  · have e0 : T.mc.sum q (dirT T.back (S.txt id)) = 0 := by subst hz; rw [S.txt_zero]; unfold dirT; split <;> rfl
    rw [e0]
    have hz0 : ((id : Int) == 0) = true := by simp [hz]
    clear hok hz e0
    go_enter Tryz.func58, Tryz.ntmps58
    go_wp2_with (first | refine sL ?_ | (refine sS ?_; clear H; intro _ H) | (refine sA ?_; clear H; intro _ _ H) | (go_at_call 86; with_reducible refine Calls.mono (HE.out _ ts) ?_; rintro e wc ⟨T', a1, n1, c1, a2, n2, c2, rfl, hext, hT', hef, hb⟩; replace H := H.call hb; clear hb; simp only [List.cons_append, List.nil_append] at H; have HX := Lib.hid (HT.out.ext hext hT'); clear hext hT' hef))
    go_ret2
    exact ⟨T', by unfold hitsV; rfl, HX.out, (H.pick (A := tabA T') pk).onlyHead⟩
  · have hz0 : ((id : Int) == 0) = false := by simp; omega
    have hget := effH_get hq (dirT T.back (S.txt id))
    have HG := Lib.hid hget
    have HZ := Lib.hid hz
    have hle := capN_le (T.mc.sum q (dirT T.back (S.txt id)))
    unfold beyond at hle
    have hcap : hitsV (T.mc.sum q (dirT T.back (S.txt id))) = hitsV (capN (T.mc.sum q (dirT T.back (S.txt id)))) := by
      unfold hitsV capN beyond
      split
      · rw [if_pos (by omega)]; congr 4; omega
      · rw [if_neg (by omega)]
    rw [hcap]
    generalize capN (T.mc.sum q (dirT T.back (S.txt id))) = r at *
    clear hok hz hget hcap
    by_cases hr : r ≤ 1152921504606846976
    · have d1 : decide ((1152921504606846976 : Int) < (r : Int)) = false := by simp; omega
      unfold hitsV
      rw [if_pos hr]
      clear hr
      go_enter Tryz.func58, Tryz.ntmps58
      go_wp2_with (first | refine sL ?_ | (refine sS ?_; clear H; intro _ H) | (refine sA ?_; clear H; intro _ _ H) | (go_at_call 86; with_reducible refine Calls.mono (HE.out _ ts) ?_; rintro e wc ⟨T', a1, n1, c1, a2, n2, c2, rfl, hext, hT', hef, hb⟩; replace H := H.call hb; clear hb; simp only [List.cons_append, List.nil_append] at H; have HX := Lib.hid (HT.out.ext hext hT'); obtain ⟨g1, o1, d1', he1, hrow⟩ := (EffAt.rowH (hef HZ.out)).hasN (effH_len _ _) (Nat.lt_of_le_of_lt (Nat.zero_le _) hq); injection he1 with x1 x2 x3; subst x1 x2 x3; have HROW := Lib.hid hrow; clear hrow; clear hext hT' hef) | ((with_reducible refine isLoad ?_); refine AtLoad.cel rfl rfl rfl rfl (HROW.out.cell (tabA_pool (H.get (A := tabA T') pk)) encI_len HG.out rfl) ?_; simp only [Act.put, puA, puB, puC]))
      go_ret2
      exact ⟨T', rfl, HX.out, (H.pick (A := tabA T') pk).onlyHead⟩
    · have d1 : decide ((1152921504606846976 : Int) < (r : Int)) = true := by simp; omega
      unfold hitsV
      rw [if_neg hr]
      clear hr
      go_enter Tryz.func58, Tryz.ntmps58
      go_wp2_with (first | refine sL ?_ | (refine sS ?_; clear H; intro _ H) | (refine sA ?_; clear H; intro _ _ H) | (go_at_call 86; with_reducible refine Calls.mono (HE.out _ ts) ?_; rintro e wc ⟨T', a1, n1, c1, a2, n2, c2, rfl, hext, hT', hef, hb⟩; replace H := H.call hb; clear hb; simp only [List.cons_append, List.nil_append] at H; have HX := Lib.hid (HT.out.ext hext hT'); obtain ⟨g1, o1, d1', he1, hrow⟩ := (EffAt.rowH (hef HZ.out)).hasN (effH_len _ _) (Nat.lt_of_le_of_lt (Nat.zero_le _) hq); injection he1 with x1 x2 x3; subst x1 x2 x3; have HROW := Lib.hid hrow; clear hrow; clear hext hT' hef) | ((with_reducible refine isLoad ?_); refine AtLoad.cel rfl rfl rfl rfl (HROW.out.cell (tabA_pool (H.get (A := tabA T') pk)) encI_len HG.out rfl) ?_; simp only [Act.put, puA, puB, puC]))
      go_ret2
      exact ⟨T', rfl, HX.out, (H.pick (A := tabA T') pk).onlyHead⟩
end
end Go.Proofs.YtijnhpaafhcndaaGreat
end
section
namespace Go.Proofs.YtijnhpaafhcndaaGreat
set_option linter.unusedSimpArgs false
set_option linter.unusedVariables false
def hitF : List Nat → Nat
  | [] => 0
  | x :: r => if 0 < x then 1 else if hitF r = 0 then 0 else hitF r + 1
def hitL : List Nat → Nat
  | [] => 0
  | x :: r => if hitL r = 0 then (if 0 < x then 1 else 0) else hitL r + 1
namespace Mc
def fst (m : Mc) (q : Nat) (l : List Nat) : Nat := hitF (m.hits q l)
def lst (m : Mc) (q : Nat) (l : List Nat) : Nat := hitL (m.hits q l)
variable {m : Mc}
end Mc
theorem Orb.none {f : Nat → Nat} {q times tail : Nat} {xs : List Nat} {h : Nat → Bool} (o : Orb f q times xs tail) (h0 : ∀ c, c < xs.length → h (itr f c q) = false) : ∀ c, c < times → h (itr f c q) = false := fun c hc => by
  rcases Nat.lt_or_ge c xs.length with hl | hl
  · exact h0 c hl
  · obtain ⟨h1, h2, h3⟩ := o.at_high (by omega) (by omega : c ≤ times)
    have hj := getElem_len h3
    have := o.at_low hj
    rw [h3] at this
    injection this with this
    rw [this]
    exact h0 _ hj
end Go.Proofs.YtijnhpaafhcndaaGreat
end
section
namespace Go.Proofs.YtijnhpaafhcndaaGreat
open Go.RowKit Go.Maps
attribute [local go_sem] InGr
set_option maxHeartbeats 4000000
set_option maxRecDepth 100000
set_option linter.unusedSimpArgs false
set_option linter.unusedVariables false
def Sto.stp (S : Sto) (mc : Mc) (bk : Bool) (id : Nat) : Nat → Nat := fun q => mc.ends q (S.dtx bk id)
theorem stp_lt {S : Sto} {mc : Mc} {c : Nat} (ok : mc.Ok c) (hS : S.Ok) (bk : Bool) {id : Nat} (hid : id ≤ S.list.length) : ∀ q, q < mc.n → S.stp mc bk id q < mc.n := fun q hq => ok.ends_lt hq (dtx_lt hS bk hid)
theorem TK.mok {S : Sto} {p s : Nat} {mc : Mc} {bk : Bool} {T : Tab} (h : TK S p s mc bk T) : ∃ c, mc.Ok c := by
  obtain ⟨c, ok⟩ := h.ok.ok
  exact ⟨c, h.mc ▸ ok⟩
end Go.Proofs.YtijnhpaafhcndaaGreat
end
section
namespace Go.Proofs.YtijnhpaafhcndaaGreat
open Go.RowKit Go.Maps
attribute [local go_sem] InGr
set_option maxHeartbeats 4000000
set_option maxRecDepth 100000
set_option linter.unusedSimpArgs false
set_option linter.unusedVariables false
section
variable {S : Sto} {lv : Value} {m p s : Nat} {mc : Mc} {bk : Bool}
theorem rule_t {i : Nat} {x : En} {kd lt lf rt tm : Nat} (hx : S.list[i]? = some x) (he : ruleL x.r = [.int .i64 (kd : Nat), .int .u8 (lt : Nat), .int .i64 (lf : Nat), .int .i64 (rt : Nat), .int .i64 (tm : Nat)]) : TQ S lv m p s mc bk 45 #[.pointer (some ⟨s, 0, none⟩), .int .i64 ((i : Int) + 1)] (.tuple #[.agg #[.int .i64 (kd : Nat), .int .u8 (lt : Nat), .int .i64 (lf : Nat), .int .i64 (rt : Nat), .int .i64 (tm : Nat)], .nilIface]) := fun T w hT h1 h2 => by
  have := rule_c hx ((i : Int) + 1) rfl w h2
  have e : (.agg #[.int .i64 x.r.kind, .int .u8 x.r.letter, .int .i64 x.r.left, .int .i64 x.r.right, .int .i64 x.r.times] : Value) = .agg #[.int .i64 (kd : Nat), .int .u8 (lt : Nat), .int .i64 (lf : Nat), .int .i64 (rt : Nat), .int .i64 (tm : Nat)] := congrArg (fun l => Value.agg l.toArray) he
  rw [← e]
  exact this
theorem send_s {i q : Nat} (hS : S.Ok) (hi : i < S.list.length) (hq : q < mc.n) : TC S lv m p s mc bk 46 #[.pointer (some ⟨p, 0, none⟩), .int .i64 ((i : Int) + 1), .int .i64 q] (.int .i64 (mc.ends q (S.dtx bk (i + 1)) : Nat)) := send_t hS hi hq
theorem ssize_s {i : Nat} (hS : S.Ok) (hi : i < S.list.length) : TQ S lv m p s mc bk 37 #[.pointer (some ⟨p, 0, none⟩), .int .i64 ((i : Int) + 1)] (.int .i64 ((S.txt (i + 1)).length : Nat)) := ssize_t hS (id := i + 1) hi
end
inductive DCase (S : Sto) (bk : Bool) (i : Nat) : Nat → Nat → Nat → Nat → Nat → Prop
  | letter (b : Nat) (hb : b < 256) (h : S.dtx bk (i + 1) = [b]) : DCase S bk i 1 b 0 0 0
  | pair (l r a b : Nat) (hl : l + 1 ≤ S.list.length) (hr : r + 1 ≤ S.list.length) (ha : a < i) (hb : b < i) (hv : (bk = false ∧ a = l ∧ b = r) ∨ (bk = true ∧ a = r ∧ b = l)) (h : S.dtx bk (i + 1) = S.dtx bk (a + 1) ++ S.dtx bk (b + 1)) : DCase S bk i 2 0 (l + 1) (r + 1) 0
  | power (l k : Nat) (hl : l < i) (hk : 2 ≤ k) (hm : k ≤ 1152921504606846976) (h : S.dtx bk (i + 1) = rep k (S.dtx bk (l + 1))) : DCase S bk i 3 0 (l + 1) 0 k
theorem dcase {S : Sto} (hS : S.Ok) (bk : Bool) {i : Nat} (hi : i < S.list.length) : ∃ x kd lt lf rt tm, S.list[i]? = some x ∧ ruleL x.r = [.int .i64 (kd : Nat), .int .u8 (lt : Nat), .int .i64 (lf : Nat), .int .i64 (rt : Nat), .int .i64 (tm : Nat)] ∧ DCase S bk i kd lt lf rt tm := by
  obtain ⟨x, hx⟩ : ∃ x, S.list[i]? = some x := ⟨S.list[i], by simp⟩
  have hent := hS.ents i x hx
  cases hent with
  | letter b hb => exact ⟨_, 1, b, 0, 0, 0, hx, rfl, .letter b hb (by unfold Sto.dtx; rw [S.txt_letter hx, dirT_one])⟩
  | pair l r y y2 hl1 hr1 hy1 hy2 hle =>
    refine ⟨_, 2, 0, l + 1, r + 1, 0, hx, rfl, ?_⟩
    cases bk with
    | false => exact .pair l r l r (by omega) (by omega) hl1 hr1 (.inl ⟨rfl, rfl, rfl⟩) (by unfold Sto.dtx; rw [S.txt_pair hl1 hr1 hx]; rfl)
    | true => exact .pair l r r l (by omega) (by omega) hr1 hl1 (.inr ⟨rfl, rfl, rfl⟩) (by unfold Sto.dtx dirT; rw [S.txt_pair hl1 hr1 hx]; simp)
  | power l k y hl1 hy1 hk hle => exact ⟨_, 3, 0, l + 1, 0, k, hx, rfl, .power l k hl1 hk (power_le hS (tid := l + 1) hx) (by unfold Sto.dtx; rw [S.txt_power hl1 hx, dirT_rep])⟩
end Go.Proofs.YtijnhpaafhcndaaGreat
end
section
namespace Go.Proofs.YtijnhpaafhcndaaGreat
open Go.RowKit Go.Maps
attribute [local go_sem] InGr
set_option maxHeartbeats 4000000
set_option maxRecDepth 100000
set_option linter.unusedSimpArgs false
set_option linter.unusedVariables false
def TX (X : As) (S : Sto) (lv : Value) (m p s : Nat) (mc : Mc) (bk : Bool) (f : FuncId) (args : Array Value) (v : Value) : Prop :=
  ∀ T w, TK S p s mc bk T → ((tabA T).sep (stoA s lv m S)).ho w → ((tabA T).sep X).ho w → Calls Tryz.prog f args w (TPost S p s mc bk v w (tabA T).fp)
section
variable {X : As} {S : Sto} {lv : Value} {m p s : Nat} {mc : Mc} {bk : Bool} {f : FuncId} {args : Array Value} {v : Value} {T : Tab} {w w0 : World} {M : List Nat} {L R K : List As}
theorem TX.mk (k : ∀ T w M, Hid (TK S p s mc bk T) → St w M [tabA T] w → Ks w M [stoA s lv m S, X] → Calls Tryz.prog f args w (TPost S p s mc bk v w M)) : TX X S lv m p s mc bk f args v := fun T w hT h hX => by
  rw [sep_ho] at h hX
  obtain ⟨h1, h2, hd⟩ := h
  obtain ⟨_, h3, hd3⟩ := hX
  exact k T w _ (Lib.hid hT) (St.one h1) ⟨by simp [h2, h3], by simpa using ⟨fun b hb hm => hd b hm hb, fun b hb hm => hd3 b hm hb⟩⟩
theorem TX.use (hc : TX X S lv m p s mc bk f args v) (hT : TK S p s mc bk T) (H : St w0 M L w) (hp : Pick L (tabA T) R) (hs : ((tabA T).sep (stoA s lv m S)).ho w) (hX : ((tabA T).sep X).ho w) {Q : Ending → World → Prop} (k : ∀ T' w', Hid (TK S p s mc bk T') → St w0 M (tabA T' :: R) w' → Q (.returned v) w') : Calls Tryz.prog f args w Q := by
  refine (hc T w hT hs hX).mono ?_
  rintro e w' ⟨T', rfl, hT', hst⟩
  exact k T' w' (Lib.hid hT') (by simpa using (H.pick hp).call hst)
end
abbrev ptsA (ad : Option Addr) (c : Nat) (lp : List Pt) : As := rowsA encT 137 3 (.slice ad lp.length c) lp
def TP (S : Sto) (lv : Value) (m p s : Nat) (mc : Mc) (bk : Bool) (f : FuncId) (args : Array Value) (l : List Nat) : Prop :=
  ∀ T w, TK S p s mc bk T → ((tabA T).sep (stoA s lv m S)).ho w → Calls Tryz.prog f args w fun e w' => ∃ ad c lp, e = .returned (.slice ad lp.length c) ∧ runP S bk lp = l ∧ (∀ t ∈ lp, PtOk S (fun _ => True) t) ∧ St w [] [ptsA ad c lp] w'
section
variable {S : Sto} {lv : Value} {m p s : Nat} {mc : Mc} {bk : Bool} {f : FuncId} {args : Array Value} {l : List Nat} {T : Tab} {w w0 : World} {M : List Nat} {L R K : List As}
theorem TP.use (hc : TP S lv m p s mc bk f args l) (hT : TK S p s mc bk T) (H : St w0 M L w) (hs : ((tabA T).sep (stoA s lv m S)).ho w) {Q : Ending → World → Prop} (k : ∀ ad c lp w', Hid (runP S bk lp = l ∧ ∀ t ∈ lp, PtOk S (fun _ => True) t) → St w0 M (ptsA ad c lp :: L) w' → Q (.returned (.slice ad lp.length c)) w') : Calls Tryz.prog f args w Q := by
  refine (hc T w hT hs).mono ?_
  rintro e w' ⟨ad, c, lp, rfl, h1, h2, hst⟩
  exact k ad c lp w' (Lib.hid ⟨h1, h2⟩) (by simpa using H.call0 hst)
end
end Go.Proofs.YtijnhpaafhcndaaGreat
end
section
namespace Go.Proofs.YtijnhpaafhcndaaGreat
open Go.RowKit Go.Maps
attribute [local go_sem] InGr
set_option maxHeartbeats 4000000
set_option maxRecDepth 100000
set_option linter.unusedSimpArgs false
set_option linter.unusedVariables false
section
variable {S : Sto} {lv : Value} {m p s : Nat} {mc : Mc} {bk : Bool} {T : Tab} {w w0 : World} {M : List Nat} {L R : List As}
def TO (S : Sto) (lv : Value) (m p s : Nat) (mc : Mc) (bk : Bool) (f : FuncId) (args : Array Value) (g : Nat → Nat) (q times : Nat) : Prop :=
  ∀ T w, TK S p s mc bk T → ((tabA T).sep (stoA s lv m S)).ho w → Calls Tryz.prog f args w fun e w' => ∃ T' ad c xs tail, e = .returned (.agg #[.slice ad xs.length c, .int .i64 (tail : Nat)]) ∧ Orb g q times xs tail ∧ TK S p s mc bk T' ∧ St w (tabA T).fp [tabA T', rowsA encI 3 1 (.slice ad xs.length c) xs] w'
theorem TO.use {f : FuncId} {args : Array Value} {g : Nat → Nat} {q times : Nat} (hc : TO S lv m p s mc bk f args g q times) (hT : TK S p s mc bk T) (H : St w0 M L w) (hp : Pick L (tabA T) R) (hs : ((tabA T).sep (stoA s lv m S)).ho w) {Q : Ending → World → Prop} (k : ∀ T' ad c xs tail w', Hid (TK S p s mc bk T') → Hid (Orb g q times xs tail) → St w0 M (tabA T' :: rowsA encI 3 1 (.slice ad xs.length c) xs :: R) w' → Q (.returned (.agg #[.slice ad xs.length c, .int .i64 (tail : Nat)])) w') : Calls Tryz.prog f args w Q := by
  refine (hc T w hT hs).mono ?_
  rintro e w' ⟨T', ad, c, xs, tail, rfl, ho, hT', hst⟩
  exact k T' ad c xs tail w' (Lib.hid hT') (Lib.hid ho) (by simpa using (H.pick hp).call hst)
end
end Go.Proofs.YtijnhpaafhcndaaGreat
end
section
namespace Go.Proofs.YtijnhpaafhcndaaGreat
open Go.RowKit Go.Maps
attribute [local go_sem] InGr
set_option maxHeartbeats 4000000
set_option maxRecDepth 100000
set_option linter.unusedSimpArgs false
set_option linter.unusedVariables false
end Go.Proofs.YtijnhpaafhcndaaGreat
end
section
namespace Go.Proofs.YtijnhpaafhcndaaGreat
open Go.RowKit Go.Maps
attribute [local go_sem] InGr
set_option maxHeartbeats 8000000
set_option maxRecDepth 100000
set_option linter.unusedSimpArgs false
set_option linter.unusedVariables false
theorem TQ.at {S : Sto} {lv : Value} {m p s : Nat} {mc : Mc} {bk : Bool} {f : FuncId} {args : Array Value} {v : Value} {T : Tab} {w : World} (hc : TQ S lv m p s mc bk f args v) (hT : TK S p s mc bk T) (h1 : (tabA T).ho w) (h2 : (stoA s lv m S).ho w) : Calls Tryz.prog f args w fun e w' => e = .returned v ∧ St w [] [] w' := hc T w hT h1 h2
end Go.Proofs.YtijnhpaafhcndaaGreat
end
section
namespace Go.Proofs.YtijnhpaafhcndaaGreat
open Go.RowKit Go.Maps
attribute [local go_sem] InGr
set_option maxHeartbeats 8000000
set_option maxRecDepth 100000
set_option linter.unusedSimpArgs false
set_option linter.unusedVariables false
section
variable {S : Sto} {lv : Value} {m p s : Nat} {mc : Mc} {bk : Bool} {T : Tab} {w w0 : World} {M : List Nat} {L R : List As}
theorem check_t {id : Nat} (hid : id ≤ S.list.length) : TQ S lv m p s mc false 27 #[.pointer (some ⟨p, 0, none⟩), .int .i64 id] .nilIface := fun T w hT h1 h2 => by
  obtain ⟨ok, rfl, rfl, rfl, hb⟩ := hT
  refine (lcheck_c ok hb hid w h1 h2).mono ?_
  rintro e w' ⟨he, rfl⟩
  exact ⟨he, St.nil _ _⟩
theorem machine_use (hT : TK S p s mc bk T) (H : St w0 M L w) (hp : Pick L (tabA T) R) {Q : Ending → World → Prop} (k : ∀ g1 o1 c1 g2 o2 c2 g3 o3 c3 w', St w0 M L w' → Q (.returned (.agg #[.int .i64 mc.start, .slice (some ⟨g1, o1, none⟩) 256 c1, .slice (some ⟨g2, o2, none⟩) mc.n c2, .slice (some ⟨g3, o3, none⟩) mc.n c3])) w') : Calls Tryz.prog 29 #[.pointer (some ⟨p, 0, none⟩)] w Q := by
  obtain ⟨ok, rfl, rfl, rfl, rfl⟩ := hT
  obtain ⟨cm, okm⟩ := ok.ok
  refine Calls.mono (machine_c ok w (H.get hp)) ?_
  rintro e w' ⟨cv, nv, av, rvs, P, rfl, hm, hs⟩
  obtain ⟨g1, o1, c1, rfl, _⟩ := hm.cls.hasN okm.cls (by omega)
  obtain ⟨g2, o2, c2, rfl, _⟩ := hm.next.hasN hm.len okm.n1
  obtain ⟨g3, o3, c3, rfl, _⟩ := hm.acc.hasN okm.acc okm.n1
  exact k _ _ _ _ _ _ _ _ _ _ (H.grew hs.below)
end
theorem TQ.use1 {S : Sto} {lv : Value} {m p s : Nat} {mc : Mc} {bk : Bool} {f : FuncId} {args : Array Value} {v : Value} {T : Tab} {w w0 : World} {M : List Nat} {L : List As} (hc : TQ S lv m p s mc bk f args v) (hT : TK S p s mc bk T) (H : St w0 M L w) (h1 : (tabA T).ho w) (h2 : (stoA s lv m S).ho w) {Q : Ending → World → Prop} (k : ∀ w', St w0 M L w' → Q (.returned v) w') : Calls Tryz.prog f args w Q := by
  refine (hc T w hT h1 h2).mono ?_
  rintro e w' ⟨rfl, hst⟩
  exact k w' (H.grew hst.below)
def Sto.nx (S : Sto) (mc : Mc) (id a : Nat) : Nat := mc.fst (mc.ends mc.start ((S.txt id).take a)) ((S.txt id).drop a)
def Sto.pv (S : Sto) (mc : Mc) (id a : Nat) : Nat := mc.lst mc.start ((S.txt id).take a)
section
variable {S : Sto} {lv : Value} {m p s : Nat} {mc : Mc} {id a : Nat}
def pvV (x : Nat) : Value := if x = 0 then .tuple #[.int .i64 0, .iface 42 (.int .i64 5)] else .tuple #[.int .i64 (x : Nat), .nilIface]
end
end Go.Proofs.YtijnhpaafhcndaaGreat
end
section
namespace Go.Proofs.YtijnhpaafhcndaaGreat
open Go.RowKit Go.Maps Go.Extern.Stop Go.Stop Go.Extern
set_option maxHeartbeats 4000000
set_option maxRecDepth 100000
set_option linter.unusedSimpArgs false
set_option linter.unusedVariables false
theorem isIfaceE : Tryz.prog.underlying 38 = some (.interface #[(("Error"), 206)]) := by kernel_rfl
theorem errno_info : (Tryz.prog.info? 42).map (·.comparable) = some true := by kernel_rfl
theorem typeOf_errno (v : Value) (w : World) : (Extern.ReflectliteType.typeOf #[.iface 42 v]).run Tryz.prog w = .ok (.iface 191 (.agg #[.pointer (some ⟨0, 42, none⟩)])) w := by kernel_rfl
theorem comparable_errno (w : World) : ((Extern.ReflectliteType.method fun t => do Extern.Rtype.noPackHeld "Comparable" t; (fun a => Value.bool a.comparable) <$> typeInfo t) #[.agg #[.pointer (some ⟨0, 42, none⟩)]]).run Tryz.prog w = .ok (.bool true) w := by kernel_rfl
theorem method_comparable (n : Nat) (v : Value) (w : World) : (Go.method (n + 10) 191 v "Comparable").run Tryz.prog w = .ok (126, v) w := by kernel_rfl
theorem eis_nil (b : Int) (w : World) : Calls Tryz.prog 59 #[.nilIface, .iface 42 (.int .i64 b)] w fun e w' => e = .returned (.bool false) ∧ w' = w := by
  have hn := run_eql_iface_nil_left (P := Tryz.prog) w 42 (.int .i64 b) isIfaceE
  go_enter Tryz.func59, Tryz.ntmps59
  go_wp2
  go_ret
  exact ⟨rfl, rfl⟩
theorem eis_same (b : Int) (w : World) : Calls Tryz.prog 59 #[.iface 42 (.int .i64 b), .iface 42 (.int .i64 b)] w fun e w' => e = .returned (.bool true) ∧ w' = w := by
  have h8 := @run_callFunc_extern Tryz.prog 87 _ Extern.ReflectliteType.typeOf Tryz.func87 (by kernel_rfl) (by kernel_rfl) (by kernel_rfl) (by kernel_rfl)
  have h32 := @run_callFunc_extern Tryz.prog 126 _ (Extern.ReflectliteType.method fun t => do Extern.Rtype.noPackHeld "Comparable" t; pure (.bool (← typeInfo t).comparable)) Tryz.func126 (by kernel_rfl) (by kernel_rfl) (by kernel_rfl) (by kernel_rfl)
  have tT := typeOf_errno
  have cT := comparable_errno
  have mR := method_comparable
  have heq := Lib.run_eql_iface_int (P := Tryz.prog) w (k := .i64) b b isIfaceE errno_info errno_under
  go_enter Tryz.func59, Tryz.ntmps59
  go_wp2
  refine wp_loop_rounds 1 ?_
  rw [rounds_succ]
  go_wp2
  go_ret
  exact ⟨rfl, rfl⟩
end Go.Proofs.YtijnhpaafhcndaaGreat
end
section
namespace Go.Proofs.YtijnhpaafhcndaaGreat
set_option linter.unusedSimpArgs false
set_option linter.unusedVariables false
def hitN : List Nat → Nat → Nat
  | [], _ => 0
  | x :: r, n => if n < x then 1 else if hitN r (n - x) = 0 then 0 else hitN r (n - x) + 1
theorem hitN_zero : ∀ (l : List Nat) (n : Nat), hitN l n = 0 ↔ l.sum ≤ n
  | [], n => by simp [hitN]
  | x :: r, n => by
    have ih := hitN_zero r (n - x)
    rw [hitN, List.sum_cons]
    by_cases hx : n < x
    · rw [if_pos hx]; omega
    · rw [if_neg hx]
      split <;> omega
theorem hitN_le : ∀ (l : List Nat) (n : Nat), hitN l n ≤ l.length
  | [], n => by simp [hitN]
  | x :: r, n => by
    have ih := hitN_le r (n - x)
    rw [hitN, List.length_cons]
    split
    · omega
    · split <;> omega
theorem hitN_append : ∀ (a b : List Nat) (n : Nat), hitN (a ++ b) n = if n < a.sum then hitN a n else if hitN b (n - a.sum) = 0 then 0 else a.length + hitN b (n - a.sum)
  | [], b, n => by simp [hitN]
  | x :: a, b, n => by
    have ih := hitN_append a b (n - x)
    have hz := hitN_zero a (n - x)
    rw [List.cons_append, hitN, hitN, ih, List.sum_cons, List.length_cons]
    by_cases hx : n < x
    · have h2 : n < x + a.sum := by omega
      simp only [hx, h2, if_true]
    · by_cases ha : n - x < a.sum
      · have h2 : n < x + a.sum := by omega
        simp only [hx, ha, h2, if_true, if_false]
      · have h2 : ¬ n < x + a.sum := by omega
        have h3 : n - x - a.sum = n - (x + a.sum) := by omega
        rw [h3]
        simp only [hx, ha, h2, if_false]
        by_cases hb : hitN b (n - (x + a.sum)) = 0
        · simp [hb]
        · have h4 : ¬ (a.length + hitN b (n - (x + a.sum)) = 0) := by omega
          simp only [hb, h4, if_false]
          omega
theorem hitN_at : ∀ {l : List Nat} {n k : Nat}, hitN l n = k + 1 → (l.take k).sum ≤ n ∧ n < (l.take (k + 1)).sum ∧ k < l.length
  | [], n, k, h => by simp [hitN] at h
  | x :: r, n, k, h => by
    rw [hitN] at h
    by_cases hx : n < x
    · rw [if_pos hx] at h
      obtain rfl : k = 0 := by omega
      simp; omega
    · rw [if_neg hx] at h
      by_cases hr : hitN r (n - x) = 0
      · rw [if_pos hr] at h; cases h
      · rw [if_neg hr] at h
        obtain ⟨k', rfl⟩ : ∃ k', k = k' + 1 := ⟨k - 1, by omega⟩
        obtain ⟨h1, h2, h3⟩ := hitN_at (l := r) (n := n - x) (k := k') (by omega)
        refine ⟨?_, ?_, by simp; omega⟩
        · rw [List.take_succ_cons, List.sum_cons]; omega
        · rw [List.take_succ_cons, List.sum_cons]; omega
def pS (f g : Nat → Nat) : Nat → Nat → Nat
  | 0, _ => 0
  | c + 1, q => pS f g c q + g (itr f c q)
section
variable {f g : Nat → Nat}
theorem pS_add (a b q : Nat) : pS f g (a + b) q = pS f g a q + pS f g b (itr f a q) := by
  induction b with
  | zero => rfl
  | succ b ih => rw [← Nat.add_assoc, pS, ih, pS, itr_add]; omega
theorem pS_one (q : Nat) : pS f g 1 q = g q := by simp [pS, itr]
theorem pS_cons (c q : Nat) : pS f g (c + 1) q = g q + pS f g c (f q) := by
  rw [Nat.add_comm, pS_add, pS_one]
  rfl
theorem pS_mono {a b : Nat} (h : a ≤ b) (q : Nat) : pS f g a q ≤ pS f g b q := by
  obtain ⟨d, rfl⟩ : ∃ d, b = a + d := ⟨b - a, by omega⟩
  rw [pS_add]; omega
theorem pS_lap {P q : Nat} (h : itr f P q = q) (k : Nat) : pS f g (k * P) q = k * pS f g P q := by
  induction k with
  | zero => simp [pS]
  | succ k ih =>
    have hi : itr f (k * P) q = q := by
      clear ih
      induction k with
      | zero => simp [itr]
      | succ k ih => rw [Nat.succ_mul, itr_add, ih, h]
    rw [Nat.succ_mul, pS_add, ih, hi, Nat.succ_mul]
theorem pS_lap2 {a P q : Nat} (h : itr f (a + P) q = itr f a q) (k : Nat) : pS f g (a + P + k * P) q = pS f g (a + P) q + k * (pS f g (a + P) q - pS f g a q) ∧ itr f (a + P + k * P) q = itr f a q := by
  have hq : itr f P (itr f a q) = itr f a q := by rw [← itr_add]; exact h
  have h1 : pS f g (a + P) q - pS f g a q = pS f g P (itr f a q) := by rw [pS_add]; omega
  constructor
  · rw [pS_add (a + P) (k * P), h, pS_lap hq, h1]
  · rw [itr_add, h]
    have : ∀ k, itr f (k * P) (itr f a q) = itr f a q := fun k => by
      induction k with
      | zero => simp [itr]
      | succ k ih => rw [Nat.succ_mul, itr_add, ih, hq]
    exact this k
theorem nk_ex {n q : Nat} : ∀ {k : Nat}, n < pS f g k q → ∃ c, c < k ∧ pS f g c q ≤ n ∧ n < pS f g (c + 1) q
  | 0, h => by simp [pS] at h
  | k + 1, h => by
    rcases Nat.lt_or_ge n (pS f g k q) with h1 | h1
    · obtain ⟨c, a, b⟩ := nk_ex h1
      exact ⟨c, by omega, b⟩
    · exact ⟨k, by omega, h1, h⟩
end
def nkC (f g : Nat → Nat) : Nat → Nat → Nat → Nat
  | 0, _, _ => 0
  | k + 1, q, n => if n < g q then 0 else nkC f g k (f q) (n - g q) + 1
section
variable {f g : Nat → Nat}
theorem nkC_eq : ∀ {c k q n : Nat}, pS f g c q ≤ n → n < pS f g (c + 1) q → c < k → nkC f g k q n = c
  | _, 0, _, _, _, _, hk => by omega
  | 0, k + 1, q, n, h1, h2, _ => by
    rw [pS_one] at h2
    rw [nkC, if_pos h2]
  | c + 1, k + 1, q, n, h1, h2, hk => by
    rw [pS_cons] at h1 h2
    rw [nkC, if_neg (by omega), nkC_eq (c := c) (by omega) (by omega) (by omega)]
end
namespace Mc
variable {m : Mc}
def nth (m : Mc) (q : Nat) (l : List Nat) (n : Nat) : Nat := hitN (m.hits q l) n
theorem nth_zero (q : Nat) (l : List Nat) (n : Nat) : m.nth q l n = 0 ↔ m.sum q l ≤ n := by rw [nth, hitN_zero, hits_sum]
theorem nth_le (q : Nat) (l : List Nat) (n : Nat) : m.nth q l n ≤ l.length := by have := hitN_le (m.hits q l) n; rwa [hits_len] at this
theorem nth_append (q : Nat) (a b : List Nat) (n : Nat) : m.nth q (a ++ b) n = if n < m.sum q a then m.nth q a n else if m.sum (m.ends q a) b ≤ n - m.sum q a then 0 else a.length + m.nth (m.ends q a) b (n - m.sum q a) := by
  have h1 := nth_zero (m := m) (m.ends q a) b (n - m.sum q a)
  unfold nth at *
  rw [hits_append, hitN_append, hits_len, hits_sum]
  split
  · rfl
  · by_cases h : hitN (m.hits (m.ends q a) b) (n - m.sum q a) = 0
    · rw [if_pos h, if_pos (h1.1 h)]
    · rw [if_neg h, if_neg fun x => h (h1.2 x)]
theorem sum_copies (q : Nat) (l : List Nat) (k : Nat) : m.sum q (rep k l) = pS (fun q => m.ends q l) (fun q => m.sum q l) k q := by
  induction k with
  | zero => rw [rep_zero]; rfl
  | succ k ih => rw [rep_add, rep_one, sum_append, ih, ends_rep, pS]
theorem nth_rep {q k c n : Nat} {l : List Nat} (hc : c < k) (h1 : pS (fun q => m.ends q l) (fun q => m.sum q l) c q ≤ n) (h2 : n < pS (fun q => m.ends q l) (fun q => m.sum q l) (c + 1) q) :
    m.nth q (rep k l) n = c * l.length + m.nth (itr (fun q => m.ends q l) c q) l (n - pS (fun q => m.ends q l) (fun q => m.sum q l) c q) := by
  obtain ⟨d, rfl⟩ : ∃ d, k = c + (1 + d) := ⟨k - c - 1, by omega⟩
  rw [pS] at h2
  rw [rep_add, rep_add, rep_one, nth_append, sum_copies, if_neg (by omega), ends_rep, sum_append, if_neg (by omega), nth_append, if_pos (by omega), rep_len]
end Mc
end Go.Proofs.YtijnhpaafhcndaaGreat
end
section
namespace Go.Proofs.YtijnhpaafhcndaaGreat
open Go.RowKit Go.Maps
attribute [local go_sem] InGr
set_option maxHeartbeats 8000000
set_option maxRecDepth 100000
set_option linter.unusedSimpArgs false
set_option linter.unusedVariables false
def Sto.gs (S : Sto) (mc : Mc) (bk : Bool) (id : Nat) : Nat → Nat := fun q => mc.sum q (S.dtx bk id)
theorem hits_i {S : Sto} {lv : Value} {m p s : Nat} {mc : Mc} {bk : Bool} {id q x : Nat} (hS : S.Ok) (hid : id ≤ S.list.length) (hq : q < mc.n) (hx : S.gs mc bk id q = x) (hle : x ≤ 1152921504606846976) : TC S lv m p s mc bk 58 #[.pointer (some ⟨p, 0, none⟩), .int .i64 id, .int .i64 q] (.tuple #[.int .i64 (x : Nat), .nilIface]) := by
  have := hits_t (lv := lv) (m := m) (p := p) (s := s) (bk := bk) hS hid hq
  unfold Sto.gs at hx
  rw [hx] at this
  unfold hitsV at this
  rw [if_pos hle] at this
  exact this
theorem above_t {S : Sto} {lv : Value} {m p s : Nat} {mc : Mc} {bk : Bool} {id q n : Nat} (hS : S.Ok) (hid : id ≤ S.list.length) (hq : q < mc.n) (hn : n ≤ 1152921504606846976) : TC S lv m p s mc bk 30 #[.pointer (some ⟨p, 0, none⟩), .int .i64 id, .int .i64 q, .int .i64 n] (.bool (decide (n < S.gs mc bk id q))) := by
  refine TC.mk fun T w M HT H HK => ?_
  have HI := Lib.hid (hits_t (lv := lv) (m := m) (p := p) (s := s) (bk := bk) hS hid hq)
  unfold Sto.gs
  generalize mc.sum q (S.dtx bk id) = x at *
  unfold hitsV at HI
  have HEN := Lib.hid (fun w => eis_nil 2 w)
  have HES := Lib.hid (fun w => eis_same 2 w)
  by_cases hx : x ≤ 1152921504606846976
  · rw [if_pos hx] at HI
    by_cases hnx : n < x
    · have d1 : decide ((n : Int) < (x : Int)) = true := by simp; omega
      have d2 : decide (n < x) = true := by simpa using hnx
      rw [d2]
      clear hnx
      go_enter Tryz.func30, Tryz.ntmps30
      go_wp2_with (first | (go_at_call 58; with_reducible refine TC.use (HI.out) HT.out H pk ts ?_; clear H; intro T' _ HT H))
      go_ret
      exact ⟨T', rfl, HT.out, H⟩
    · have d1 : decide ((n : Int) < (x : Int)) = false := by simp; omega
      have d2 : decide (n < x) = false := by simpa using hnx
      rw [d2]
      clear hnx
      go_enter Tryz.func30, Tryz.ntmps30
      go_wp2_with (first | (go_at_call 58; with_reducible refine TC.use (HI.out) HT.out H pk ts ?_; clear H; intro T' _ HT H) | (go_at_call 59; with_reducible refine same (HEN.out _) ?_))
      go_ret
      exact ⟨T', rfl, HT.out, H⟩
  · rw [if_neg hx] at HI
    have d2 : decide (n < x) = true := by simp; omega
    have d1 : decide ((n : Int) < 0) = false := by simp
    rw [d2]
    clear d2 hx
    go_enter Tryz.func30, Tryz.ntmps30
    go_wp2_with (first | (go_at_call 58; with_reducible refine TC.use (HI.out) HT.out H pk ts ?_; clear H; intro T' _ HT H) | (go_at_call 59; with_reducible refine same (HES.out _) ?_))
    go_ret
    exact ⟨T', rfl, HT.out, H⟩
section
variable {f g : Nat → Nat}
theorem pS_cnt {n q times i : Nat} (h : n < pS f g times q) (hi : pS f g i q ≤ n) : i < times := by
  rcases Nat.lt_or_ge i times with h1 | h1
  · exact h1
  · have := pS_mono (f := f) (g := g) h1 q
    omega
theorem pS_cyc {n q times a P : Nat} (h : n < pS f g times q) (hi : pS f g (a + P) q ≤ n) (hP : 0 < P) (he : itr f (a + P) q = itr f a q) : 0 < pS f g (a + P) q - pS f g a q := by
  refine Nat.pos_of_ne_zero fun hz => ?_
  have h1 := pS_cnt h hi
  have h2 := (pS_lap2 (f := f) (g := g) he times).1
  rw [hz, Nat.mul_zero, Nat.add_zero] at h2
  have h3 := pS_mono (f := f) (g := g) (show times ≤ a + P + times * P from by
    have := Nat.le_mul_of_pos_right times hP
    omega) q
  omega
theorem pS_jump {n q times a P H n1 : Nat} (h : n < pS f g times q) (hi : pS f g (a + P) q ≤ n) (hn1 : n1 = n - pS f g (a + P) q) (he : itr f (a + P) q = itr f a q) (hH : H = pS f g (a + P) q - pS f g a q) (hH0 : 0 < H) :
    pS f g (a + P + n1 / H * P) q ≤ n ∧ n - pS f g (a + P + n1 / H * P) q = n1 % H ∧ itr f (a + P + n1 / H * P) q = itr f (a + P) q ∧ a + P + n1 / H * P < times := by
  obtain ⟨h1, h2⟩ := pS_lap2 (f := f) (g := g) he (n1 / H)
  rw [← hH] at h1
  have h3 := Nat.div_add_mod n1 H
  rw [Nat.mul_comm] at h3
  have h4 : pS f g (a + P + n1 / H * P) q ≤ n := by omega
  exact ⟨h4, by omega, by rw [h2, he], pS_cnt h h4⟩
end
theorem rowsA_zeros {w : World} {b n : Nat} {t : TypeId} (hb : w.heap[b]? = some (.cells (Array.replicate n (.int .i64 0)) t)) (hn : n ≤ maxLen) : (rowsA encI t 1 (.slice (some ⟨b, 0, none⟩) n n) (List.replicate n 0)).ho w := by
  have := rowsA_of_blk (enc := encI) (k := 1) (xs := List.replicate n 0) hb (by rw [List.length_replicate]; exact hn) (by
    rw [Array.toList_replicate]
    have : ∀ n, List.replicate n (Value.int .i64 0) = flatG encI (List.replicate n 0) := fun n => by
      induction n with
      | zero => rfl
      | succ n ih => rw [List.replicate_succ, List.replicate_succ, ih]; rfl
    exact this n) encI_len
  rwa [List.length_replicate] at this
abbrev rulC (l : Nat) (times : Nat) : Array Value := #[.int .i64 3, .int .u8 0, .int .i64 ((l : Int) + 1), .int .i64 0, .int .i64 (times : Nat)]
def NcRel (S : Sto) (p s : Nat) (mc : Mc) (bk : Bool) (l q0 n0 times b5 b11 b12 : Nat) (M : List Nat) (w : World) (k : Nat) (v2 v3 v13 : Value) (wr : World) : Prop :=
  ∃ T xs sn bf, v2 = .int .i64 (itr (S.stp mc bk (l + 1)) xs.length q0 : Nat) ∧ v3 = .int .i64 (n0 - pS (S.stp mc bk (l + 1)) (S.gs mc bk (l + 1)) xs.length q0 : Nat) ∧ v13 = .int .i64 (xs.length : Nat) ∧ pS (S.stp mc bk (l + 1)) (S.gs mc bk (l + 1)) xs.length q0 ≤ n0 ∧ k = sn.count 0 ∧ Way (S.stp mc bk (l + 1)) q0 xs sn ∧ bf.length = 257 ∧ (∀ c, c ≤ xs.length → bf[c]? = some (pS (S.stp mc bk (l + 1)) (S.gs mc bk (l + 1)) c q0)) ∧ TK S p s mc bk T ∧
    St w M [tabA T, rowsA enc16 154 1 (.slice (some ⟨b11, 0, none⟩) 256 256) sn, rowsA encI 173 1 (.slice (some ⟨b12, 0, none⟩) 257 257) bf, blk b5 (.cells (rulC l times) 110)] wr
def NdRel (S : Sto) (p s : Nat) (mc : Mc) (bk : Bool) (l q0 n0 times b5 : Nat) (M : List Nat) (w : World) (v2 v3 v13 : Value) (wr : World) : Prop :=
  ∃ T i, v2 = .int .i64 (itr (S.stp mc bk (l + 1)) i q0 : Nat) ∧ v3 = .int .i64 (n0 - pS (S.stp mc bk (l + 1)) (S.gs mc bk (l + 1)) i q0 : Nat) ∧ v13 = .int .i64 (i : Nat) ∧ pS (S.stp mc bk (l + 1)) (S.gs mc bk (l + 1)) i q0 ≤ n0 ∧ TK S p s mc bk T ∧
    St w M [tabA T, blk b5 (.cells (rulC l times) 110)] wr
section
variable {S : Sto} {lv : Value} {m p s : Nat} {mc : Mc} {bk : Bool}
theorem above_s {i q n : Nat} (hS : S.Ok) (hi : i < S.list.length) (hq : q < mc.n) (hn : n ≤ 1152921504606846976) {b : Bool} (hb : decide (n < S.gs mc bk (i + 1) q) = b) : TC S lv m p s mc bk 30 #[.pointer (some ⟨p, 0, none⟩), .int .i64 ((i : Int) + 1), .int .i64 q, .int .i64 n] (.bool b) := by
  rw [← hb]
  exact above_t hS (id := i + 1) hi hq hn
theorem hits_s {i q x : Nat} (hS : S.Ok) (hi : i < S.list.length) (hq : q < mc.n) (hx : S.gs mc bk (i + 1) q = x) (hle : x ≤ 1152921504606846976) : TC S lv m p s mc bk 58 #[.pointer (some ⟨p, 0, none⟩), .int .i64 ((i : Int) + 1), .int .i64 q] (.tuple #[.int .i64 (x : Nat), .nilIface]) := hits_i hS (id := i + 1) hi hq hx hle
theorem end_s {i q q' : Nat} (hS : S.Ok) (hi : i < S.list.length) (hq : q < mc.n) (hx : S.stp mc bk (i + 1) q = q') : TC S lv m p s mc bk 46 #[.pointer (some ⟨p, 0, none⟩), .int .i64 ((i : Int) + 1), .int .i64 q] (.int .i64 (q' : Nat)) := by
  rw [← hx]
  exact send_t hS (id := i + 1) hi hq
end
theorem nthCopy_t {S : Sto} {lv : Value} {m p s : Nat} {mc : Mc} {bk : Bool} {l q n times : Nat} (hS : S.Ok) (hid : l < S.list.length) (hq : q < mc.n) (ht : times ≤ 1152921504606846976) (hn : n ≤ 1152921504606846976) (hs : n < pS (S.stp mc bk (l + 1)) (S.gs mc bk (l + 1)) times q) :
    TC S lv m p s mc bk 60 #[.pointer (some ⟨p, 0, none⟩), .agg (rulC l times), .int .i64 q, .int .i64 n] (.tuple #[.int .i64 (nkC (S.stp mc bk (l + 1)) (S.gs mc bk (l + 1)) times q n : Nat), .int .i64 (itr (S.stp mc bk (l + 1)) (nkC (S.stp mc bk (l + 1)) (S.gs mc bk (l + 1)) times q n) q : Nat), .int .i64 (n - pS (S.stp mc bk (l + 1)) (S.gs mc bk (l + 1)) (nkC (S.stp mc bk (l + 1)) (S.gs mc bk (l + 1)) times q n) q : Nat)]) := by
  refine TC.mk fun T w M HT H HK => ?_
  obtain ⟨cm, ok⟩ := HT.out.mok
  have hn256 := ok.n256
  have HLT : Hid (∀ k, itr (S.stp mc bk (l + 1)) k q < mc.n) := Lib.hid fun k => itr_lt (stp_lt ok hS bk hid) hq
  have HS := Lib.hid (And.intro hS hid)
  have HSUM := Lib.hid hs
  clear ok hS hid hs hq
  go_enter Tryz.func60, Tryz.ntmps60
  go_wp2_with (first | refine sL ?_ | (refine sB ?_; clear H; intro b5 _ H) | ((with_reducible refine isAlloc (t := 154) ?_); refine AtAlloc.goT H rfl rfl rfl rfl ?_; simp only [Act.put, puA, puB, puC]; clear H; intro b11 _ H) | ((with_reducible refine isAlloc (t := 173) ?_); refine AtAlloc.goT H rfl rfl rfl rfl ?_; simp only [Act.put, puA, puB, puC]; clear H; intro b12 _ H))
  replace H := H.pick (A := blk b11 (.cells (Array.replicate 256 (.int .i16 0)) 154)) pk
  replace H := H.conv (A' := rowsA enc16 154 1 (.slice (some ⟨b11, 0, none⟩) 256 256) (List.replicate 256 0)) (by rw [rowsA_fp', blk_fp]; rfl) fun hb => by
    rw [blk_ho] at hb
    have := rowsA_of_blk (enc := enc16) (k := 1) (xs := List.replicate 256 0) hb (by rw [List.length_replicate]; simp [maxLen]) (by rw [flat_zeros]; simp) enc16_len
    rwa [List.length_replicate] at this
  replace H := H.pick (A := blk b12 (.cells (Array.replicate 257 (.int .i64 0)) 173)) pk
  replace H := H.conv (A' := rowsA encI 173 1 (.slice (some ⟨b12, 0, none⟩) 257 257) (List.replicate 257 0)) (by rw [rowsA_fp', blk_fp]; rfl) fun hb => by
    rw [blk_ho] at hb
    exact rowsA_zeros hb (by simp [maxLen])
  go_loopg [2, 3, 13] 256 (fun k v2 v3 v13 wr => NcRel S p s mc bk l q n times b5 b11 b12 M w k v2 v3 v13 wr)
  case atStart => exact ⟨T, [], List.replicate 256 0, List.replicate 257 0, rfl, rfl, rfl, Nat.zero_le _, by rw [List.count_replicate_self], Way.start _ _, List.length_replicate, fun c hc => by
    have hc0 : c = 0 := Nat.le_zero.1 hc
    subst hc0
    rfl, HT.out, H.only4 (A := tabA T) (B := rowsA enc16 154 1 (.slice (some ⟨b11, 0, none⟩) 256 256) (List.replicate 256 0)) (C := rowsA encI 173 1 (.slice (some ⟨b12, 0, none⟩) 257 257) (List.replicate 257 0)) (D := blk b5 (.cells (rulC l times) 110)) pk pk pk pk⟩
  case round =>
    clear H HT
    obtain ⟨T, xs, sn, bf, rfl, rfl, rfl, hpi, hk, hway, hbl, hbf, hT, H⟩ := hrel
    have HT := Lib.hid hT
    have hxl := hway.len
    have hq1 := HLT.out xs.length
    have HWAY := Lib.hid hway
    have HK0 := Lib.hid hk
    have HBF := Lib.hid hbf
    have HPI := Lib.hid hpi
    have hlt : xs.length < times := pS_cnt HSUM.out hpi
    have hnx : pS (S.stp mc bk (l + 1)) (S.gs mc bk (l + 1)) (xs.length + 1) q = pS (S.stp mc bk (l + 1)) (S.gs mc bk (l + 1)) xs.length q + (S.gs mc bk (l + 1)) (itr (S.stp mc bk (l + 1)) xs.length q) := rfl
    have hsx : itr (S.stp mc bk (l + 1)) (xs.length + 1) q = (S.stp mc bk (l + 1)) (itr (S.stp mc bk (l + 1)) xs.length q) := itr_succ _ _ _
    clear hway hT hk hbf
    by_cases hab : n - pS (S.stp mc bk (l + 1)) (S.gs mc bk (l + 1)) xs.length q < (S.gs mc bk (l + 1)) (itr (S.stp mc bk (l + 1)) xs.length q)
    · have hnk := nkC_eq (k := times) hpi (by omega) hlt
      have HAB := Lib.hid (above_s (lv := lv) (m := m) (p := p) (s := s) (bk := bk) HS.out.1 HS.out.2 hq1 (n := n - pS (S.stp mc bk (l + 1)) (S.gs mc bk (l + 1)) xs.length q) (by omega) (decide_eq_true hab))
      rw [hnk]
      generalize n - pS (S.stp mc bk (l + 1)) (S.gs mc bk (l + 1)) xs.length q = n1 at *
      generalize itr (S.stp mc bk (l + 1)) xs.length q = q1 at *
      clear hnk hab hpi hnx hsx
      go_wp2_with (first | refine sL ?_ | (refine sS ?_; clear H; intro _ H) | (refine sB ?_; clear H; intro _ _ H) | (refine sA ?_; clear H; intro _ _ H) | (go_at_call 30; with_reducible refine TC.use (HAB.out) HT.out H pk ts ?_; clear H; intro T' _ HT H))
      go_ret3
      exact ⟨T', rfl, HT.out, (H.pick (A := tabA T') pk).onlyHead⟩
    · have HAB := Lib.hid (above_s (lv := lv) (m := m) (p := p) (s := s) (bk := bk) HS.out.1 HS.out.2 hq1 (n := n - pS (S.stp mc bk (l + 1)) (S.gs mc bk (l + 1)) xs.length q) (by omega) (decide_eq_false hab))
      obtain ⟨v, hv⟩ : ∃ v, sn[itr (S.stp mc bk (l + 1)) xs.length q]? = some v := ⟨_, List.getElem?_eq_getElem (by rw [HWAY.out.size]; omega)⟩
      have HV := Lib.hid hv
      have HBI := Lib.hid (HBF.out xs.length (Nat.le_refl _))
      clear hv
      rcases Nat.eq_zero_or_pos v with h0 | h0
      · subst h0
        have hple : pS (S.stp mc bk (l + 1)) (S.gs mc bk (l + 1)) (xs.length + 1) q ≤ n := by omega
        have HHI := Lib.hid (hits_s (lv := lv) (m := m) (p := p) (s := s) (bk := bk) HS.out.1 HS.out.2 hq1 rfl (show (S.gs mc bk (l + 1)) (itr (S.stp mc bk (l + 1)) xs.length q) ≤ 1152921504606846976 by omega))
        have HEN := Lib.hid (end_s (lv := lv) (m := m) (p := p) (s := s) (bk := bk) HS.out.1 HS.out.2 hq1 hsx.symm)
        obtain ⟨hw2, hc2⟩ := HWAY.out.next rfl (by omega) HV.out
        have hn2 : n - pS (S.stp mc bk (l + 1)) (S.gs mc bk (l + 1)) (xs.length + 1) q = n - pS (S.stp mc bk (l + 1)) (S.gs mc bk (l + 1)) xs.length q - (S.gs mc bk (l + 1)) (itr (S.stp mc bk (l + 1)) xs.length q) := by omega
        have HW2 := Lib.hid hw2
        have HC2 := Lib.hid hc2
        have HN2 := Lib.hid hn2
        have HNX := Lib.hid hnx
        have HPL := Lib.hid hple
        have hx257 : xs.length < 256 := by
          have h1 := HWAY.out.next rfl (by omega) HV.out
          have h2 := h1.1.len
          simp at h2
          omega
        have hgl := Nat.not_lt.1 hab
        clear hw2 hc2 hn2 hsx
        generalize hgq : (S.gs mc bk (l + 1)) (itr (S.stp mc bk (l + 1)) xs.length q) = gq at *
        generalize hq2 : itr (S.stp mc bk (l + 1)) (xs.length + 1) q = q2 at *
        generalize hqq : itr (S.stp mc bk (l + 1)) xs.length q = q1 at *
        generalize hpi2 : pS (S.stp mc bk (l + 1)) (S.gs mc bk (l + 1)) xs.length q = pi at *
        have HQ2 := Lib.hid hq2
        have HPI2 := Lib.hid hpi2
        clear hgq hq2 hqq hpi2 hnx hab
        have i1 : ((n - pi : Nat) : Int) - gq = ((n - pi - gq : Nat) : Int) := by omega
        have hb1 : n - pi ≤ 1152921504606846976 := by omega
        have hb2 : pi + gq ≤ 1152921504606846976 := by omega
        generalize n - pi = n1 at *
        go_wp2_with (first | refine sL ?_ | (refine sS ?_; clear H; intro _ H) | (refine sB ?_; clear H; intro _ _ H) | (refine sA ?_; clear H; intro _ _ H) | (go_at_call 30; with_reducible refine TC.use (HAB.out) HT.out H pk ts ?_; clear H; intro T' _ HT H) | (go_at_call 58; with_reducible refine TC.use (HHI.out) HT.out H pk ts ?_; clear H; intro T' _ HT H) | (go_at_call 46; with_reducible refine TC.use (HEN.out) HT.out H pk ts ?_; clear H; intro T' _ HT H) | ((with_reducible refine isLoad ?_); refine AtLoad.cel rfl rfl rfl rfl (rowsA_cell1 (H.get (A := rowsA enc16 154 1 (.slice (some ⟨b11, 0, none⟩) 256 256) sn) pk) enc16_len HV.out rfl) ?_; simp only [Act.put, puA, puB, puC]) | ((with_reducible refine isLoad ?_); refine AtLoad.cel rfl rfl rfl rfl (rowsA_cell1 (H.get (A := rowsA encI 173 1 (.slice (some ⟨b12, 0, none⟩) 257 257) bf) pk) encI_len HBI.out rfl) ?_; simp only [Act.put, puA, puB, puC]) | ((with_reducible refine isStore ?_); refine AtStore.rowA (enc := enc16) (n := 256) (c := 256) H rfl rfl rfl rfl rfl rfl pk (xs.length + 1) (by first | rfl | (simp only [enc16]; go_num)) enc16_len ?bd ?_; (case bd => rw [HWAY.out.size]; omega); clear H; intro _ H; simp only [Act.put, puA, puB, puC]) | ((with_reducible refine isStore ?_); refine AtStore.rowA (enc := encI) (n := 257) (c := 257) (i := xs.length + 1) H rfl rfl rfl rfl rfl rfl pk (pi + gq) (by first | rfl | (simp only [encI]; go_num)) encI_len ?be ?_; (case be => omega); clear H; intro _ H; simp only [Act.put, puA, puB, puC]))
        have hl1 : (xs ++ [q1]).length = xs.length + 1 := by simp
        go_roundg ((sn.set q1 (xs.length + 1)).count 0)
        case measure => rw [HK0.out]; exact HC2.out
        case rel =>
          refine ⟨T', xs ++ [q1], sn.set q1 (xs.length + 1), bf.set (xs.length + 1) (pi + gq), by rw [hl1, HQ2.out], by rw [hl1, HN2.out], by rw [hl1]; go_num, by rw [hl1]; exact HPL.out, rfl, HW2.out, by rw [List.length_set]; exact hbl, fun c hc => ?_, HT.out, H.only4 (A := tabA T') (B := rowsA enc16 154 1 (.slice (some ⟨b11, 0, none⟩) 256 256) (sn.set q1 (xs.length + 1))) (C := rowsA encI 173 1 (.slice (some ⟨b12, 0, none⟩) 257 257) (bf.set (xs.length + 1) (pi + gq))) (D := blk b5 (.cells (rulC l times) 110)) pk pk pk pk⟩
          rw [hl1] at hc
          rcases Nat.lt_or_ge xs.length c with hc1 | hc1
          · obtain rfl : c = xs.length + 1 := by omega
            rw [List.getElem?_set_self (by omega), HNX.out]
          · rw [List.getElem?_set_ne (by omega)]
            exact HBF.out c hc1
      · obtain ⟨v', rfl⟩ : ∃ v', v = v' + 1 := ⟨v - 1, by omega⟩
        have horb : Orb (S.stp mc bk (l + 1)) q times xs v' := HWAY.out.met rfl HV.out
        have hk2 : v' < xs.length ∧ itr (S.stp mc bk (l + 1)) xs.length q = itr (S.stp mc bk (l + 1)) v' q := by
          rcases horb.ends with h | h
          · omega
          · exact h
        obtain ⟨P, hP⟩ : ∃ P, xs.length = v' + P := ⟨xs.length - v', by omega⟩
        have hP0 : 0 < P := by omega
        have hvx : v' < 256 := by omega
        have hxx : xs.length ≤ 256 := by omega
        have hPb : P ≤ 256 := by omega
        have HBV := Lib.hid (HBF.out v' (by omega))
        have he : itr (S.stp mc bk (l + 1)) (v' + P) q = itr (S.stp mc bk (l + 1)) v' q := by rw [← hP]; exact hk2.2
        have hcyc := pS_cyc HSUM.out (by rw [← hP]; exact hpi) hP0 he
        have hjmp := pS_jump HSUM.out (a := v') (P := P) (by rw [← hP]; exact hpi) rfl he rfl hcyc
        rw [← hP] at hcyc hjmp
        have hmon := pS_mono (f := (S.stp mc bk (l + 1))) (g := (S.gs mc bk (l + 1))) (show v' ≤ xs.length by omega) q
        obtain ⟨j1, j2, j3, j4⟩ := hjmp
        have i2 : (xs.length : Int) - v' = (P : Int) := by omega
        have i3 : (xs.length : Int) + 1 - ((v' : Int) + 1) = (P : Int) := by omega
        have i4 : ((pS (S.stp mc bk (l + 1)) (S.gs mc bk (l + 1)) xs.length q : Nat) : Int) - (pS (S.stp mc bk (l + 1)) (S.gs mc bk (l + 1)) v' q : Nat) = ((pS (S.stp mc bk (l + 1)) (S.gs mc bk (l + 1)) xs.length q - pS (S.stp mc bk (l + 1)) (S.gs mc bk (l + 1)) v' q : Nat) : Int) := by omega
        generalize hH : pS (S.stp mc bk (l + 1)) (S.gs mc bk (l + 1)) xs.length q - pS (S.stp mc bk (l + 1)) (S.gs mc bk (l + 1)) v' q = HH at *
        have hHb : HH ≤ 1152921504606846976 := by omega
        have hz : ((HH : Nat) : Int) ≠ 0 := by omega
        have hz0 : (((HH : Nat) : Int) == 0) = false := by simp; omega
        have hn1b : n - pS (S.stp mc bk (l + 1)) (S.gs mc bk (l + 1)) xs.length q ≤ 1152921504606846976 := by omega
        have hpb1 : pS (S.stp mc bk (l + 1)) (S.gs mc bk (l + 1)) xs.length q ≤ 1152921504606846976 := by omega
        have hpb2 : pS (S.stp mc bk (l + 1)) (S.gs mc bk (l + 1)) v' q ≤ 1152921504606846976 := by omega
        have i5 : ((n - pS (S.stp mc bk (l + 1)) (S.gs mc bk (l + 1)) xs.length q : Nat) : Int).tdiv (HH : Int) = (((n - pS (S.stp mc bk (l + 1)) (S.gs mc bk (l + 1)) xs.length q) / HH : Nat) : Int) := rfl
        have i6 : ((n - pS (S.stp mc bk (l + 1)) (S.gs mc bk (l + 1)) xs.length q : Nat) : Int).tmod (HH : Int) = (((n - pS (S.stp mc bk (l + 1)) (S.gs mc bk (l + 1)) xs.length q) % HH : Nat) : Int) := by simp [Int.tmod]
        have i7 : (((n - pS (S.stp mc bk (l + 1)) (S.gs mc bk (l + 1)) xs.length q) / HH : Nat) : Int) * (P : Int) = (((n - pS (S.stp mc bk (l + 1)) (S.gs mc bk (l + 1)) xs.length q) / HH * P : Nat) : Int) := (Int.natCast_mul _ _).symm
        have hdb : (n - pS (S.stp mc bk (l + 1)) (S.gs mc bk (l + 1)) xs.length q) / HH ≤ 1152921504606846976 := Nat.le_trans (Nat.div_le_self _ _) hn1b
        have HJ := Lib.hid (And.intro j1 (And.intro j2 (And.intro j3 j4)))
        have hjb : xs.length + (n - pS (S.stp mc bk (l + 1)) (S.gs mc bk (l + 1)) xs.length q) / HH * P ≤ 1152921504606846976 := by have := HJ.out.2.2.2; omega
        have hmb : (n - pS (S.stp mc bk (l + 1)) (S.gs mc bk (l + 1)) xs.length q) % HH ≤ 1152921504606846976 := Nat.le_trans (Nat.mod_le _ _) hn1b
        generalize hpxe : pS (S.stp mc bk (l + 1)) (S.gs mc bk (l + 1)) xs.length q = px at *
        generalize hpve : pS (S.stp mc bk (l + 1)) (S.gs mc bk (l + 1)) v' q = pv at *
        generalize hqq : itr (S.stp mc bk (l + 1)) xs.length q = q1 at *
        have hdv : 0 ≤ (n - px) / HH := Nat.zero_le _
        generalize hd : (n - px) / HH = dd at *
        generalize hmm : (n - px) % HH = mm at *
        generalize hn1 : n - px = n1 at *
        generalize hdP : dd * P = dP at *
        clear horb hk2 he hcyc hmon j1 j2 j3 j4 hnx hsx hpi hab hpxe hpve hqq hd hmm hn1 hdP hP hH HWAY HBF HK0
        have HV2 := HV
        go_wp2_with (first | refine sL ?_ | (refine sS ?_; clear H; intro _ H) | (refine sB ?_; clear H; intro _ _ H) | (refine sA ?_; clear H; intro _ _ H) | (go_at_call 30; with_reducible refine TC.use (HAB.out) HT.out H pk ts ?_; clear H; intro T' _ HT H) | ((with_reducible refine isLoad ?_); refine AtLoad.cel rfl rfl rfl rfl (rowsA_cell1 (H.get (A := rowsA enc16 154 1 (.slice (some ⟨b11, 0, none⟩) 256 256) sn) pk) enc16_len HV.out rfl) ?_; simp only [Act.put, puA, puB, puC]))
        refine wp_region_h H 12 [] [] (by kernel_rfl) (by kernel_rfl) ?_
        apply Exists.intro
        refine ⟨fun w1 hw1 HX => ?_, fun bs wr Hr => ?_⟩
        · refine sG ?_
          repeat (first | refine sQ ?_ | ((with_reducible refine isQLoad ?_); refine QtLoad.cel rfl rfl rfl rfl (fun y => rowsA_cell1 ((HX y).get (A := rowsA encI 173 1 (.slice (some ⟨b12, 0, none⟩) 257 257) bf) pk) encI_len HBI.out rfl) ?_; simp only [Act.put, puA, puB, puC]) | ((with_reducible refine isQLoad ?_); refine QtLoad.cel rfl rfl rfl rfl (fun y => rowsA_cell1 ((HX y).get (A := rowsA encI 173 1 (.slice (some ⟨b12, 0, none⟩) 257 257) bf) pk) encI_len HBV.out rfl) ?_; simp only [Act.put, puA, puB, puC]) | go_big_quiet_step (fail))
          exact wpQuiet_nil rfl
        clear H
        have H := Hr
        clear Hr
        replace H := sH H; refine sT ?_
        go_wp2_with (first | refine sL ?_ | (refine sS ?_; clear H; intro _ H) | (refine sB ?_; clear H; intro _ _ H) | (refine sA ?_; clear H; intro _ _ H))
        go_loopw [2, 3, 13] (fun v2 v3 v13 wr => NdRel S p s mc bk l q n times b5 M w v2 v3 v13 wr) (fun _ _ v13 _ => times - (intOf v13).toNat)
        case atStart => exact ⟨T', xs.length + dP, by rw [HJ.out.2.2.1], by rw [HJ.out.2.1], by first | rfl | go_num, HJ.out.1, HT.out, (H.pick2 (A := tabA T') (B := blk b5 (.cells (rulC l times) 110)) pk pk).onlyTwo⟩
        case round =>
          clear H HT
          obtain ⟨T, i, rfl, rfl, rfl, hpi, hT, H⟩ := hrel
          have HT := Lib.hid hT
          have hlt2 : i < times := pS_cnt HSUM.out hpi
          have hq2 := HLT.out i
          have hnx : pS (S.stp mc bk (l + 1)) (S.gs mc bk (l + 1)) (i + 1) q = pS (S.stp mc bk (l + 1)) (S.gs mc bk (l + 1)) i q + (S.gs mc bk (l + 1)) (itr (S.stp mc bk (l + 1)) i q) := rfl
          have hsx : itr (S.stp mc bk (l + 1)) (i + 1) q = (S.stp mc bk (l + 1)) (itr (S.stp mc bk (l + 1)) i q) := itr_succ _ _ _
          clear hT
          by_cases hab : n - pS (S.stp mc bk (l + 1)) (S.gs mc bk (l + 1)) i q < (S.gs mc bk (l + 1)) (itr (S.stp mc bk (l + 1)) i q)
          · have hnk := nkC_eq (k := times) hpi (by omega) hlt2
            have HAB := Lib.hid (above_s (lv := lv) (m := m) (p := p) (s := s) (bk := bk) HS.out.1 HS.out.2 hq2 (n := n - pS (S.stp mc bk (l + 1)) (S.gs mc bk (l + 1)) i q) (by omega) (decide_eq_true hab))
            have HNK := Lib.hid hnk
            generalize hn2 : n - pS (S.stp mc bk (l + 1)) (S.gs mc bk (l + 1)) i q = n2 at *
            generalize hq2e : itr (S.stp mc bk (l + 1)) i q = q2 at *
            have HN2 := Lib.hid hn2
            have HQ2 := Lib.hid hq2e
            clear hnk hab hpi hnx hsx hn2 hq2e
            go_wp2_with (first | refine sL ?_ | (refine sS ?_; clear H; intro _ H) | (refine sB ?_; clear H; intro _ _ H) | (refine sA ?_; clear H; intro _ _ H) | (go_at_call 30; with_reducible refine TC.use (HAB.out) HT.out H pk ts ?_; clear H; intro T' _ HT H))
            go_ret3
            exact ⟨T', by rw [HNK.out, HN2.out, HQ2.out]; rfl, HT.out, (H.pick (A := tabA T') pk).onlyHead⟩
          · have HAB := Lib.hid (above_s (lv := lv) (m := m) (p := p) (s := s) (bk := bk) HS.out.1 HS.out.2 hq2 (n := n - pS (S.stp mc bk (l + 1)) (S.gs mc bk (l + 1)) i q) (by omega) (decide_eq_false hab))
            have hple : pS (S.stp mc bk (l + 1)) (S.gs mc bk (l + 1)) (i + 1) q ≤ n := by omega
            have HHI := Lib.hid (hits_s (lv := lv) (m := m) (p := p) (s := s) (bk := bk) HS.out.1 HS.out.2 hq2 rfl (show (S.gs mc bk (l + 1)) (itr (S.stp mc bk (l + 1)) i q) ≤ 1152921504606846976 by omega))
            have HEN := Lib.hid (end_s (lv := lv) (m := m) (p := p) (s := s) (bk := bk) HS.out.1 HS.out.2 hq2 hsx.symm)
            have hn2 : n - pS (S.stp mc bk (l + 1)) (S.gs mc bk (l + 1)) (i + 1) q = n - pS (S.stp mc bk (l + 1)) (S.gs mc bk (l + 1)) i q - (S.gs mc bk (l + 1)) (itr (S.stp mc bk (l + 1)) i q) := by omega
            have HN2 := Lib.hid hn2
            have HPL := Lib.hid hple
            clear hn2 hsx hple
            generalize hgq : (S.gs mc bk (l + 1)) (itr (S.stp mc bk (l + 1)) i q) = gq at *
            generalize hq3 : itr (S.stp mc bk (l + 1)) (i + 1) q = q3 at *
            generalize hqq : itr (S.stp mc bk (l + 1)) i q = q2 at *
            generalize hpi2 : pS (S.stp mc bk (l + 1)) (S.gs mc bk (l + 1)) i q = pi at *
            have HQ3 := Lib.hid hq3
            clear hgq hq3 hqq hpi2 hnx
            have i8 : ((n - pi : Nat) : Int) - gq = ((n - pi - gq : Nat) : Int) := by omega
            have hb1 : n - pi ≤ 1152921504606846976 := by omega
            have hb2 : gq ≤ 1152921504606846976 := by omega
            generalize n - pi = n2 at *
            clear hab hpi
            go_wp2_with (first | refine sL ?_ | (refine sS ?_; clear H; intro _ H) | (refine sB ?_; clear H; intro _ _ H) | (refine sA ?_; clear H; intro _ _ H) | (go_at_call 30; with_reducible refine TC.use (HAB.out) HT.out H pk ts ?_; clear H; intro T' _ HT H) | (go_at_call 58; with_reducible refine TC.use (HHI.out) HT.out H pk ts ?_; clear H; intro T' _ HT H) | (go_at_call 46; with_reducible refine TC.use (HEN.out) HT.out H pk ts ?_; clear H; intro T' _ HT H))
            have hrl : NdRel S p s mc bk l q n times b5 M w (.int .i64 (q3 : Nat)) (.int .i64 (n2 - gq : Nat)) (.int .i64 ((i : Int) + 1)) _ := ⟨T', i + 1, by rw [HQ3.out], by rw [HN2.out], by go_num, HPL.out, HT.out, (H.pick2 (A := tabA T') (B := blk b5 (.cells (rulC l times) 110)) pk pk).onlyTwo⟩
            first | exact ⟨hrl, by simp [intOf] <;> omega⟩ | (refine ⟨?_, by simp [intOf] <;> omega⟩; (repeat apply Exists.intro); exact ⟨hrl, rfl⟩)
end Go.Proofs.YtijnhpaafhcndaaGreat
end
section
namespace Go.Proofs.YtijnhpaafhcndaaGreat
open Go.RowKit Go.Maps
attribute [local go_sem] InGr
set_option maxHeartbeats 8000000
set_option maxRecDepth 100000
set_option linter.unusedSimpArgs false
set_option linter.unusedVariables false
theorem pS_sum (S : Sto) (mc : Mc) (bk : Bool) (id k q : Nat) : mc.sum q (rep k (S.dtx bk id)) = pS (S.stp mc bk id) (S.gs mc bk id) k q := Mc.sum_copies q (S.dtx bk id) k
def NtRel (S : Sto) (p s : Nat) (mc : Mc) (res i0 : Nat) (M : List Nat) (w : World) (v1 v2 v3 v9 : Value) (wr : World) : Prop :=
  ∃ (T : Tab) (i q n read : Nat), v1 = .int .i64 ((i : Int) + 1) ∧ v2 = .int .i64 (q : Nat) ∧ v3 = .int .i64 (n : Nat) ∧ v9 = .int .i64 (read : Nat) ∧ i ≤ i0 ∧ q < mc.n ∧ n ≤ 1152921504606846976 ∧ n < S.gs mc false (i + 1) q ∧ read + mc.nth q (S.dtx false (i + 1)) n = res ∧ TK S p s mc false T ∧ St w M [tabA T] wr
theorem nth_t {S : Sto} {lv : Value} {m p s : Nat} {mc : Mc} {i q n : Nat} (hS : S.Ok) (hid : i < S.list.length) (hq : q < mc.n) (hn : n ≤ 1152921504606846976) (hs : n < S.gs mc false (i + 1) q) :
    TC S lv m p s mc false 31 #[.pointer (some ⟨p, 0, none⟩), .int .i64 ((i : Int) + 1), .int .i64 q, .int .i64 n] (.int .i64 (mc.nth q (S.dtx false (i + 1)) n : Nat)) := by
  refine TC.mk fun T w M HT H HK => ?_
  obtain ⟨c, ok⟩ := HT.out.mok
  have HC : Hid (∀ i, i < S.list.length → ∃ x kd lt lf rt tm, S.list[i]? = some x ∧ ruleL x.r = [.int .i64 (kd : Nat), .int .u8 (lt : Nat), .int .i64 (lf : Nat), .int .i64 (rt : Nat), .int .i64 (tm : Nat)] ∧ DCase S false i kd lt lf rt tm) := Lib.hid fun i hi => dcase hS false hi
  have HOK := Lib.hid ok
  have HS := Lib.hid hS
  have hres : mc.nth q (S.dtx false (i + 1)) n ≤ 1152921504606846976 := by
    have h1 := mc.nth_le q (S.dtx false (i + 1)) n
    rw [dtx_len] at h1
    have := txt_max hS (i := i + 1) (by omega)
    omega
  have hlen : S.list.length ≤ 1048576 := by have := hS.len; have := hS.most; omega
  clear ok hS
  go_enter Tryz.func31, Tryz.ntmps31
  go_wp2_with (first | refine sL ?_ | (refine sS ?_; clear H; intro _ H) | (refine sA ?_; clear H; intro _ _ H))
  go_loopw [1, 2, 3, 9] (fun v1 v2 v3 v9 wr => NtRel S p s mc (mc.nth q (S.dtx false (i + 1)) n) i M w v1 v2 v3 v9 wr) (fun v1 _ _ _ _ => (intOf v1).toNat)
  case atStart => exact ⟨T, i, q, n, 0, rfl, rfl, rfl, rfl, Nat.le_refl _, hq, hn, hs, by omega, HT.out, H⟩
  case round =>
    clear H HT hs hq hn
    generalize mc.nth q (S.dtx false (i + 1)) n = res at *
    obtain ⟨T, j, q1, n1, read, rfl, rfl, rfl, rfl, hj, hq1, hn1, hs1, hsum, hT, H⟩ := hrel
    have HT := Lib.hid hT
    obtain ⟨x, kd, lt, lf, rt, tm, hx, he, hcase⟩ := HC.out j (by omega)
    have HST := Lib.hid (store_t (S := S) (lv := lv) (m := m) (p := p) (s := s) (mc := mc) (bk := false))
    have HRU := Lib.hid (rule_t (lv := lv) (m := m) (p := p) (s := s) (mc := mc) (bk := false) hx he)
    clear hT hx he
    cases hcase with
    | letter b hb hd =>
      unfold Sto.gs at hs1
      rw [hd] at hs1 hsum
      have h1 : mc.nth q1 [lt] n1 = 1 := by
        have a := (mc.nth_zero q1 [lt] n1)
        have b := mc.nth_le q1 [lt] n1
        simp at b
        omega
      have hrd : read + 1 = res := by omega
      have HRD := Lib.hid hrd
      clear hsum h1 hs1 hd HC
      go_wp2_with (first | refine sL ?_ | (refine sS ?_; clear H; intro _ H) | (refine sA ?_; clear H; intro _ _ H) | (go_at_call 12; with_reducible refine TQ.use (HST.out) HT.out H pk ts ?_; clear H; intro _ H) | (go_at_call 45; with_reducible refine TQ.use (HRU.out) HT.out H pk ts ?_; clear H; intro _ H))
      go_ret
      exact ⟨T, by rw [← HRD.out]; rfl, HT.out, (H.pick (A := tabA T) pk).onlyHead⟩
    | pair l r a b hl hr ha hb hv hd =>
      obtain ⟨rfl, rfl⟩ : a = l ∧ b = r := by
        rcases hv with ⟨_, h1, h2⟩ | ⟨h, _⟩
        · exact ⟨h1, h2⟩
        · cases h
      unfold Sto.gs at hs1
      rw [hd] at hs1 hsum
      have hfa := mc.nth_append q1 (S.dtx false (a + 1)) (S.dtx false (b + 1)) n1
      have hsa := mc.sum_append q1 (S.dtx false (a + 1)) (S.dtx false (b + 1))
      have hlt := HOK.out.ends_lt hq1 (dtx_lt HS.out false (id := a + 1) (by omega))
      have HSZ := Lib.hid (ssize_s (lv := lv) (m := m) (p := p) (s := s) (mc := mc) (bk := false) HS.out (i := a) (by omega))
      have hla := dtx_len S false (a + 1)
      by_cases hh : n1 < S.gs mc false (a + 1) q1
      · have HAB := Lib.hid (above_s (lv := lv) (m := m) (p := p) (s := s) (bk := false) HS.out (i := a) (by omega) hq1 hn1 (decide_eq_true hh))
        rw [if_pos (show n1 < mc.sum q1 (S.dtx false (a + 1)) from hh)] at hfa
        have HF := Lib.hid (And.intro hh (hfa ▸ hsum))
        clear hv hd hfa hsa hlt hh hs1 hsum hla HSZ
        go_wp2_with (first | refine sL ?_ | (refine sS ?_; clear H; intro _ H) | (refine sA ?_; clear H; intro _ _ H) | (go_at_call 12; with_reducible refine TQ.use (HST.out) HT.out H pk ts ?_; clear H; intro _ H) | (go_at_call 45; with_reducible refine TQ.use (HRU.out) HT.out H pk ts ?_; clear H; intro _ H) | (go_at_call 30; with_reducible refine TC.use (HAB.out) HT.out H pk ts ?_; clear H; intro T' _ HT H))
        have hrl : NtRel S p s mc res i M w (.int .i64 ((a : Int) + 1)) (.int .i64 q1) (.int .i64 n1) (.int .i64 read) _ := ⟨T', a, q1, n1, read, rfl, rfl, rfl, rfl, by omega, hq1, hn1, HF.out.1, HF.out.2, HT.out, (H.pick (A := tabA T') pk).onlyHead⟩
        first | exact ⟨hrl, by simp [intOf] <;> omega⟩ | (refine ⟨?_, by simp [intOf] <;> omega⟩; (repeat apply Exists.intro); exact ⟨hrl, rfl⟩)
      · have HAB := Lib.hid (above_s (lv := lv) (m := m) (p := p) (s := s) (bk := false) HS.out (i := a) (by omega) hq1 hn1 (decide_eq_false hh))
        have HHI := Lib.hid (hits_s (lv := lv) (m := m) (p := p) (s := s) (bk := false) HS.out (i := a) (by omega) hq1 rfl (show S.gs mc false (a + 1) q1 ≤ 1152921504606846976 by omega))
        have HEN := Lib.hid (send_s (lv := lv) (m := m) (p := p) (s := s) (bk := false) HS.out (i := a) (by omega) hq1)
        have hgs : S.gs mc false (a + 1) q1 = mc.sum q1 (S.dtx false (a + 1)) := rfl
        rw [← hgs] at hfa hsa
        rw [if_neg hh, if_neg (by omega)] at hfa
        generalize S.gs mc false (a + 1) q1 = ga at *
        generalize mc.ends q1 (S.dtx false (a + 1)) = q2 at *
        rw [hla] at hfa
        generalize hln : (S.txt (a + 1)).length = ln at *
        have hfb : n1 - ga < mc.sum q2 (S.dtx false (b + 1)) ∧ read + ln + mc.nth q2 (S.dtx false (b + 1)) (n1 - ga) = res := by omega
        have HF : Hid (n1 - ga < S.gs mc false (b + 1) q2 ∧ read + ln + mc.nth q2 (S.dtx false (b + 1)) (n1 - ga) = res) := Lib.hid hfb
        have hlb : read + ln ≤ 1152921504606846976 := by omega
        have i1 : (n1 : Int) - ga = ((n1 - ga : Nat) : Int) := by omega
        have hnb : n1 - ga ≤ 1152921504606846976 := by omega
        have hgab : ga ≤ n1 := by omega
        generalize n1 - ga = n2 at *
        clear hv hd hfa hsa hh hs1 hsum hla hln hfb hgs
        go_wp2_with (first | refine sL ?_ | (refine sS ?_; clear H; intro _ H) | (refine sA ?_; clear H; intro _ _ H) | (go_at_call 12; with_reducible refine TQ.use (HST.out) HT.out H pk ts ?_; clear H; intro _ H) | (go_at_call 45; with_reducible refine TQ.use (HRU.out) HT.out H pk ts ?_; clear H; intro _ H) | (go_at_call 30; with_reducible refine TC.use (HAB.out) HT.out H pk ts ?_; clear H; intro T' _ HT H) | (go_at_call 58; with_reducible refine TC.use (HHI.out) HT.out H pk ts ?_; clear H; intro T' _ HT H) | (go_at_call 37; with_reducible refine TQ.use (HSZ.out) HT.out H pk ts ?_; clear H; intro _ H) | (go_at_call 46; with_reducible refine TC.use (HEN.out) HT.out H pk ts ?_; clear H; intro T' _ HT H))
        have hrl : NtRel S p s mc res i M w (.int .i64 ((b : Int) + 1)) (.int .i64 q2) (.int .i64 n2) (.int .i64 ((read : Int) + ln)) _ := ⟨T', b, q2, n2, read + ln, rfl, rfl, rfl, by go_num, by omega, hlt, hnb, HF.out.1, HF.out.2, HT.out, (H.pick (A := tabA T') pk).onlyHead⟩
        first | exact ⟨hrl, by simp [intOf] <;> omega⟩ | (refine ⟨?_, by simp [intOf] <;> omega⟩; (repeat apply Exists.intro); exact ⟨hrl, rfl⟩)
    | power l k hl hk hm hd =>
      unfold Sto.gs at hs1
      rw [hd] at hs1 hsum
      rw [pS_sum] at hs1
      have HNC := Lib.hid (nthCopy_t (lv := lv) (m := m) (p := p) (s := s) HS.out (l := l) (by omega) hq1 hm hn1 hs1)
      have HSZ := Lib.hid (ssize_s (lv := lv) (m := m) (p := p) (s := s) (mc := mc) (bk := false) HS.out (i := l) (by omega))
      obtain ⟨c, hc1, hc2, hc3⟩ := nk_ex hs1
      have hnk := nkC_eq hc2 hc3 hc1
      rw [hnk] at HNC
      have hq2 : itr (S.stp mc false (l + 1)) c q1 < mc.n := itr_lt (stp_lt HOK.out HS.out false (by omega)) hq1
      have hfr : mc.nth q1 (rep tm (S.dtx false (l + 1))) n1 = c * (S.dtx false (l + 1)).length + mc.nth (itr (S.stp mc false (l + 1)) c q1) (S.dtx false (l + 1)) (n1 - pS (S.stp mc false (l + 1)) (S.gs mc false (l + 1)) c q1) := Mc.nth_rep hc1 hc2 hc3
      rw [dtx_len] at hfr
      have hgn : pS (S.stp mc false (l + 1)) (S.gs mc false (l + 1)) (c + 1) q1 = pS (S.stp mc false (l + 1)) (S.gs mc false (l + 1)) c q1 + S.gs mc false (l + 1) (itr (S.stp mc false (l + 1)) c q1) := rfl
      generalize pS (S.stp mc false (l + 1)) (S.gs mc false (l + 1)) c q1 = pc at *
      generalize itr (S.stp mc false (l + 1)) c q1 = q2 at *
      generalize hln : (S.txt (l + 1)).length = ln at *
      have hp : (c : Int) * (ln : Int) = ((c * ln : Nat) : Int) := (Int.natCast_mul c ln).symm
      generalize c * ln = pr at *
      have hpb : read + pr ≤ 1152921504606846976 := by omega
      have hF : n1 - pc < S.gs mc false (l + 1) q2 ∧ read + pr + mc.nth q2 (S.dtx false (l + 1)) (n1 - pc) = res := ⟨by omega, by omega⟩
      have HF := Lib.hid hF
      have hnb : n1 - pc ≤ 1152921504606846976 := by omega
      generalize n1 - pc = n2 at *
      clear hd hs1 hsum hfr hln hF hc1 hc2 hc3 hnk hgn
      go_wp2_with (first | refine sL ?_ | (refine sS ?_; clear H; intro _ H) | (refine sA ?_; clear H; intro _ _ H) | (go_at_call 12; with_reducible refine TQ.use (HST.out) HT.out H pk ts ?_; clear H; intro _ H) | (go_at_call 45; with_reducible refine TQ.use (HRU.out) HT.out H pk ts ?_; clear H; intro _ H) | (go_at_call 37; with_reducible refine TQ.use (HSZ.out) HT.out H pk ts ?_; clear H; intro _ H) | (go_at_call 60; with_reducible refine TC.use (HNC.out) HT.out H pk ts ?_; clear H; intro T' _ HT H))
      have hrl : NtRel S p s mc res i M w (.int .i64 ((l : Int) + 1)) (.int .i64 q2) (.int .i64 n2) (.int .i64 ((read : Int) + pr)) _ := ⟨T', l, q2, n2, read + pr, rfl, rfl, rfl, by go_num, by omega, hq2, hnb, HF.out.1, HF.out.2, HT.out, (H.pick (A := tabA T') pk).onlyHead⟩
      first | exact ⟨hrl, by simp [intOf] <;> omega⟩ | (refine ⟨?_, by simp [intOf] <;> omega⟩; (repeat apply Exists.intro); exact ⟨hrl, rfl⟩)
def Sto.nt (S : Sto) (mc : Mc) (id n : Nat) : Nat := mc.nth mc.start (S.txt id) n
section
variable {S : Sto} {lv : Value} {m p s : Nat} {mc : Mc} {id : Nat}
theorem gs_txt (S : Sto) (mc : Mc) (id q : Nat) : S.gs mc false id q = mc.sum q (S.txt id) := rfl
theorem Nth_t {n : Nat} (hS : S.Ok) (hid : id ≤ S.list.length) (hn : n ≤ 1152921504606846976) : TC S lv m p s mc false 8 #[.pointer (some ⟨p, 0, none⟩), .int .i64 id, .int .i64 n] (pvV (S.nt mc id n)) := by
  refine TC.mk fun T w M HT H HK => ?_
  obtain ⟨cm, ok⟩ := HT.out.mok
  have hst := ok.start
  have hmax := txt_max hS hid
  have HCK := Lib.hid (check_t (S := S) (lv := lv) (m := m) (p := p) (s := s) (mc := mc) hid)
  have HVA : Hid (∀ w, Calls Tryz.prog 28 #[.int .i64 n] w fun e w' => e = .returned (.bool true) ∧ w' = w) := Lib.hid fun w => valid_c n true (by symm; rw [decide_eq_true_eq]; omega) w
  have hz := mc.nth_zero mc.start (S.txt id) n
  have hle := mc.nth_le mc.start (S.txt id) n
  unfold pvV Sto.nt
  by_cases hx : mc.sum mc.start (S.txt id) ≤ n
  · rw [if_pos (hz.2 hx)]
    have HAB := Lib.hid (above_t (lv := lv) (m := m) (p := p) (s := s) (bk := false) hS hid hst hn)
    rw [decide_eq_false (by rw [gs_txt]; omega)] at HAB
    clear hz hx hle ok hst hS
    go_enter Tryz.func8, Tryz.ntmps8
    go_wp2_with (first | refine sF ?_ | (go_at_call 27; with_reducible refine TQ.use (HCK.out) HT.out H pk ts ?_; clear H; intro _ H) | (go_at_call 28; with_reducible refine same (HVA.out _) ?_) | (go_at_call 29; with_reducible refine machine_use HT.out H pk ?_; clear H; intro g1 o1 d1 g2 o2 d2 g3 o3 d3 _ H) | (go_at_call 30; with_reducible refine TC.use (HAB.out) HT.out H pk ts ?_; clear H; intro T' _ HT H))
    go_ret2
    exact ⟨_, rfl, HT.out, H.onlyHead⟩
  · rw [if_neg fun h => hx (hz.1 h)]
    have HAB := Lib.hid (above_t (lv := lv) (m := m) (p := p) (s := s) (bk := false) hS hid hst hn)
    rw [decide_eq_true (by rw [gs_txt]; omega)] at HAB
    have h1 : 1 ≤ id := by
      rcases Nat.eq_zero_or_pos id with h | h
      · exfalso
        apply hx
        rw [h, S.txt_zero]
        exact Nat.zero_le _
      · exact h
    have HNT : Hid (TC S lv m p s mc false 31 #[.pointer (some ⟨p, 0, none⟩), .int .i64 id, .int .i64 mc.start, .int .i64 n] (.int .i64 (mc.nth mc.start (S.txt id) n : Nat))) := Lib.hid (by
      obtain ⟨i, rfl⟩ : ∃ i, id = i + 1 := ⟨id - 1, by omega⟩
      exact nth_t hS hid hst hn (by rw [gs_txt]; omega))
    have hrb : mc.nth mc.start (S.txt id) n ≤ 1152921504606846976 := by omega
    generalize mc.nth mc.start (S.txt id) n = res at *
    clear hz hx hle ok hst hS h1
    go_enter Tryz.func8, Tryz.ntmps8
    go_wp2_with (first | refine sF ?_ | (go_at_call 27; with_reducible refine TQ.use (HCK.out) HT.out H pk ts ?_; clear H; intro _ H) | (go_at_call 28; with_reducible refine same (HVA.out _) ?_) | (go_at_call 29; with_reducible refine machine_use HT.out H pk ?_; clear H; intro g1 o1 d1 g2 o2 d2 g3 o3 d3 _ H) | (go_at_call 30; with_reducible refine TC.use (HAB.out) HT.out H pk ts ?_; clear H; intro T' _ HT H) | (go_at_call 31; with_reducible refine TC.use (HNT.out) HT.out H pk ts ?_; clear H; intro T' _ HT H))
    go_ret2
    exact ⟨_, rfl, HT.out, H.onlyHead⟩
theorem Nth_no {n : Int} (hid : id ≤ S.list.length) (hn : ¬ (0 ≤ n ∧ n ≤ 1152921504606846976)) : TQ S lv m p s mc false 8 #[.pointer (some ⟨p, 0, none⟩), .int .i64 id, .int .i64 n] (.tuple #[.int .i64 0, .iface 42 (.int .i64 1)]) := fun T w hT h1 h2 => by
  have H := St.nil w []
  have HK := Ks.two h1 h2
  have HT := Lib.hid hT
  have HCK := Lib.hid (check_t (S := S) (lv := lv) (m := m) (p := p) (s := s) (mc := mc) hid)
  have HVA : Hid (∀ w, Calls Tryz.prog 28 #[.int .i64 n] w fun e w' => e = .returned (.bool false) ∧ w' = w) := Lib.hid fun w => valid_c n false (by symm; rw [decide_eq_false_iff_not]; exact hn) w
  clear hT h1 h2 hid hn
  go_enter Tryz.func8, Tryz.ntmps8
  go_wp2_with (first | refine sF ?_ | (go_at_call 27; with_reducible refine TQ.use1 HCK.out HT.out H (H.known HK pk) (H.known HK pk) ?_; clear H; intro _ H) | (go_at_call 28; with_reducible refine same (HVA.out _) ?_))
  go_ret2
  exact ⟨rfl, H.nix⟩
end
end Go.Proofs.YtijnhpaafhcndaaGreat
end
section
namespace Go.Proofs.YtijnhpaafhcndaaGreat
open Go.RowKit Go.Maps
attribute [local go_sem] InGr
set_option maxHeartbeats 8000000
set_option maxRecDepth 100000
set_option linter.unusedSimpArgs false
set_option linter.unusedVariables false
theorem take_sum_mono (l : List Nat) {a b : Nat} (h : a ≤ b) : (l.take a).sum ≤ (l.take b).sum := by
  obtain ⟨d, rfl⟩ : ∃ d, b = a + d := ⟨b - a, by omega⟩
  rw [List.take_add, List.sum_append]
  omega
theorem hitN_eq {l : List Nat} {n k : Nat} (h1 : (l.take k).sum ≤ n) (h2 : n < (l.take (k + 1)).sum) : hitN l n = k + 1 := by
  have h0 : hitN l n ≠ 0 := fun h => by
    have := (hitN_zero l n).1 h
    have h3 := take_sum_mono l (show k + 1 ≤ max (k + 1) l.length by omega)
    rw [List.take_of_length_le (show l.length ≤ max (k + 1) l.length by omega)] at h3
    omega
  obtain ⟨j, hj⟩ : ∃ j, hitN l n = j + 1 := ⟨hitN l n - 1, by omega⟩
  obtain ⟨a1, a2, a3⟩ := hitN_at hj
  rcases Nat.lt_trichotomy j k with h | h | h
  · have := take_sum_mono l (show j + 1 ≤ k by omega); omega
  · omega
  · have := take_sum_mono l (show k + 1 ≤ j by omega); omega
theorem hnth_c {hs : List Nat} {v : Value} {n : Nat} (hb : ∀ x ∈ hs, x ≤ 1048576) (hlen : hs.length ≤ 300) (hn : n ≤ 1152921504606846976) (w : World) (hrow : (rowsA encI 3 1 v hs).ho w) :
    Calls Tryz.prog 10 #[v, .int .i64 n] w fun e w' => e = .returned (.int .i64 (hitN hs n : Nat)) ∧ St w [] [] w' := by
  have H := St.nil w []
  have HK := Ks.one hrow
  obtain ⟨ad, c, rfl, hmx⟩ := rowsA_shape hrow
  have HR : Hid (∀ k x, hs[k]? = some x → ∃ g, ad = some ⟨g, 0, none⟩) := Lib.hid fun k x hx => by
    obtain ⟨g, c', h1, _⟩ := rowsA_cases hrow (by have := getElem_len hx; omega)
    injection h1 with e1 e2 e3
    exact ⟨g, e1⟩
  have HB := Lib.hid hb
  clear hb hrow
  go_enter Tryz.func10, Tryz.ntmps10
  go_wp2_with (first | refine sL ?_ | (refine sS ?_; clear H; intro _ H) | (refine sB ?_; clear H; intro _ _ H) | (refine sA ?_; clear H; intro _ _ H) | refine sF ?_)
  go_loopw [5, 6] (fun v5 v6 wr => ∃ k : Nat, v5 = .int .i64 ((hs.take k).sum : Nat) ∧ v6 = .int .i64 (k : Nat) ∧ k ≤ hs.length ∧ (hs.take k).sum ≤ n ∧ St w [] [] wr) (fun _ v6 _ => hs.length - (intOf v6).toNat)
  case atStart => exact ⟨0, rfl, rfl, Nat.zero_le _, Nat.zero_le _, H⟩
  case round =>
    clear H
    obtain ⟨k, rfl, rfl, hk, hsn, H⟩ := hrel
    by_cases hlt : k < hs.length
    · obtain ⟨x, hx⟩ : ∃ x, hs[k]? = some x := ⟨_, List.getElem?_eq_getElem hlt⟩
      obtain ⟨g, rfl⟩ := HR.out _ _ hx
      have hxb := HB.out x (List.mem_of_getElem? hx)
      have HX := Lib.hid hx
      have hd : (hs.take (k + 1)).sum = (hs.take k).sum + x := by
        rw [List.take_add_one, hx]
        simp
      clear hx
      by_cases hp : n < (hs.take (k + 1)).sum
      · have HRS := Lib.hid (hitN_eq hsn hp)
        rw [hd] at hp
        have d1 : decide ((n : Int) < ((hs.take k).sum : Int) + x) = true := by simp; omega
        clear hd
        generalize (hs.take k).sum = sm at *
        go_wp2_with (first | refine sL ?_ | (refine sS ?_; clear H; intro _ H) | (refine sB ?_; clear H; intro _ _ H) | (refine sA ?_; clear H; intro _ _ H) | refine sF ?_ | ((with_reducible refine isLoad ?_); refine AtLoad.cel rfl rfl rfl rfl (rowsA_cell1 (H.known HK (A := rowsA encI 3 1 (.slice (some ⟨g, 0, none⟩) hs.length c) hs) pk) encI_len HX.out rfl) ?_; simp only [Act.put, puA, puB, puC]))
        go_ret
        exact ⟨by rw [HRS.out]; rfl, H⟩
      · have d1 : decide ((n : Int) < ((hs.take k).sum : Int) + x) = false := by simp; omega
        have HSN : Hid ((hs.take (k + 1)).sum = (hs.take k).sum + x ∧ (hs.take (k + 1)).sum ≤ n) := Lib.hid ⟨hd, by omega⟩
        rw [hd] at hp
        clear hd
        generalize (hs.take k).sum = sm at *
        go_wp2_with (first | refine sL ?_ | (refine sS ?_; clear H; intro _ H) | (refine sB ?_; clear H; intro _ _ H) | (refine sA ?_; clear H; intro _ _ H) | refine sF ?_ | ((with_reducible refine isLoad ?_); refine AtLoad.cel rfl rfl rfl rfl (rowsA_cell1 (H.known HK (A := rowsA encI 3 1 (.slice (some ⟨g, 0, none⟩) hs.length c) hs) pk) encI_len HX.out rfl) ?_; simp only [Act.put, puA, puB, puC]))
        exact ⟨⟨k + 1, by rw [HSN.out.1]; go_num, by go_num, by omega, HSN.out.2, H⟩, by simp [intOf] <;> omega⟩
    · obtain rfl : k = hs.length := by omega
      rw [List.take_length] at hsn
      have HRS := Lib.hid ((hitN_zero hs n).2 hsn)
      clear hsn
      go_wp2_with (first | refine sL ?_ | (refine sS ?_; clear H; intro _ H) | (refine sB ?_; clear H; intro _ _ H) | (refine sA ?_; clear H; intro _ _ H) | refine sF ?_)
      go_ret
      exact ⟨by rw [HRS.out]; rfl, H⟩
theorem nth_walk {P : PoolT} {cv nv av hv lv : Value} {rvs : List Value} {R : Raw} {ms : List Mk} {N f : Int} (h : RawAt P cv nv av hv rvs R) (hms : RowIn P mkL 5 lv ms) (hf : ∀ m ∈ ms, m.Fits) (hs : fits64 R.start) (hN : fits64 N) (h1 : fits64 f) (w : World) (hp : (poolA P).ho w) :
    Calls Tryz.prog 3 #[.agg #[.int .i64 R.start, cv, nv, av, hv, lv, .int .i64 N], .int .i64 f] w fun e w' => e = .returned (.bool true) ∧ St w [] [] w' := by
  have H := St.nil w []
  have HK := Ks.one hp
  unfold fits64 at hs h1
  have HG := Lib.hid (fun w hp => good_c h hms hs.1 hs.2 (N := N) w hp)
  have HB : Hid (∀ c, R.Snd c → ms.length ≤ 100 → ∀ w, (poolA P).ho w → _) := Lib.hid (fun c hR hl w hp => begun_c h hR hms hf hl hN w hp)
  have HPL : Hid (∀ c, R.Snd c → ms.length ≤ 100 → ∀ w, (poolA P).ho w → Calls Tryz.prog 7 #[.agg #[.int .i64 R.start, cv, nv, av, hv, lv, .int .i64 N], .int .i64 (idOf ms N : Nat)] w (PlainPost ((stoOf ms).txt (idOf ms N)) (R.mc.hits R.mc.start ((stoOf ms).txt (idOf ms N))) w)) := Lib.hid (fun c hR hl w hp => plain_c h hR hms hf hl (idOf_le hf N).2.1 w hp)
  have HID := Lib.hid (idOf_le hf N)
  obtain ⟨a1, c1, rfl, hm1⟩ := h.cls.shape
  obtain ⟨a2, c2, rfl, hm2⟩ := h.next.shape
  obtain ⟨a3, c3, rfl, hm3⟩ := h.acc.shape
  obtain ⟨a4, c4, rfl, hm4⟩ := h.wts.shape
  obtain ⟨a5, c5, rfl, hm5⟩ := hms.shape
  clear h hms hf hs hN hp hm1 hm2 hm3 hm4 hm5
  go_enter Tryz.func3, Tryz.ntmps3
  go_wp2_with (first | refine sL ?_ | (refine sS ?_; clear H; intro _ H) | (refine sB ?_; clear H; intro _ _ H) | (refine sA ?_; clear H; intro _ _ H) | refine sF ?_)
  with_reducible refine Calls.mono (HG.out _ (H.known HK pk)) ?_
  rintro e wc ⟨b, rfl, hgood, hb⟩
  replace H := H.grew hb.below
  clear hb
  cases b with
  | false =>
    clear hgood
    go_wp2_with (first | refine sL ?_ | (refine sS ?_; clear H; intro _ H) | (refine sB ?_; clear H; intro _ _ H) | (refine sA ?_; clear H; intro _ _ H) | refine sF ?_)
    go_ret
    exact ⟨rfl, H.nix⟩
  | true =>
    obtain ⟨hl, c, hR⟩ := hgood rfl
    have HR := Lib.hid hR
    have HL := Lib.hid hl
    clear hgood hl hR
    go_wp2_with (first | refine sL ?_ | (refine sS ?_; clear H; intro _ H) | (refine sB ?_; clear H; intro _ _ H) | (refine sA ?_; clear H; intro _ _ H) | refine sF ?_)
    with_reducible refine Calls.mono (HB.out c HR.out HL.out _ (H.known HK pk)) ?_
    rintro e wc ⟨T, mm, lv1, rfl, hmc, hbk, hT, hb⟩
    replace H := H.call0 hb
    clear hb
    simp only [List.cons_append, List.nil_append] at H
    go_wp2_with (first | refine sL ?_ | (refine sS ?_; clear H; intro _ H) | (refine sB ?_; clear H; intro _ _ H) | (refine sA ?_; clear H; intro _ _ H) | refine sF ?_)
    with_reducible refine Calls.mono (HPL.out c HR.out HL.out _ (H.known HK pk)) ?_
    obtain ⟨hok, hid, _, _⟩ := HID.out
    have hmax := txt_max hok hid
    generalize hii : idOf ms N = id at *
    generalize hSS : stoOf ms = S at *
    rintro e wc (⟨hl3, vh, rfl, hb⟩ | ⟨hl3, rfl, hb⟩)
    · replace H := H.call0 hb
      clear hb
      simp only [List.cons_append, List.nil_append] at H
      have hsl : (R.mc.hits R.mc.start (S.txt id)).length = (S.txt id).length := Mc.hits_len _ _
      have hsb := HR.out.ok.hits_le HR.out.ok.start (fun b hb => Sto.txt_lt hok hid b hb)
      have HT : Hid (TK S T.p T.s R.mc false T) := Lib.hid ⟨hT, rfl, rfl, hmc, hbk⟩
      have HOK := Lib.hid (And.intro hok hid)
      have HNT0 : Hid (∀ n, hitN (R.mc.hits R.mc.start (S.txt id)) n = S.nt R.mc id n) := Lib.hid fun n => rfl
      have HLE : Hid (∀ n, S.nt R.mc id n ≤ (S.txt id).length) := Lib.hid fun n => R.mc.nth_le R.mc.start (S.txt id) n
      generalize hhs : R.mc.hits R.mc.start (S.txt id) = hs at *
      obtain ⟨ah, ch, hvh, _⟩ := rowsA_shape (H.get (A := rowsA encI 3 1 vh hs) pk)
      rw [hsl] at hvh
      subst hvh
      have HSB := Lib.hid hsb
      have HSL := Lib.hid hsl
      clear HB HG HID HPL hok hid hii hSS hmc hbk hT hhs hsb hsl
      by_cases hin : 0 ≤ f ∧ f ≤ 1152921504606846976
      · obtain ⟨n, rfl⟩ : ∃ n : Nat, f = n := ⟨f.toNat, by omega⟩
        have hn : n ≤ 1152921504606846976 := by omega
        have hle := HLE.out n
        have HNE := Lib.hid (Nth_t (lv := lv1) (m := mm) (p := T.p) (s := T.s) (mc := R.mc) HOK.out.1 HOK.out.2 hn)
        have HRN : Hid (∀ w, (rowsA encI 3 1 (.slice ah (S.txt id).length ch) hs).ho w → Calls Tryz.prog 10 #[.slice ah (S.txt id).length ch, .int .i64 (n : Nat)] w fun e w' => e = .returned (.int .i64 (S.nt R.mc id n : Nat)) ∧ St w [] [] w') := Lib.hid fun w h => by
          rw [← HNT0.out n]
          exact hnth_c HSB.out (by rw [HSL.out]; omega) hn w h
        have HIS : Hid (∀ w, Calls Tryz.prog 9 #[.iface 42 (.int .i64 5), .int .i64 5] w fun e w' => e = .returned (.bool true) ∧ w' = w) := Lib.hid (fun w => is_ev 5 5 (by omega) true rfl w)
        have ek1 : decide ((n : Int) < 0) = false := by simp
        have ek2 : decide ((1152921504606846976 : Int) < (n : Int)) = false := by simp; omega
        generalize S.nt R.mc id n = x at *
        generalize (S.txt id).length = ln at *
        unfold pvV at HNE
        clear HNT0 HLE hin
        by_cases hx : x = 0
        · rw [if_pos hx] at HNE
          subst hx
          clear hle
          go_wp2_with (first | refine sL ?_ | (refine sS ?_; clear H; intro _ H) | (refine sB ?_; clear H; intro _ _ H) | (refine sA ?_; clear H; intro _ _ H) | refine sF ?_ | (go_at_call 8; with_reducible refine TC.use (HNE.out) HT.out H pk ts ?_; clear H; intro T' _ HT H) | (go_at_call 10; with_reducible refine Calls.mono (HRN.out _ (H.get (A := rowsA encI 3 1 (.slice ah ln ch) hs) pk)) ?_; rintro e wc ⟨rfl, hb⟩; replace H := H.grew hb.below; clear hb) | (go_at_call 9; with_reducible refine same (HIS.out _) ?_))
          go_ret
          exact ⟨rfl, H.nix⟩
        · rw [if_neg hx] at HNE
          have hx0 : ((x : Int) == 0) = false := by simp; omega
          clear hx hle
          go_wp2_with (first | refine sL ?_ | (refine sS ?_; clear H; intro _ H) | (refine sB ?_; clear H; intro _ _ H) | (refine sA ?_; clear H; intro _ _ H) | refine sF ?_ | (go_at_call 8; with_reducible refine TC.use (HNE.out) HT.out H pk ts ?_; clear H; intro T' _ HT H) | (go_at_call 10; with_reducible refine Calls.mono (HRN.out _ (H.get (A := rowsA encI 3 1 (.slice ah ln ch) hs) pk)) ?_; rintro e wc ⟨rfl, hb⟩; replace H := H.grew hb.below; clear hb) | (go_at_call 9; with_reducible refine same (HIS.out _) ?_))
          go_ret
          exact ⟨rfl, H.nix⟩
      · have HNE := Lib.hid (Nth_no (S := S) (lv := lv1) (m := mm) (p := T.p) (s := T.s) (mc := R.mc) HOK.out.2 hin)
        have HIS : Hid (∀ w, Calls Tryz.prog 9 #[.iface 42 (.int .i64 1), .int .i64 1] w fun e w' => e = .returned (.bool true) ∧ w' = w) := Lib.hid (fun w => is_ev 1 1 (by omega) true rfl w)
        generalize (S.txt id).length = ln at *
        clear HNT0 HLE HSB
        by_cases k1 : f < 0
        · have ek1 : decide (f < 0) = true := by simp; omega
          clear k1 hin
          go_wp2_with (first | refine sL ?_ | (refine sS ?_; clear H; intro _ H) | (refine sB ?_; clear H; intro _ _ H) | (refine sA ?_; clear H; intro _ _ H) | refine sF ?_ | (go_at_call 8; with_reducible refine TQ.use (HNE.out) HT.out H pk ts ?_; clear H; intro _ H) | (go_at_call 9; with_reducible refine same (HIS.out _) ?_))
          go_ret
          exact ⟨rfl, H.nix⟩
        · have ek1 : decide (f < 0) = false := by simp; omega
          have ek2 : decide ((1152921504606846976 : Int) < f) = true := by simp; omega
          clear k1 hin
          go_wp2_with (first | refine sL ?_ | (refine sS ?_; clear H; intro _ H) | (refine sB ?_; clear H; intro _ _ H) | (refine sA ?_; clear H; intro _ _ H) | refine sF ?_ | (go_at_call 8; with_reducible refine TQ.use (HNE.out) HT.out H pk ts ?_; clear H; intro _ H) | (go_at_call 9; with_reducible refine same (HIS.out _) ?_))
          go_ret
          exact ⟨rfl, H.nix⟩
    · replace H := H.grew hb.below
      clear hb
      go_wp2_with (first | refine sL ?_ | (refine sS ?_; clear H; intro _ H) | (refine sB ?_; clear H; intro _ _ H) | (refine sA ?_; clear H; intro _ _ H) | refine sF ?_)
      go_ret
      exact ⟨rfl, H.nix⟩
end Go.Proofs.YtijnhpaafhcndaaGreat
end
section
namespace Go.Proofs.YtijnhpaafhcndaaGreat
open Go.ChangeShapes Go.WideShapes Go.ChangeAt Go.RowKit Go.Deep
set_option linter.unusedVariables false
set_option linter.unusedSimpArgs false
set_option maxRecDepth 100000
theorem ownK : ownKnob Tryz.prog.godebug = none := by kernel_rfl
theorem i64_wf {x : Int} (h : (Lit.int .i64 x).wf = true) : fits64 x := by
  simp [Lit.wf, IntKind.min, IntKind.max, IntKind.signed, IntKind.bits] at h
  unfold fits64
  omega
theorem u8_wf {x : Int} (h : (Lit.int .u8 x).wf = true) : ∃ n : Nat, x = (n : Int) ∧ n < 256 := by
  simp [Lit.wf, IntKind.min, IntKind.max, IntKind.signed, IntKind.bits] at h
  exact ⟨x.toNat, by omega, by omega⟩
section
variable {H : Type} {enc : TypeId × Value → H} {w : World} {base : Nat} {spare : Nat → Bool} {held : Bool}
theorem open_row {α : Type} [Inhabited α] {ec : α → List Value} {k : Nat} (hk : ∀ x, (ec x).length = k) (hk0 : 0 < k) {t e : TypeId} (ht : Tryz.prog.underlying t = some (.slice e)) (hc : Tryz.prog.cellsOf e = k) (Ok : α → Prop)
    (el : ∀ n cs y, cs.length = k → DataW.trod enc Tryz.prog w base spare held n e cs = some y → ∃ x, cs = ec x ∧ Ok x) {fuel : Nat} {cs : List Value} {x : DataW H × List MemPlace} (h : DataW.trod enc Tryz.prog w base spare held fuel t cs = some x) :
    ∃ (v : Value) (xs : List α) (P : PoolT), cs = [v] ∧ RowIn P ec k v xs ∧ (poolA P).ho w ∧ ∀ x ∈ xs, Ok x := by
  rcases open_slice ht h with ⟨hcs, _⟩ | ⟨a, len, cap, m, n, D, Pl, hcs, _, hl, hm, hmm, _, hx⟩
  · exact ⟨_, [], [], hcs, RowIn.nil 0, poolA_nil w, by simp⟩
  · have hml : len ≤ m := by rw [hmm]; split <;> omega
    rw [hc] at hx
    by_cases h0 : len = 0
    · subst h0
      exact ⟨_, [], [], hcs, ⟨some a, cap, rfl, by simp, fun h => by simp at h⟩, poolA_nil w, by simp⟩
    obtain ⟨b, o, spot⟩ := a
    have key : ∀ i, i < len → ∃ x : α, w.cells? base ((⟨b, o, spot⟩ : Addr).add (i * k)) k = some (ec x) ∧ Ok x := fun i hi => by
      obtain ⟨cs', h1, h2⟩ := hx i (by omega)
      obtain ⟨x, rfl, hok⟩ := el _ _ _ (World.cells?_some h1).2.1 h2
      exact ⟨x, h1, hok⟩
    obtain ⟨f, hf2⟩ := choose_lt (α := α) key
    have hcell : ∀ i, i < len → ∀ j u, (ec (f i))[j]? = some u → w.cell? (((⟨b, o, spot⟩ : Addr).add (i * k)).add j) = some u := fun i hi j u hj => by
      have hj4 : j < k := by have := (List.getElem?_eq_some_iff.1 hj).1; rwa [hk] at this
      have := (World.cells?_some (hf2 i hi).1).2.2 j hj4
      rw [this, hj]
    have hl4 : 0 < (ec (f 0)).length := by rw [hk]; omega
    have hspot : spot = none := by
      have := World.cell?_spot (hcell 0 (by omega) 0 _ (List.getElem?_eq_getElem hl4))
      simpa [Addr.add] using this
    subst hspot
    have hadd : ∀ i j, ((⟨b, o, none⟩ : Addr).add (i * k)).add j = ⟨b, o + (i * k + j), none⟩ := fun i j => by rw [Addr.add_mid, Addr.add_mid]; congr 1; omega
    have hblk : b < w.heap.size := by
      have := block_lt_of_cell (hcell 0 (by omega) 0 _ (List.getElem?_eq_getElem hl4))
      rw [hadd] at this
      exact this
    unfold maxLen at hm
    have hlen : ((List.range len).map f).length = len := by simp
    refine ⟨_, (List.range len).map f, [(b, o, flatG ec ((List.range len).map f))], hcs, ⟨some ⟨b, o, none⟩, cap, by rw [hlen], by rw [hlen]; unfold maxLen; omega, fun _ => ⟨b, o, rfl, by simp⟩⟩, ?_, ?_⟩
    · rw [poolA_ho]
      intro y hy
      simp only [List.mem_singleton] at hy
      subst hy
      refine ⟨hblk, fun jj u hj => ?_⟩
      have hjl := getElem_len hj
      rw [flatG_len ec k hk, hlen] at hjl
      have hi : jj / k < len := by rw [Nat.div_lt_iff_lt_mul hk0]; exact hjl
      have hjk : jj % k < k := Nat.mod_lt _ hk0
      have hget : ((List.range len).map f)[jj / k]? = some (f (jj / k)) := by rw [List.getElem?_map, List.getElem?_range hi]; rfl
      have hfl := flatG_get ec k hk _ (jj / k) _ hget (jj % k) hjk
      have hdm : jj / k * k + jj % k = jj := by have := Nat.div_add_mod jj k; rw [Nat.mul_comm] at this; exact this
      rw [hdm, hj] at hfl
      have := hcell (jj / k) hi (jj % k) u hfl.symm
      rw [hadd, hdm] at this
      exact this
    · intro y hy
      obtain ⟨i, hi, rfl⟩ := List.mem_map.1 hy
      exact (hf2 i (List.mem_range.1 hi)).2
theorem open_ints_row {t e : TypeId} (ht : Tryz.prog.underlying t = some (.slice e)) (he : Tryz.prog.underlying e = some (.int .i64)) (hc : Tryz.prog.cellsOf e = 1) {fuel : Nat} {cs : List Value} {x : DataW H × List MemPlace} (h : DataW.trod enc Tryz.prog w base spare held fuel t cs = some x) :
    ∃ (v : Value) (xs : List Int) (P : PoolT), cs = [v] ∧ RowIn P encZ 1 v xs ∧ (poolA P).ho w ∧ ∀ x ∈ xs, fits64 x :=
  open_row encZ_len (by omega) ht hc fits64 (fun n cs y hl hy => by
    obtain ⟨z, rfl, _, hz⟩ := DataW.trod_int he hy
    exact ⟨z, rfl, i64_wf hz⟩) h
theorem rows_all {rvs : List Value} (h : ∀ v ∈ rvs, ∃ (xs : List Int) (P : PoolT), RowIn P encZ 1 v xs ∧ (poolA P).ho w) :
    ∃ (nx : List (List Int)) (P : PoolT), rvs.length = nx.length ∧ (∀ (i : Nat) (rv : Value) (r : List Int), rvs[i]? = some rv → nx[i]? = some r → RowIn P encZ 1 rv r) ∧ (poolA P).ho w := by
  induction rvs with
  | nil => exact ⟨[], [], rfl, fun i rv r h => by simp at h, poolA_nil w⟩
  | cons v rvs ih =>
    obtain ⟨nx, P, h1, h2, h3⟩ := ih fun u hu => h u (by simp [hu])
    obtain ⟨xs, Q, h4, h5⟩ := h v (by simp)
    refine ⟨xs :: nx, Q ++ P, by simp [h1], fun i rv r hr hn => ?_, poolA_append h5 h3⟩
    cases i with
    | zero =>
      simp at hr hn
      subst hr hn
      exact h4.mono fun x hx => List.mem_append.2 (.inl hx)
    | succ i =>
      simp at hr hn
      exact (h2 i rv r hr hn).mono fun x hx => List.mem_append.2 (.inr hx)
instance : Inhabited Mk := ⟨⟨0, 0, 0, 0, 0⟩⟩
instance : Inhabited Value := ⟨.nilIface⟩
theorem take5 {α : Type} {cs : List α} (h : cs.length = 5) : ∃ a b c d e, cs = [a, b, c, d, e] := by
  match cs, h with
  | [a, b, c, d, e], _ => exact ⟨a, b, c, d, e, rfl⟩
theorem open_make {n : Nat} {cs : List Value} {y : DataW H × List MemPlace} (hl : cs.length = 5) (h : DataW.trod enc Tryz.prog w base spare held n 118 cs = some y) : ∃ m : Mk, cs = mkL m ∧ m.Fits := by
  obtain ⟨a, b, c, d, e, rfl⟩ := take5 hl
  obtain ⟨xs, k, _, _, _, hxl, hf⟩ := DataW.trod_struct Tryz.underlying118 h
  have c3 : Tryz.prog.cellsOf 3 = 1 := by kernel_rfl
  have c5 : Tryz.prog.cellsOf 5 = 1 := by kernel_rfl
  have get : ∀ i, i < 5 → ∃ y, xs[i]? = some y := fun i hi => ⟨xs[i]'(by rw [hxl]; exact hi), List.getElem?_eq_getElem _⟩
  obtain ⟨y0, g0⟩ := get 0 (by omega)
  obtain ⟨y1, g1⟩ := get 1 (by omega)
  obtain ⟨y2, g2⟩ := get 2 (by omega)
  obtain ⟨y3, g3⟩ := get 3 (by omega)
  obtain ⟨y4, g4⟩ := get 4 (by omega)
  have f0 : DataW.trod enc Tryz.prog w base spare held k 3 ((([a, b, c, d, e] : List Value).drop 0).take (Tryz.prog.cellsOf 3)) = some y0 := (hf 0 _ rfl).trans g0
  rw [c3] at f0
  have f1 : DataW.trod enc Tryz.prog w base spare held k 5 ((([a, b, c, d, e] : List Value).drop 1).take (Tryz.prog.cellsOf 5)) = some y1 := (hf 1 _ rfl).trans g1
  rw [c5] at f1
  have f2 : DataW.trod enc Tryz.prog w base spare held k 3 ((([a, b, c, d, e] : List Value).drop 2).take (Tryz.prog.cellsOf 3)) = some y2 := (hf 2 _ rfl).trans g2
  rw [c3] at f2
  have f3 : DataW.trod enc Tryz.prog w base spare held k 3 ((([a, b, c, d, e] : List Value).drop 3).take (Tryz.prog.cellsOf 3)) = some y3 := (hf 3 _ rfl).trans g3
  rw [c3] at f3
  have f4 : DataW.trod enc Tryz.prog w base spare held k 3 ((([a, b, c, d, e] : List Value).drop 4).take (Tryz.prog.cellsOf 3)) = some y4 := (hf 4 _ rfl).trans g4
  rw [c3] at f4
  obtain ⟨z0, e0, _, w0⟩ := DataW.trod_int Tryz.underlying3 f0
  obtain ⟨z1, e1, _, w1⟩ := DataW.trod_int Tryz.underlying5 f1
  obtain ⟨z2, e2, _, w2⟩ := DataW.trod_int Tryz.underlying3 f2
  obtain ⟨z3, e3, _, w3⟩ := DataW.trod_int Tryz.underlying3 f3
  obtain ⟨z4, e4, _, w4⟩ := DataW.trod_int Tryz.underlying3 f4
  simp only [List.drop_zero, List.take_succ_cons, List.take_zero, List.drop_succ_cons, List.cons.injEq, and_true] at e0 e1 e2 e3 e4
  obtain ⟨l, rfl, hl8⟩ := u8_wf w1
  subst e0 e1 e2 e3 e4
  exact ⟨⟨z0, l, z2, z3, z4⟩, rfl, ⟨i64_wf w0, hl8, i64_wf w2, i64_wf w3, i64_wf w4⟩⟩
theorem open_input {fuel : Nat} {cs : List Value} {x : DataW H × List MemPlace} (h : DataW.trod enc Tryz.prog w base spare held fuel 29 cs = some x) :
    ∃ (P : PoolT) (cv nv av hv lv : Value) (rvs : List Value) (R : Raw) (ms : List Mk) (N : Int), cs = [.int .i64 R.start, cv, nv, av, hv, lv, .int .i64 N] ∧ RawAt P cv nv av hv rvs R ∧ RowIn P mkL 5 lv ms ∧ (∀ m ∈ ms, m.Fits) ∧ fits64 R.start ∧ fits64 N ∧ (poolA P).ho w := by
  have c29 : Tryz.prog.cellsOf 29 = 7 := by kernel_rfl
  have c26 : Tryz.prog.cellsOf 26 = 4 := by kernel_rfl
  have c22 : Tryz.prog.cellsOf 22 = 1 := by kernel_rfl
  have c23 : Tryz.prog.cellsOf 23 = 1 := by kernel_rfl
  have c24 : Tryz.prog.cellsOf 24 = 1 := by kernel_rfl
  have c27 : Tryz.prog.cellsOf 27 = 1 := by kernel_rfl
  have c3 : Tryz.prog.cellsOf 3 = 1 := by kernel_rfl
  have c4 : Tryz.prog.cellsOf 4 = 1 := by kernel_rfl
  have c115 : Tryz.prog.cellsOf 118 = 5 := by kernel_rfl
  obtain ⟨y0, y1, y2, y3, n, _, hl, f0, f1, f2, f3⟩ := Joins.trod_struct4 Tryz.underlying29 h
  rw [c29] at hl
  obtain ⟨a0, a1, a2, a3, a4, a5, a6, rfl⟩ : ∃ a0 a1 a2 a3 a4 a5 a6, cs = [a0, a1, a2, a3, a4, a5, a6] := by
    match cs, hl with
    | [a0, a1, a2, a3, a4, a5, a6], _ => exact ⟨a0, a1, a2, a3, a4, a5, a6, rfl⟩
  simp only [c26, c22, c27, c3, List.drop_zero, List.take_succ_cons, List.take_zero, List.drop_succ_cons] at f0 f1 f2 f3
  obtain ⟨z0, z1, z2, z3, n2, _, _, g0, g1, g2, g3⟩ := Joins.trod_struct4 Tryz.underlying26 f0
  simp only [c22, c23, c24, c3, List.drop_zero, List.take_succ_cons, List.take_zero, List.drop_succ_cons] at g0 g1 g2 g3
  obtain ⟨st, e0, _, w0⟩ := DataW.trod_int Tryz.underlying3 g0
  obtain ⟨N, e6, _, w6⟩ := DataW.trod_int Tryz.underlying3 f3
  obtain ⟨cv, cls, P1, e1, r1, p1, _⟩ := open_ints_row Tryz.underlying22 Tryz.underlying3 c3 g1
  obtain ⟨nv, rvs, P2, e2, r2, p2, hrv⟩ := open_row (ec := encV) encV_len (by omega) Tryz.underlying23 c22 (fun v => ∃ (xs : List Int) (P : PoolT), RowIn P encZ 1 v xs ∧ (poolA P).ho w) (fun n cs y hl hy => by
    obtain ⟨v, xs, P, rfl, hr, hp, _⟩ := open_ints_row Tryz.underlying22 Tryz.underlying3 c3 hy
    exact ⟨v, rfl, xs, P, hr, hp⟩) g2
  obtain ⟨av, acc, P3, e3, r3, p3, _⟩ := open_row (ec := encB) encB_len (by omega) Tryz.underlying24 c4 (fun _ => True) (fun n cs y hl hy => by
    obtain ⟨b, rfl, _⟩ := DataW.trod_bool Tryz.underlying4 hy
    exact ⟨b, rfl, trivial⟩) g3
  obtain ⟨hv, wts, P4, e4, r4, p4, _⟩ := open_ints_row Tryz.underlying22 Tryz.underlying3 c3 f1
  obtain ⟨lv, ms, P5, e5, r5, p5, hms⟩ := open_row (ec := mkL) mkL_len (by omega) Tryz.underlying27 c115 Mk.Fits (fun n cs y hl hy => open_make hl hy) f2
  obtain ⟨nx, P6, hlen, hrows, p6⟩ := rows_all hrv
  simp only [List.cons.injEq, and_true] at e0 e1 e2 e3 e4 e5 e6
  subst e0 e1 e2 e3 e4 e5 e6
  have i1 : ∀ x ∈ P1, x ∈ P1 ++ (P2 ++ (P3 ++ (P4 ++ (P5 ++ P6)))) := fun x hx => by simp [hx]
  have i2 : ∀ x ∈ P2, x ∈ P1 ++ (P2 ++ (P3 ++ (P4 ++ (P5 ++ P6)))) := fun x hx => by simp [hx]
  have i3 : ∀ x ∈ P3, x ∈ P1 ++ (P2 ++ (P3 ++ (P4 ++ (P5 ++ P6)))) := fun x hx => by simp [hx]
  have i4 : ∀ x ∈ P4, x ∈ P1 ++ (P2 ++ (P3 ++ (P4 ++ (P5 ++ P6)))) := fun x hx => by simp [hx]
  have i5 : ∀ x ∈ P5, x ∈ P1 ++ (P2 ++ (P3 ++ (P4 ++ (P5 ++ P6)))) := fun x hx => by simp [hx]
  have i6 : ∀ x ∈ P6, x ∈ P1 ++ (P2 ++ (P3 ++ (P4 ++ (P5 ++ P6)))) := fun x hx => by simp [hx]
  exact ⟨P1 ++ (P2 ++ (P3 ++ (P4 ++ (P5 ++ P6)))), _, _, _, _, _, rvs, ⟨st, cls, nx, acc, wts⟩, ms, N, rfl, ⟨r1.mono i1, r2.mono i2, hlen, fun i rv r h1 h2 => (hrows i rv r h1 h2).mono i6, r3.mono i3, r4.mono i4⟩, r5.mono i5, hms, i64_wf w0, i64_wf w6, poolA_append p1 (poolA_append p2 (poolA_append p3 (poolA_append p4 (poolA_append p5 p6))))⟩
theorem arg_input {r : Reach} {b0 : Nat} {v : Value} {d : DataW H} {p : List MemPlace} (hv : Value.okWide Tryz.prog w r b0 29 v) (h : DataW.Trod enc Tryz.prog w base spare held 29 v d p) :
    ∃ (P : PoolT) (cv nv av hv lv : Value) (rvs : List Value) (R : Raw) (ms : List Mk) (N : Int), v = .agg #[.int .i64 R.start, cv, nv, av, hv, lv, .int .i64 N] ∧ RawAt P cv nv av hv rvs R ∧ RowIn P mkL 5 lv ms ∧ (∀ m ∈ ms, m.Fits) ∧ fits64 R.start ∧ fits64 N ∧ (poolA P).ho w := by
  obtain ⟨cs, rfl, _⟩ := okWide_struct Tryz.underlying29 hv
  obtain ⟨fuel, hf⟩ := h
  obtain ⟨P, cv, nv, av, hv', lv, rvs, R, ms, N, e, h1⟩ := open_input hf
  refine ⟨P, cv, nv, av, hv', lv, rvs, R, ms, N, ?_, h1⟩
  have e2 : cs.toList = [.int .i64 R.start, cv, nv, av, hv', lv, .int .i64 N] := e
  rw [← e2]
theorem arg_int {r : Reach} {b0 : Nat} {v : Value} {d : DataW H} {p : List MemPlace} (hv : Value.okWide Tryz.prog w r b0 3 v) (h : DataW.Trod enc Tryz.prog w base spare held 3 v d p) : ∃ z, v = .int .i64 z ∧ fits64 z := by
  obtain ⟨z, rfl, h1, h2, h3⟩ := open_int Tryz.underlying3 hv h
  exact ⟨z, rfl, i64_wf h3⟩
end
end Go.Proofs.YtijnhpaafhcndaaGreat
end
section
namespace Go.Proofs.YtijnhpaafhcndaaGreat.lawNth
open Go.ChangeShapes Go.WideShapes Go.ChangeAt Go.RowKit
open Go.Proofs.YtijnhpaafhcndaaGreat
set_option linter.unusedVariables false
set_option maxRecDepth 100000 in
theorem lifted (os : Os) (started : os.Started) (H : Type) (enc : TypeId × Value → H) :
    ReturnsInHanded {} Tryz.checked os 3 .any (Rows.locateNthSpec.pre6 enc Tryz.prog Tryz.f3 Rows.locateNthRow.domain false) (Rows.locateNthSpec.post enc Tryz.prog Tryz.f3 false true false false) := by
  refine returnsInHanded_of_change (C := Tryz.checked) ownK started (by kernel_rfl) Tryz.func3
    (ChangeSpec.witness6 (enc := enc) (C := Tryz.checked) false ⟨#[], #[.agg #[.int .i64 0, .slice none 0 0, .slice none 0 0, .slice none 0 0, .slice none 0 0, .slice none 0 0, .int .i64 0], .int .i64 0], []⟩ 8 (by kernel_rfl) (by kernel_rfl) (by kernel_rfl) (by kernel_rfl)) ?_
  intro W base args ds gs before hval0 hW hcnd _
  have hval : ∀ (j : Nat) t v, Tryz.f3.params[j]? = some t → args[j]? = some v → Value.okWide Tryz.prog W .any base t v := hval0
  have hW' := hW
  obtain ⟨p, q, hA0, hV, rfl, hfz, hnd⟩ := hW
  have hA : DataW.TrodAll enc Tryz.prog W 0 (fun _ => true) true Tryz.f3.params.toList args.toList ds p := hA0
  rw [Tryz.params3] at hA hval
  obtain ⟨v0, vs0, d0, ds0, p0, q0, hargs, rfl, rfl, h0, r0⟩ := trodAll_cons hA
  obtain ⟨v1, vs1, d1, ds1, p1, q1, rfl, rfl, rfl, h1, r1⟩ := trodAll_cons r0
  obtain ⟨rfl, rfl, rfl⟩ := trodAll_nil r1
  obtain rfl : args = #[v0, v1] := by cases args; simp_all
  obtain ⟨rfl, rfl⟩ := trodVars_none hV
  have k0 := h0
  have lt0 : ∀ x ∈ p0, x.block < W.heap.size := by obtain ⟨m, hm⟩ := k0; exact DataW.trod_lt m _ _ _ hm
  have k1 := h1
  have lt1 : ∀ x ∈ p1, x.block < W.heap.size := by obtain ⟨m, hm⟩ := k1; exact DataW.trod_lt m _ _ _ hm
  obtain ⟨P, cv, nv, av, hv, lv, rvs, R, ms, N, rfl, hraw, hms, hf, hs, hN, hp⟩ := arg_input (hval 0 29 v0 rfl rfl) h0
  obtain ⟨z1, rfl, b1⟩ := arg_int (hval 1 3 v1 rfl rfl) h1
  clear hA0 hval0
  refine (nth_walk hraw hms hf hs hN b1 W hp).mono fun e W' ⟨he, bel⟩ => ?_
  subst he
  exact ⟨_, rfl, _, _, _, [], _, [], hW', trodAll_mk1 (shut_bool Tryz.underlying4 _), (trodAll_cons_mk (Below.trod laidOut_ok (by kernel_rfl) (of_decide_eq_true (by kernel_rfl)) k0 bel.below lt0) (trodAll_cons_mk (Below.trod laidOut_ok (by kernel_rfl) (of_decide_eq_true (by kernel_rfl)) k1 bel.below lt1) trodAll_mk0)), rfl, bel.below.frame _, fun h => by cases h⟩
theorem over : Rows.locateNthRow.holds Tryz.pinned (OpenSpec.ofChange Rows.locateNthSpec) :=
  OpenClaim.holds_of_wide 3 Tryz.f3 rfl rfl rfl rfl rfl rfl rfl ⟨rfl, rfl, rfl, rfl, rfl⟩ rfl rfl rfl rfl rfl (by kernel_rfl) Tryz.func3 (by kernel_rfl)
    (of_decide_eq_true (by kernel_rfl)) (by unfold Func.isWrapper; first | (rw [if_pos (by decide +kernel)]; kernel_rfl) | (rw [if_neg (by decide +kernel)]; exact ⟨rfl, rfl⟩))
    (fun os started H enc _ => lifted os started H enc)
theorem proved : Rows.LocateNthSaid := over
#print axioms proved
end Go.Proofs.YtijnhpaafhcndaaGreat.lawNth
end
