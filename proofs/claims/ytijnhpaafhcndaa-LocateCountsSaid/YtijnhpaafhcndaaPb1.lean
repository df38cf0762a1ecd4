/-
  LocateCounts: the given statement. For every input the law returns true and leaves its arguments. No condition beyond the statement's own.
-/
import Derived.Test.YtijnhpaafhcndaaBa5
import Derived.ChangeOld
import Derived.Deep.Slices
import Derived.Lib.SmallJoins
import Derived.OpenShut
import Derived.ProofKit
import Derived.ShutString
import Derived.Test.YtijnhpaafhcndaaRows
section
namespace Go.Proofs.Ytijnhpaafhcndaa
open Go.RowKit Go.Maps
attribute [local go_sem] InGr
set_option maxHeartbeats 4000000
set_option maxRecDepth 100000
set_option linter.unusedSimpArgs false
set_option linter.unusedVariables false
theorem xrefs_pair (L R : Nat) (w : World) : Calls Try.prog 93 #[.agg #[.int .i64 (2 : Nat), .int .u8 (0 : Nat), .int .i64 L, .int .i64 R, .int .i64 (0 : Nat)]] w (RefsPost [L, R] w) := by
  have H := St.nil w []
  go_enter Try.func93, Try.ntmps93
  go_wp2_with (first | refine sL ?_ | (refine sB ?_; clear H; intro _ _ H) | ((with_reducible refine isSlice ?_); refine AtSlice.two encI H rfl rfl rfl rfl rfl rfl rfl rfl L R rfl rfl encI_len ?_; clear H; intro b _ H; simp only [Act.put, puA, puB, puC]))
  go_ret
  refine ⟨_, rfl, ?_⟩
  refine (H.conv (A' := rowsA encI 32 1 (.slice (some ⟨_, 0, none⟩) 2 2) [L, R]) (by rw [rowsA_fp', blk_fp]; rfl) fun hb => ?_).onlyHead
  rw [blk_ho] at hb
  exact rowsA_of_blk (xs := [L, R]) hb (by simp [maxLen]) rfl encI_len
theorem xrefs_power (L k : Nat) (w : World) : Calls Try.prog 93 #[.agg #[.int .i64 (3 : Nat), .int .u8 (0 : Nat), .int .i64 L, .int .i64 (0 : Nat), .int .i64 k]] w (RefsPost [L] w) := by
  have H := St.nil w []
  go_enter Try.func93, Try.ntmps93
  go_wp2_with (first | refine sL ?_ | (refine sB ?_; clear H; intro _ _ H) | ((with_reducible refine isSlice ?_); refine AtSlice.one H rfl rfl rfl rfl rfl rfl rfl rfl rfl ?_; clear H; intro b _ H; simp only [Act.put, puA, puB, puC]))
  go_ret
  refine ⟨_, rfl, ?_⟩
  refine (H.conv (A' := rowsA encI 32 1 (.slice (some ⟨_, 0, none⟩) 1 1) [L]) (by rw [rowsA_fp', blk_fp]; rfl) fun hb => ?_).onlyHead
  rw [blk_ho] at hb
  exact rowsA_of_blk (xs := [L]) hb (by simp [maxLen]) rfl encI_len
theorem xrefs_letter (b : Nat) (w : World) : Calls Try.prog 93 #[.agg #[.int .i64 (1 : Nat), .int .u8 b, .int .i64 (0 : Nat), .int .i64 (0 : Nat), .int .i64 (0 : Nat)]] w (RefsPost [] w) := by
  have H := St.nil w []
  go_enter Try.func93, Try.ntmps93
  go_wp2_with (first | refine sL ?_ | (refine sB ?_; clear H; intro _ _ H))
  go_ret
  exact ⟨_, rfl, (H.empty (A := rowsA encI 32 1 (.slice none 0 0) []) (rowsA_nil _) (by rw [rowsA_fp']; rfl)).onlyHead⟩
section
variable {ops : Array Oper} {Q : Exit → Act → World → Prop} {rest : List Oper} {a : Act} {w w0 : World} {M : List Nat} {L : List As} {o1 : Oper}
theorem AtSlice.zero {α : Type} (enc : α → List Value) {t e : TypeId} (H : St w0 M L w) (hw : Region.wanted o1 (yielded ops a.tmps) = true) (ho : o1.op = .buildSlice t 0 #[]) (hte : sliceO t = some e) {z : Value} {k bytes : Nat} (hi : infoO e = some (z, k, bytes)) (hk : ∀ x, (enc x).length = k)
    (h : ∀ b w', St w0 M (rowsA enc e k (.slice (some ⟨b, 0, none⟩) 0 0) [] :: L) w' → wpList Try.prog ops Q rest (a.put o1.dst (.slice (some ⟨b, 0, none⟩) 0 0)) w') : AtSlice Try.prog ops Q o1 t 0 #[] rest a w :=
  wpList_step fun _ hK => by
    rw [if_pos hw]
    unfold Oper.wp execOp
    simp only [ho, List.map_toArray, List.map_nil, Sem.run_bind, run_slice0 hte hi, Result.andThen_ok, Sem.run_pure]
    exact hK _ _ (h _ _ ((H.alloc (.cells #[] e)).conv (by rw [rowsA_fp', blk_fp]; rfl) fun hb => rowsA_of_blk (xs := []) (by rw [blk_ho] at hb; exact hb) (by simp [maxLen]) (by simp [flatG]) hk))
end
theorem enc8_one (x : Nat) : ∀ u ∈ enc8 x, u.oneCell' = true := by
  intro u hu
  simp [enc8] at hu
  subst hu
  rfl
abbrev DerPost (l : List Nat) (w : World) (e : Ending) (w' : World) : Prop := ∃ v, e = .returned v ∧ St w [] [rowsA enc8 5 1 v l] w'
theorem derive_c {S : Sto} (hS : S.Ok) {P : PoolT} {n c : Nat} {ad : Option Addr} (hrow : RowIn P encR 5 (.slice ad n c) (S.list.take n)) (hn : n ≤ S.list.length) :
    ∀ (i : Nat), i < n → (S.txt (i + 1)).length ≤ 300 → ∀ (z : Int), z = (i : Int) + 1 → ∀ w, (poolA P).ho w → Calls Try.prog 94 #[.slice ad n c, .int .i64 z] w (DerPost (S.txt (i + 1)) w) := by
  intro i
  induction i using Nat.strongRecOn with
  | _ i ih =>
    intro hi hl z hz w hp
    subst hz
    have H := St.nil w []
    have HK := Ks.one hp
    obtain ⟨x, hx⟩ : ∃ x, S.list[i]? = some x := ⟨S.list[i], by simp⟩
    have hx' : (S.list.take n)[i]? = some x := by rw [List.getElem?_take, if_pos hi]; exact hx
    have hpos : 0 < (S.list.take n).length := by simp; omega
    obtain ⟨g, o, c', he, hm⟩ := hrow.has hpos
    injection he with e1 e2 e3
    subst e1
    have HR := Lib.hid hrow
    have HX0 := Lib.hid hx'
    have HI := Lib.hid ih
    have hln := hS.len
    have hmost := hS.most
    have hent := hS.ents i x hx
    clear ih hrow hp hx' e2 e3 hm hpos
    cases hent with
    | letter b hb =>
      rw [S.txt_letter hx]
      clear hx hl
      go_enter Try.func94, Try.ntmps94
      go_wp2_with (first | refine sL ?_ | (refine sS ?_; clear H; intro _ H) | (refine sA ?_; clear H; intro _ _ H) | ((with_reducible refine isLoad ?_); refine AtLoad.rngT (vs := [.int .i64 (1 : Nat), .int .u8 b, .int .i64 (0 : Nat), .int .i64 (0 : Nat), .int .i64 (0 : Nat)]) rfl rfl rfl (HR.out.rng (H.known HK pk) encR_len HX0.out) rfl ?_; simp only [Act.put, puA, puB, puC]) | ((with_reducible refine isSlice ?_); refine AtSlice.one H rfl rfl rfl rfl rfl rfl rfl rfl rfl ?_; clear H; intro b1 _ H; simp only [Act.put, puA, puB, puC]))
      go_ret
      refine ⟨_, rfl, ?_⟩
      refine (H.conv (A' := rowsA enc8 5 1 (.slice (some ⟨_, 0, none⟩) 1 1) [b]) (by rw [rowsA_fp', blk_fp]; rfl) fun hb => ?_).onlyHead
      rw [blk_ho] at hb
      exact rowsA_of_blk (xs := [b]) hb (by simp [maxLen]) rfl enc8_len
    | pair l r y y2 hl1 hr1 hy1 hy2 hle =>
      rw [S.txt_pair hl1 hr1 hx] at hl ⊢
      rw [List.length_append] at hl
      have HD1 := Lib.hid (fun w h => HI.out l hl1 (by omega) (by omega) ((l : Int) + 1) rfl w h)
      have HD2 := Lib.hid (fun w h => HI.out r hr1 (by omega) (by omega) ((r : Int) + 1) rfl w h)
      generalize S.txt (l + 1) = t1 at *
      generalize S.txt (r + 1) = t2 at *
      clear HI hx
      go_enter Try.func94, Try.ntmps94
      go_wp2_with (first | refine sL ?_ | (refine sS ?_; clear H; intro _ H) | (refine sA ?_; clear H; intro _ _ H) | ((with_reducible refine isLoad ?_); refine AtLoad.rngT (vs := [.int .i64 (2 : Nat), .int .u8 (0 : Nat), .int .i64 ((l + 1 : Nat) : Int), .int .i64 ((r + 1 : Nat) : Int), .int .i64 (0 : Nat)]) rfl rfl rfl (HR.out.rng (H.known HK pk) encR_len HX0.out) rfl ?_; simp only [Act.put, puA, puB, puC]) | ((with_reducible refine isSlice ?_); refine AtSlice.zero enc8 H rfl rfl rfl rfl enc8_len ?_; clear H; intro b1 _ H; simp only [Act.put, puA, puB, puC]) | (go_at_call 94; with_reducible refine Calls.mono (HD1.out _ (H.known HK pk)) ?_; rintro e wc ⟨v1, rfl, hb⟩; replace H := H.call0 hb; clear hb; simp only [List.cons_append, List.nil_append] at H) | (go_at_call 94; with_reducible refine Calls.mono (HD2.out _ (H.known HK pk)) ?_; rintro e wc ⟨v2, rfl, hb⟩; replace H := H.call0 hb; clear hb; simp only [List.cons_append, List.nil_append] at H) | ((with_reducible refine isAppend ?_); refine AtAppend.rows (xs := []) H rfl rfl rfl rfl rfl (by decide) (by decide) rfl pk rfl (H.get (A := rowsA enc8 5 1 v1 t1) pk) enc8_len enc8_one (by simp; omega) ?_; clear H; intro ad3 cp3 _ H; simp only [List.length_nil, Nat.zero_add, List.nil_append] at H; simp only [Act.put, puA, puB, puC, List.length_nil, Nat.zero_add]) | ((with_reducible refine isAppend ?_); refine AtAppend.rows (xs := t1) H rfl rfl rfl rfl rfl (by decide) (by decide) rfl pk rfl (H.get (A := rowsA enc8 5 1 v2 t2) pk) enc8_len enc8_one (by simp; omega) ?_; clear H; intro ad4 cp4 _ H; simp only [Act.put, puA, puB, puC]))
      go_ret
      exact ⟨_, rfl, H.onlyHead⟩
    | power l k y hl1 hy1 hk hle =>
      rw [S.txt_power hl1 hx] at hl ⊢
      rw [rep_len] at hl
      have hlen1 : (S.txt (l + 1)).length ≤ 300 := by have := Nat.le_mul_of_pos_left (S.txt (l + 1)).length (show 0 < k by omega); omega
      have hkm := power_le hS (tid := l + 1) hx
      have HD1 := Lib.hid (fun w h => HI.out l hl1 (by omega) hlen1 ((l : Int) + 1) rfl w h)
      generalize S.txt (l + 1) = t1 at *
      clear HI hx
      go_enter Try.func94, Try.ntmps94
      go_wp2_with (first | refine sL ?_ | (refine sS ?_; clear H; intro _ H) | (refine sA ?_; clear H; intro b5 _ H) | ((with_reducible refine isLoad ?_); refine AtLoad.rngT (vs := [.int .i64 (3 : Nat), .int .u8 (0 : Nat), .int .i64 ((l + 1 : Nat) : Int), .int .i64 (0 : Nat), .int .i64 k]) rfl rfl rfl (HR.out.rng (H.known HK pk) encR_len HX0.out) rfl ?_; simp only [Act.put, puA, puB, puC]) | ((with_reducible refine isSlice ?_); refine AtSlice.zero enc8 H rfl rfl rfl rfl enc8_len ?_; clear H; intro b1 _ H; simp only [Act.put, puA, puB, puC]) | (go_at_call 94; with_reducible refine Calls.mono (HD1.out _ (H.known HK pk)) ?_; rintro e wc ⟨v1, rfl, hb⟩; replace H := H.call0 hb; clear hb; simp only [List.cons_append, List.nil_append] at H) | ((with_reducible refine isAppend ?_); refine AtAppend.rows (xs := []) H rfl rfl rfl rfl rfl (by decide) (by decide) rfl pk rfl (H.get (A := rowsA enc8 5 1 v1 t1) pk) enc8_len enc8_one (by simp; omega) ?_; clear H; intro ad3 cp3 _ H; simp only [List.length_nil, Nat.zero_add, List.nil_append] at H; simp only [Act.put, puA, puB, puC, List.length_nil, Nat.zero_add]) | ((with_reducible refine isAppend ?_); refine AtAppend.rows (xs := []) H rfl rfl rfl rfl rfl (by decide) (by decide) rfl pk rfl (H.get (A := rowsA enc8 5 1 (.slice ad3 t1.length cp3) t1) pk) enc8_len enc8_one (by simp; omega) ?_; clear H; intro ad4 cp4 _ H; simp only [List.length_nil, Nat.zero_add, List.nil_append] at H; simp only [Act.put, puA, puB, puC, List.length_nil, Nat.zero_add]))
      go_loopw [6, 8] (fun v6 v8 wr => ∃ j : Nat, v8 = .int .i64 j ∧ 1 ≤ j ∧ j ≤ k ∧ St w [] [rowsA enc8 5 1 v6 (rep j t1), rowsA enc8 5 1 (.slice ad4 t1.length cp4) t1, blk b5 (.cells #[.int .i64 (3 : Nat), .int .u8 (0 : Nat), .int .i64 ((l + 1 : Nat) : Int), .int .i64 (0 : Nat), .int .i64 k] 100)] wr) (fun _ v8 _ => k - (intOf v8).toNat)
      case atStart => exact ⟨1, rfl, Nat.le_refl _, by omega, by rw [rep_one]; exact H.only3 (A := rowsA enc8 5 1 (.slice ad3 t1.length cp3) t1) (B := rowsA enc8 5 1 (.slice ad4 t1.length cp4) t1) pk pk pk⟩
      case round =>
        clear H
        obtain ⟨j, rfl, hj1, hjk, H⟩ := hrel
        by_cases hlt : j < k
        · have hjl : (rep j t1).length + t1.length ≤ 300 := by
            rw [rep_len]
            have := Nat.mul_le_mul_right t1.length (show j + 1 ≤ k by omega)
            rw [Nat.succ_mul] at this
            omega
          have HJL := Lib.hid hjl
          clear hjl
          go_wp2_with (first | refine sL ?_ | (refine sS ?_; clear H; intro _ H) | (refine sA ?_; clear H; intro _ _ H) | ((with_reducible refine isAppend ?_); refine AtAppend.rows (xs := rep j t1) H rfl rfl rfl rfl rfl (by decide) (by decide) rfl pk rfl (H.get (A := rowsA enc8 5 1 (.slice ad4 t1.length cp4) t1) pk) enc8_len enc8_one (by have := HJL.out; omega) ?_; clear H; intro ad5 cp5 _ H; simp only [Act.put, puA, puB, puC]))
          exact ⟨⟨j + 1, by go_num, by omega, by omega, by rw [rep_add, rep_one]; exact H⟩, by simp [intOf]; omega⟩
        · obtain rfl : j = k := by omega
          go_wp2_with (first | refine sL ?_ | (refine sS ?_; clear H; intro _ H) | (refine sA ?_; clear H; intro _ _ H))
          go_ret
          exact ⟨_, rfl, H.onlyHead⟩
end Go.Proofs.Ytijnhpaafhcndaa
end
section
namespace Go.Proofs.Ytijnhpaafhcndaa
open Go.RowKit Go.Maps
attribute [local go_sem] InGr
set_option maxHeartbeats 8000000
set_option maxRecDepth 100000
set_option linter.unusedSimpArgs false
set_option linter.unusedVariables false
def capX (S : Sto) (k : Nat) : Nat := min (S.txt k).length 301
def capL (S : Sto) (n i : Nat) : List Nat := (List.range (n + 1)).map fun k => if k ≤ i then capX S k else 0
theorem capL_len (S : Sto) (n i : Nat) : (capL S n i).length = n + 1 := by simp [capL]
theorem capL_get {S : Sto} {n i k : Nat} (h : k ≤ i) (hi : i ≤ n) : (capL S n i)[k]? = some (capX S k) := by
  unfold capL
  rw [List.getElem?_map, List.getElem?_range (by omega)]
  simp [h]
theorem capL_zero (S : Sto) (n : Nat) : capL S n 0 = List.replicate (n + 1) 0 := by
  unfold capL
  refine List.ext_getElem (by simp) fun k h1 h2 => ?_
  simp only [List.getElem_map, List.getElem_range, List.getElem_replicate]
  split
  · obtain rfl : k = 0 := by omega
    simp [capX, S.txt_zero]
  · rfl
theorem capL_next {S : Sto} {n i : Nat} (h : i < n) {v : Nat} (hv : v = capX S (i + 1)) : (capL S n i).set (i + 1) v = capL S n (i + 1) := by
  subst hv
  unfold capL
  refine List.ext_getElem (by simp) fun k h1 h2 => ?_
  rw [List.getElem_set]
  simp only [List.getElem_map, List.getElem_range]
  split
  · subst_vars; simp
  · rename_i hk
    by_cases hki : k ≤ i
    · rw [if_pos hki, if_pos (by omega)]
    · rw [if_neg hki, if_neg (by omega)]
theorem capX_le (S : Sto) (k : Nat) : capX S k ≤ 301 := by unfold capX; omega
inductive RCase (S : Sto) (i : Nat) : Nat → Nat → Nat → Nat → Nat → List Nat → Prop
  | letter (b : Nat) (h : capX S (i + 1) = 1) : RCase S i 1 b 0 0 0 []
  | pair (l r : Nat) (hl : l + 1 ≤ i) (hr : r + 1 ≤ i) (h : (S.txt (i + 1)).length = (S.txt (l + 1)).length + (S.txt (r + 1)).length) : RCase S i 2 0 (l + 1) (r + 1) 0 [l + 1, r + 1]
  | power (l k : Nat) (hl : l + 1 ≤ i) (hk : 2 ≤ k) (hm : k ≤ 1152921504606846976) (h : (S.txt (i + 1)).length = k * (S.txt (l + 1)).length) : RCase S i 3 0 (l + 1) 0 k [l + 1]
theorem rcase {S : Sto} (hS : S.Ok) {i : Nat} (hi : i < S.list.length) : ∃ x kd lt lf rt tm rl, S.list[i]? = some x ∧ encR x = [.int .i64 (kd : Nat), .int .u8 (lt : Nat), .int .i64 (lf : Nat), .int .i64 (rt : Nat), .int .i64 (tm : Nat)] ∧ RCase S i kd lt lf rt tm rl ∧
    (∀ w, Calls Try.prog 93 #[.agg #[.int .i64 (kd : Nat), .int .u8 (lt : Nat), .int .i64 (lf : Nat), .int .i64 (rt : Nat), .int .i64 (tm : Nat)]] w fun e w' => ∃ v, e = .returned v ∧ St w [] [rowsA encI 32 1 v rl] w') ∧ (∀ r ∈ rl, 1 ≤ r ∧ r ≤ i) ∧ rl.length ≤ 2 := by
  obtain ⟨x, hx⟩ : ∃ x, S.list[i]? = some x := ⟨S.list[i], by simp⟩
  have hent := hS.ents i x hx
  cases hent with
  | letter b hb => exact ⟨_, 1, b, 0, 0, 0, [], hx, rfl, .letter b (by unfold capX; rw [S.txt_letter hx]; rfl), fun w => xrefs_letter b w, by simp, by simp⟩
  | pair l r y y2 hl1 hr1 hy1 hy2 hle => exact ⟨_, 2, 0, l + 1, r + 1, 0, [l + 1, r + 1], hx, rfl, .pair l r (by omega) (by omega) (by rw [S.txt_pair hl1 hr1 hx, List.length_append]), fun w => xrefs_pair (l + 1) (r + 1) w, by simp; omega, by simp⟩
  | power l k y hl1 hy1 hk hle => exact ⟨_, 3, 0, l + 1, 0, k, [l + 1], hx, rfl, .power l k (by omega) hk (power_le hS (tid := l + 1) hx) (by rw [S.txt_power hl1 hx, rep_len]), fun w => xrefs_power (l + 1) k w, by simp; omega, by simp⟩
def ExpPost (l : List Nat) (w : World) (e : Ending) (w' : World) : Prop :=
  (l.length ≤ 300 ∧ ∃ v, e = .returned (.tuple #[v, .bool true]) ∧ St w [] [rowsA enc8 5 1 v l] w') ∨ (¬ l.length ≤ 300 ∧ e = .returned (.tuple #[.slice none 0 0, .bool false]) ∧ St w [] [] w')
theorem expand_c {S : Sto} (hS : S.Ok) {P : PoolT} {n c : Nat} {ad : Option Addr} (hrow : RowIn P encR 5 (.slice ad n c) (S.list.take n)) (hn : n ≤ S.list.length) (w : World) (hp : (poolA P).ho w) :
    Calls Try.prog 64 #[.slice ad n c, .int .i64 300] w (ExpPost (S.txt n) w) := by
  have H := St.nil w []
  have HK := Ks.one hp
  have hln := hS.len
  have hmost := hS.most
  rcases Nat.eq_zero_or_pos n with rfl | hpos
  · clear hrow
    go_enter Try.func64, Try.ntmps64
    go_wp2_with (first | refine sL ?_ | (refine sS ?_; clear H; intro _ H) | (refine sA ?_; clear H; intro _ _ H))
    go_ret2
    exact .inl ⟨by simp [S.txt_zero], _, rfl, by rw [S.txt_zero]; exact (H.empty (A := rowsA enc8 5 1 (.slice none 0 0) []) (rowsA_nil _) (by rw [rowsA_fp']; rfl)).onlyHead⟩
  have hpos' : 0 < (S.list.take n).length := by simp; omega
  obtain ⟨g, o, c', he, hm⟩ := hrow.has hpos'
  injection he with e1 e2 e3
  subst e1
  have HDER := Lib.hid (fun (h : (S.txt n).length ≤ 300) w h2 => derive_c hS hrow hn (n - 1) (by omega) (by rw [show n - 1 + 1 = n by omega]; exact h) (n : Int) (by omega) w h2)
  rw [show n - 1 + 1 = n by omega] at HDER
  have HR := Lib.hid hrow
  have HC : Hid (∀ i, i < n → _) := Lib.hid (fun i (hi : i < n) => rcase hS (i := i) (by omega))
  have hn1 : ((n : Int) + 1) = ((n + 1 : Nat) : Int) := rfl
  have h0 : ((n : Int) == 0) = false := by rw [beq_eq_false_iff_ne]; omega
  clear hrow hp e2 e3 hm hpos' hS
  generalize hN1 : n + 1 = N1 at *
  have HN1 := Lib.hid hN1
  have hNb : N1 ≤ 1048577 := by omega
  clear hN1
  go_enter Try.func64, Try.ntmps64
  go_wp2_with (first | refine sL ?_ | (refine sS ?_; clear H; intro _ H) | (refine sA ?_; clear H; intro _ _ H) | ((with_reducible refine isMakeSlice ?_); refine AtMakeSlice.go encI H rfl rfl N1 rfl rfl rfl rfl 0 rfl rfl encI_len (by omega) (by omega) ?_; clear H; intro bl _ H; simp only [Act.put, puA, puB, puC]))
  go_loopw [7] (fun v7 wr => ∃ i : Nat, v7 = .int .i64 i ∧ i ≤ n ∧ St w [] [rowsA encI 3 1 (.slice (some ⟨bl, 0, none⟩) N1 N1) (capL S n i)] wr) (fun v7 _ => n - (intOf v7).toNat)
  case atStart => exact ⟨0, rfl, Nat.zero_le _, by rw [capL_zero, HN1.out]; exact H⟩
  case round =>
    clear H
    obtain ⟨i, rfl, hi, H⟩ := hrel
    by_cases hlt : i < n
    · obtain ⟨x, kd, lt, lf, rt, tm, rl, hx, henc, hcase, href, hrl, hrl2⟩ := HC.out i hlt
      have HLD : Hid (∀ w, (poolA P).ho w → w.rangeAt g (o + i * 5) [.int .i64 (kd : Nat), .int .u8 (lt : Nat), .int .i64 (lf : Nat), .int .i64 (rt : Nat), .int .i64 (tm : Nat)]) := Lib.hid fun w h => by
        rw [← henc]
        exact HR.out.rng h encR_len (by rw [List.getElem?_take, if_pos hlt]; exact hx)
      have HREF := Lib.hid href
      have HCASE := Lib.hid hcase
      have HRL := Lib.hid hrl
      clear hx henc hcase href hrl HC
      go_wp2_with (first | refine sL ?_ | (refine sS ?_; clear H; intro _ H) | (refine sA ?_; clear H; intro b8 _ H) | ((with_reducible refine isLoad ?_); refine AtLoad.rngT rfl rfl rfl (HLD.out _ (H.known HK pk)) rfl ?_; simp only [Act.put, puA, puB, puC]) | (go_at_call 93; with_reducible refine Calls.mono (HREF.out _) ?_; rintro e wc ⟨v9, rfl, hb⟩; obtain ⟨a9, c9, rfl, _⟩ := rowsA_shape (hb.get (A := rowsA encI 32 1 v9 rl) pk); replace H := H.call0 hb; clear hb; simp only [List.cons_append, List.nil_append] at H))
      go_loopw [10] (fun v10 wr => ∃ k : Nat, v10 = .int .i64 k ∧ k ≤ rl.length ∧ St w [] [rowsA encI 3 1 (.slice (some ⟨bl, 0, none⟩) N1 N1) (capL S n i), rowsA encI 32 1 (.slice a9 rl.length c9) rl, blk b8 (.cells #[.int .i64 (kd : Nat), .int .u8 (lt : Nat), .int .i64 (lf : Nat), .int .i64 (rt : Nat), .int .i64 (tm : Nat)] 100)] wr) (fun v10 _ => rl.length - (intOf v10).toNat)
      case atStart => exact ⟨0, rfl, Nat.zero_le _, H.only3 (A := rowsA encI 3 1 (.slice (some ⟨bl, 0, none⟩) N1 N1) (capL S n i)) (B := rowsA encI 32 1 (.slice a9 rl.length c9) rl) pk pk pk⟩
      case round =>
        clear H
        obtain ⟨k, rfl, hk, H⟩ := hrel
        by_cases hkl : k < rl.length
        · obtain ⟨r, hr⟩ : ∃ r, rl[k]? = some r := ⟨_, List.getElem?_eq_getElem hkl⟩
          obtain ⟨g9, c9', e1, _⟩ := rowsA_cases (H.get (A := rowsA encI 32 1 (.slice a9 rl.length c9) rl) pk) (by omega)
          injection e1 with e1 e2 e3
          subst e1
          have hb := HRL.out r (List.mem_of_getElem? hr)
          have d1 : decide ((r : Int) < 1) = false := by simp; omega
          have d2 : decide ((i : Int) < (r : Int)) = false := by simp; omega
          have d3 : decide (i < r) = false := by simp; omega
          have HRR := Lib.hid hr
          clear hr e2 e3
          go_wp2_with (first | refine sL ?_ | (refine sS ?_; clear H; intro _ H) | (refine sA ?_; clear H; intro _ _ H) | ((with_reducible refine isLoad ?_); refine AtLoad.cel rfl rfl rfl rfl (rowsA_cell1 (H.get (A := rowsA encI 32 1 (.slice (some ⟨g9, 0, none⟩) rl.length c9) rl) pk) encI_len HRR.out rfl) ?_; simp only [Act.put, puA, puB, puC]))
          exact ⟨⟨k + 1, by go_num, by omega, H⟩, by simp [intOf]; omega⟩
        · obtain rfl : k = rl.length := by omega
          have hcase := HCASE.out
          clear HLD HREF HCASE HRL
          cases hcase with
          | letter b h =>
            go_wp2_with (first | refine sL ?_ | (refine sS ?_; clear H; intro _ H) | (refine sA ?_; clear H; intro _ _ H) | ((with_reducible refine isStore ?_); refine AtStore.rowA (enc := encI) (n := N1) (c := N1) H rfl rfl rfl rfl rfl rfl pk (1) (by first | rfl | (simp only [encI]; go_num)) encI_len ?bd ?_; (case bd => rw [capL_len]; omega); clear H; intro _ H; simp only [Act.put, puA, puB, puC]))
            exact ⟨⟨i + 1, by go_num, by omega, by rw [← capL_next hlt (show 1 = capX S (i + 1) from h.symm)]; exact (H.only (A := rowsA encI 3 1 (.slice (some ⟨bl, 0, none⟩) N1 N1) ((capL S n i).set (i + 1) (1))) pk)⟩, by simp [intOf]; omega⟩
          | pair l r hl hr h =>
            have hxi : capX S (i + 1) = min (capX S (l + 1) + capX S (r + 1)) 301 := by unfold capX; omega
            have ha := capX_le S (l + 1)
            have hb := capX_le S (r + 1)
            have HL1 := Lib.hid (capL_get (S := S) (n := n) hl (by omega))
            have HL2 := Lib.hid (capL_get (S := S) (n := n) hr (by omega))
            generalize capX S (l + 1) = a at *
            generalize capX S (r + 1) = b at *
            go_wp2_with (first | refine sL ?_ | (refine sS ?_; clear H; intro _ H) | (refine sA ?_; clear H; intro _ _ H))
            refine wp_region_h H 11 [] [] (by kernel_rfl) (by kernel_rfl) ?_
            apply Exists.intro
            refine ⟨fun w1 hw1 HX => ?_, fun bs wr Hr => ?_⟩
            · refine sG ?_
              repeat (first | refine sQ ?_ | ((with_reducible refine isQLoad ?_); refine QtLoad.cel rfl rfl rfl rfl (fun y => rowsA_cell1 ((HX y).get (A := rowsA encI 3 1 (.slice (some ⟨bl, 0, none⟩) N1 N1) (capL S n i)) pk) encI_len HL1.out rfl) ?_; simp only [Act.put, puA, puB, puC]) | ((with_reducible refine isQLoad ?_); refine QtLoad.cel rfl rfl rfl rfl (fun y => rowsA_cell1 ((HX y).get (A := rowsA encI 3 1 (.slice (some ⟨bl, 0, none⟩) N1 N1) (capL S n i)) pk) encI_len HL2.out rfl) ?_; simp only [Act.put, puA, puB, puC]) | go_big_quiet_step (fail))
              exact wpQuiet_nil rfl
            clear H
            have H := Hr
            clear Hr
            replace H := sH H; refine sT ?_
            by_cases hs : a + b ≤ 300
            · have d1 : decide ((300 : Int) < (a : Int) + b) = false := by simp; omega
              have hv : a + b = capX S (i + 1) := by omega
              clear hxi h hs
              go_wp2_with (first | refine sL ?_ | (refine sS ?_; clear H; intro _ H) | (refine sA ?_; clear H; intro _ _ H) | ((with_reducible refine isStore ?_); refine AtStore.rowA (enc := encI) (n := N1) (c := N1) H rfl rfl rfl rfl rfl rfl pk (a + b) (by first | rfl | (simp only [encI]; go_num)) encI_len ?bd ?_; (case bd => rw [capL_len]; omega); clear H; intro _ H; simp only [Act.put, puA, puB, puC]))
              exact ⟨⟨i + 1, by go_num, by omega, by rw [← capL_next hlt (show a + b = capX S (i + 1) from hv)]; exact (H.only (A := rowsA encI 3 1 (.slice (some ⟨bl, 0, none⟩) N1 N1) ((capL S n i).set (i + 1) (a + b))) pk)⟩, by simp [intOf]; omega⟩
            · have d1 : decide ((300 : Int) < (a : Int) + b) = true := by simp; omega
              have hv : 301 = capX S (i + 1) := by omega
              clear hxi h hs
              go_wp2_with (first | refine sL ?_ | (refine sS ?_; clear H; intro _ H) | (refine sA ?_; clear H; intro _ _ H) | ((with_reducible refine isStore ?_); refine AtStore.rowA (enc := encI) (n := N1) (c := N1) H rfl rfl rfl rfl rfl rfl pk (301) (by first | rfl | (simp only [encI]; go_num)) encI_len ?bd ?_; (case bd => rw [capL_len]; omega); clear H; intro _ H; simp only [Act.put, puA, puB, puC]))
              exact ⟨⟨i + 1, by go_num, by omega, by rw [← capL_next hlt (show 301 = capX S (i + 1) from hv)]; exact (H.only (A := rowsA encI 3 1 (.slice (some ⟨bl, 0, none⟩) N1 N1) ((capL S n i).set (i + 1) (301))) pk)⟩, by simp [intOf]; omega⟩
          | power l tm hl hk2 hm h =>
            have hxi : capX S (i + 1) = min (tm * (S.txt (l + 1)).length) 301 := by unfold capX; rw [h]
            have hai : capX S (l + 1) = min (S.txt (l + 1)).length 301 := rfl
            have ha := capX_le S (l + 1)
            have HL1 := Lib.hid (capL_get (S := S) (n := n) hl (by omega))
            have hz : (tm : Int) ≠ 0 := by omega
            have hqb : 300 / tm ≤ 300 := Nat.div_le_self _ _
            have hq : (300 : Int).tdiv (tm : Int) = ((300 / tm : Nat) : Int) := rfl
            have d2 : decide ((tm : Int) < 1) = false := by simp; omega
            have d3 : decide (tm < 1) = false := by simp; omega
            generalize capX S (l + 1) = a at *
            generalize (S.txt (l + 1)).length = len at *
            by_cases hle : a ≤ 300 / tm
            · have hak : a * tm ≤ 300 := (Nat.le_div_iff_mul_le (by omega)).1 hle
              have ha2 : a * 2 ≤ a * tm := Nat.mul_le_mul_left a hk2
              have hal : len = a := by omega
              have hv : a * tm = capX S (i + 1) := by rw [hxi, hal, Nat.mul_comm tm a]; omega
              have d1 : decide ((a : Int) ≤ ((300 / tm : Nat) : Int)) = true := by simp only [decide_eq_true_eq]; omega
              have d5 : decide (a ≤ 300 / tm) = true := by simp only [decide_eq_true_eq]; omega
              have hp : (a : Int) * (tm : Int) = ((a * tm : Nat) : Int) := (Int.natCast_mul a tm).symm
              generalize a * tm = pr at *
              generalize 300 / tm = qk at *
              clear hxi h hai hal ha2 hle
              have d4 : decide ((300 : Int) < (pr : Int)) = false := by simp; omega
              go_wp2_with (first | refine sL ?_ | (refine sS ?_; clear H; intro _ H) | (refine sA ?_; clear H; intro _ _ H))
              refine wp_region_h H 10 [] [] (by kernel_rfl) (by kernel_rfl) ?_
              apply Exists.intro
              refine ⟨fun w1 hw1 HX => ?_, fun bs wr Hr => ?_⟩
              · refine sG ?_
                repeat (first | refine sQ ?_ | ((with_reducible refine isQLoad ?_); refine QtLoad.cel rfl rfl rfl rfl (fun y => rowsA_cell1 ((HX y).get (A := rowsA encI 3 1 (.slice (some ⟨bl, 0, none⟩) N1 N1) (capL S n i)) pk) encI_len HL1.out rfl) ?_; simp only [Act.put, puA, puB, puC]) | go_big_quiet_step (fail))
                exact wpQuiet_nil rfl
              clear H
              have H := Hr
              clear Hr
              replace H := sH H; refine sT ?_
              go_wp2_with (first | refine sL ?_ | (refine sS ?_; clear H; intro _ H) | (refine sA ?_; clear H; intro _ _ H))
              refine wp_region_h H 8 [] [] (by kernel_rfl) (by kernel_rfl) ?_
              apply Exists.intro
              refine ⟨fun w1 hw1 HX => ?_, fun bs wr Hr => ?_⟩
              · refine sG ?_
                repeat (first | refine sQ ?_ | ((with_reducible refine isQLoad ?_); refine QtLoad.cel rfl rfl rfl rfl (fun y => rowsA_cell1 ((HX y).get (A := rowsA encI 3 1 (.slice (some ⟨bl, 0, none⟩) N1 N1) (capL S n i)) pk) encI_len HL1.out rfl) ?_; simp only [Act.put, puA, puB, puC]) | go_big_quiet_step (fail))
                exact wpQuiet_nil rfl
              clear H
              have H := Hr
              clear Hr
              replace H := sH H; refine sT ?_
              go_wp2_with (first | refine sL ?_ | (refine sS ?_; clear H; intro _ H) | (refine sA ?_; clear H; intro _ _ H) | ((with_reducible refine isStore ?_); refine AtStore.rowA (enc := encI) (n := N1) (c := N1) H rfl rfl rfl rfl rfl rfl pk (pr) (by first | rfl | (simp only [encI]; go_num)) encI_len ?bd ?_; (case bd => rw [capL_len]; omega); clear H; intro _ H; simp only [Act.put, puA, puB, puC]))
              exact ⟨⟨i + 1, by go_num, by omega, by rw [← capL_next hlt (show pr = capX S (i + 1) from hv)]; exact (H.only (A := rowsA encI 3 1 (.slice (some ⟨bl, 0, none⟩) N1 N1) ((capL S n i).set (i + 1) (pr))) pk)⟩, by simp [intOf]; omega⟩
            · have hak : 300 < a * tm := by
                exact Nat.lt_of_not_le fun h => hle ((Nat.le_div_iff_mul_le (by omega)).2 h)
              have hv : 301 = capX S (i + 1) := by
                have := Nat.mul_le_mul_left tm (show a ≤ len by omega)
                rw [Nat.mul_comm tm a] at this
                omega
              have d1 : decide ((a : Int) ≤ ((300 / tm : Nat) : Int)) = false := by simp only [decide_eq_false_iff_not]; omega
              have d5 : decide (a ≤ 300 / tm) = false := by simp only [decide_eq_false_iff_not]; omega
              generalize 300 / tm = qk at *
              clear hxi h hai hak hle
              go_wp2_with (first | refine sL ?_ | (refine sS ?_; clear H; intro _ H) | (refine sA ?_; clear H; intro _ _ H))
              refine wp_region_h H 10 [] [] (by kernel_rfl) (by kernel_rfl) ?_
              apply Exists.intro
              refine ⟨fun w1 hw1 HX => ?_, fun bs wr Hr => ?_⟩
              · refine sG ?_
                repeat (first | refine sQ ?_ | ((with_reducible refine isQLoad ?_); refine QtLoad.cel rfl rfl rfl rfl (fun y => rowsA_cell1 ((HX y).get (A := rowsA encI 3 1 (.slice (some ⟨bl, 0, none⟩) N1 N1) (capL S n i)) pk) encI_len HL1.out rfl) ?_; simp only [Act.put, puA, puB, puC]) | go_big_quiet_step (fail))
                exact wpQuiet_nil rfl
              clear H
              have H := Hr
              clear Hr
              replace H := sH H; refine sT ?_
              go_wp2_with (first | refine sL ?_ | (refine sS ?_; clear H; intro _ H) | (refine sA ?_; clear H; intro _ _ H) | ((with_reducible refine isStore ?_); refine AtStore.rowA (enc := encI) (n := N1) (c := N1) H rfl rfl rfl rfl rfl rfl pk (301) (by first | rfl | (simp only [encI]; go_num)) encI_len ?bd ?_; (case bd => rw [capL_len]; omega); clear H; intro _ H; simp only [Act.put, puA, puB, puC]))
              exact ⟨⟨i + 1, by go_num, by omega, by rw [← capL_next hlt (show 301 = capX S (i + 1) from hv)]; exact (H.only (A := rowsA encI 3 1 (.slice (some ⟨bl, 0, none⟩) N1 N1) ((capL S n i).set (i + 1) (301))) pk)⟩, by simp [intOf]; omega⟩
    · obtain rfl : i = n := by omega
      have hcx : capX S i = min (S.txt i).length 301 := rfl
      have HL1 := Lib.hid (capL_get (S := S) (n := i) (Nat.le_refl i) (Nat.le_refl i))
      generalize capX S i = cx at *
      by_cases hs : (S.txt i).length ≤ 300
      · have d1 : decide ((300 : Int) < (cx : Int)) = false := by simp; omega
        have HD := Lib.hid (HDER.out hs)
        have HS := Lib.hid hs
        clear HDER hcx hs
        go_wp2_with (first | refine sL ?_ | (refine sS ?_; clear H; intro _ H) | (refine sA ?_; clear H; intro _ _ H) | ((with_reducible refine isLoad ?_); refine AtLoad.cel rfl rfl rfl rfl (rowsA_cell1 (H.get (A := rowsA encI 3 1 (.slice (some ⟨bl, 0, none⟩) N1 N1) (capL S i i)) pk) encI_len HL1.out rfl) ?_; simp only [Act.put, puA, puB, puC]) | (go_at_call 94; with_reducible refine Calls.mono (HD.out _ (H.known HK pk)) ?_; rintro e wc ⟨v1, rfl, hb⟩; replace H := H.call0 hb; clear hb; simp only [List.cons_append, List.nil_append] at H))
        go_ret2
        exact .inl ⟨HS.out, _, rfl, H.onlyHead⟩
      · have d1 : decide ((300 : Int) < (cx : Int)) = true := by simp; omega
        have HS := Lib.hid hs
        clear HDER hcx hs
        go_wp2_with (first | refine sL ?_ | (refine sS ?_; clear H; intro _ H) | (refine sA ?_; clear H; intro _ _ H) | ((with_reducible refine isLoad ?_); refine AtLoad.cel rfl rfl rfl rfl (rowsA_cell1 (H.get (A := rowsA encI 3 1 (.slice (some ⟨bl, 0, none⟩) N1 N1) (capL S i i)) pk) encI_len HL1.out rfl) ?_; simp only [Act.put, puA, puB, puC]))
        go_ret2
        exact .inr ⟨HS.out, rfl, H.nix⟩
end Go.Proofs.Ytijnhpaafhcndaa
end
section
namespace Go.Proofs.Ytijnhpaafhcndaa
open Go.RowKit Go.Maps
attribute [local go_sem] InGr
set_option maxHeartbeats 8000000
set_option maxRecDepth 100000
set_option linter.unusedSimpArgs false
set_option linter.unusedVariables false
theorem hits_snoc (m : Mc) (q b : Nat) (l : List Nat) : m.hits q (l ++ [b]) = m.hits q l ++ [m.wt (m.step (m.ends q l) b)] := by
  rw [Mc.hits_append]; rfl
theorem hits_c {P : PoolT} {m : Mc} {c : Nat} (ok : m.Ok c) {cv nv av hv tv : Value} {rvs : List Value} (hm : MacAt P cv nv av rvs m) (hh : RowIn P encI 1 hv m.wts) {l : List Nat} (hl : ∀ b ∈ l, b < 256) (hlen : l.length ≤ 300) (ht : RowIn P enc8 1 tv l) (w : World) (hp : (poolA P).ho w) :
    Calls Try.prog 33 #[.agg #[.int .i64 m.start, cv, nv, av], hv, tv] w fun e w' => ∃ v, e = .returned v ∧ St w [] [rowsA encI 3 1 v (m.hits m.start l)] w' := by
  have H := St.nil w []
  have HK := Ks.one hp
  have hn1 := ok.n1
  have hn256 := ok.n256
  obtain ⟨gc, oc, cc, rfl, hrc⟩ := hm.cls.hasN ok.cls (by omega)
  obtain ⟨gn, on, cn, rfl, hrn⟩ := hm.next.hasN hm.len ok.n1
  obtain ⟨gh, oh, ch, rfl, hrh⟩ := hh.hasN ok.wts ok.n1
  obtain ⟨at_, ct, rfl, hmx⟩ := ht.shape
  have HRC := Lib.hid hrc
  have HRN := Lib.hid hrn
  have HRH := Lib.hid hrh
  have HM := Lib.hid hm
  have HO := Lib.hid ok
  have HT := Lib.hid ht
  have HL := Lib.hid hl
  have HQ : Hid (∀ k, m.ends m.start (l.take k) < m.n) := Lib.hid fun k => ok.ends_lt ok.start fun b hb => hl b (List.mem_of_mem_take hb)
  have HST : Hid (∀ k b, l[k]? = some b → m.ends m.start (l.take (k + 1)) = m.step (m.ends m.start (l.take k)) b ∧ m.hits m.start (l.take (k + 1)) = m.hits m.start (l.take k) ++ [m.wt (m.step (m.ends m.start (l.take k)) b)]) := Lib.hid fun k b hb => by
    rw [List.take_add_one, hb]
    exact ⟨by rw [Mc.ends_append]; rfl, hits_snoc _ _ _ _⟩
  clear hm hh hl ht ok hp hrc hrn hrh
  go_enter Try.func33, Try.ntmps33
  go_wp2_with (first | refine sL ?_ | (refine sB ?_; clear H; intro b3 _ H))
  replace H := H.empty (A := rowsA encI 3 1 (.slice none 0 0) []) (rowsA_nil _) (by rw [rowsA_fp']; rfl)
  go_loopw [7, 8, 9] (fun v7 v8 v9 wr => ∃ k : Nat, v9 = .int .i64 k ∧ k ≤ l.length ∧ v8 = .int .i64 (m.ends m.start (l.take k) : Nat) ∧ St w [] [rowsA encI 3 1 v7 (m.hits m.start (l.take k)), blk b3 (.cells #[.int .i64 m.start, .slice (some ⟨gc, oc, none⟩) 256 cc, .slice (some ⟨gn, on, none⟩) m.n cn, av] 26)] wr) (fun _ _ v9 _ => l.length - (intOf v9).toNat)
  case atStart => exact ⟨0, rfl, Nat.zero_le _, rfl, H⟩
  case round =>
    clear H
    obtain ⟨k, rfl, hk, rfl, H⟩ := hrel
    by_cases hlt : k < l.length
    · obtain ⟨b, hb⟩ : ∃ b, l[k]? = some b := ⟨_, List.getElem?_eq_getElem hlt⟩
      have hb256 := HL.out b (List.mem_of_getElem? hb)
      have hq := HQ.out k
      obtain ⟨s1, s2⟩ := HST.out k b hb
      have hhl : (m.hits m.start (l.take k)).length = k := by rw [Mc.hits_len, List.length_take]; omega
      generalize m.ends m.start (l.take k) = q at *
      generalize m.hits m.start (l.take k) = hs at *
      obtain ⟨r, x, x1, x2, x3, x4, x5, x6⟩ := HO.out.step_get hq hb256
      obtain ⟨gr, og, d, r', y1, y2, y3, y4⟩ := HM.out.row HO.out hq
      rw [x1] at y2
      cases y2
      obtain ⟨gt', ot, ct', z1, z2⟩ := HT.out.has (by omega)
      injection z1 with z1 z3 z4
      subst z1
      have hwt := HO.out.wt_get x4
      have hcn : c ≤ 256 := HO.out.c256
      have HB := Lib.hid hb
      have HX1 := Lib.hid x2
      have HX2 := Lib.hid x3
      have HX3 := Lib.hid y1
      have HROW := Lib.hid y3
      have HW := Lib.hid hwt.1
      have HS := Lib.hid (And.intro s1 s2)
      clear x1 x2 x3 y1 y3 hwt hb s1 s2 z2 z3 z4 HST HQ HL
      generalize m.step q b = q2 at *
      generalize m.wt q2 = wq at *
      generalize hnn : m.n = nn at *
      go_wp2_with (first | refine sL ?_ | (refine sB ?_; clear H; intro _ _ H))
      refine wp_region_h H 15 [] [] (by kernel_rfl) (by kernel_rfl) ?_
      apply Exists.intro
      refine ⟨fun w1 hw1 HX => ?_, fun bs wr Hr => ?_⟩
      · refine sG ?_
        repeat (first | refine sQ ?_ | ((with_reducible refine isQLoad ?_); refine QtLoad.cel rfl rfl rfl rfl (fun y => HRC.out.cell ((HX y).known HK pk) encI_len HX1.out rfl) ?_; simp only [Act.put, puA, puB, puC]) | ((with_reducible refine isQLoad ?_); refine QtLoad.cel rfl rfl rfl rfl (fun y => HROW.out.cell ((HX y).known HK pk) encI_len HX2.out rfl) ?_; simp only [Act.put, puA, puB, puC]) | ((with_reducible refine isQLoad ?_); refine QtLoad.cel rfl rfl rfl rfl (fun y => HRN.out.cell ((HX y).known HK pk) encV_len HX3.out rfl) ?_; simp only [Act.put, puA, puB, puC]) | ((with_reducible refine isQLoad ?_); refine QtLoad.cel rfl rfl rfl rfl (fun y => HT.out.cell ((HX y).known HK pk) enc8_len HB.out rfl) ?_; simp only [Act.put, puA, puB, puC]) | go_big_quiet_step (fail))
        exact wpQuiet_nil rfl
      clear H
      have H := Hr
      clear Hr
      replace H := sH H; refine sT ?_
      go_wp2_with (first | refine sL ?_ | (refine sB ?_; clear H; intro _ _ H) | ((with_reducible refine isLoad ?_); refine AtLoad.cel rfl rfl rfl rfl (HRH.out.cell (H.known HK pk) encI_len HW.out rfl) ?_; simp only [Act.put, puA, puB, puC]) | ((with_reducible refine isSlice ?_); refine AtSlice.one H rfl rfl rfl rfl rfl rfl rfl rfl rfl ?_; clear H; intro b1 _ H; simp only [Act.put, puA, puB, puC]) | ((with_reducible refine isAppend ?_); refine AtAppend.go (enc := encI) H rfl rfl rfl rfl rfl (by decide) (by decide) rfl pk rfl (H.at pk) [wq] rfl (by simp [flatG, encI]) encI_len encI_one (by simp; omega) ?_; clear H; intro ad9 cp9 _ H; simp only [Act.put, puA, puB, puC]))
      obtain ⟨s1, s2⟩ := HS.out
      exact ⟨⟨k + 1, by go_num, by omega, by rw [s1], by rw [s2]; exact H.drop (A := blk b1 (.cells #[.int .i64 (wq : Nat)] 3)) pk⟩, by simp [intOf]; omega⟩
    · obtain rfl : k = l.length := by omega
      go_wp2_with (first | refine sL ?_ | (refine sB ?_; clear H; intro _ _ H))
      go_ret
      rw [List.take_length] at H
      exact ⟨_, rfl, H.onlyHead⟩
theorem hcount_c {hs : List Nat} {v : Value} {s n : Nat} (hb : ∀ x ∈ hs, x ≤ 1048576) (hlen : hs.length ≤ 300) (hr : s + n ≤ hs.length) (w : World) (hrow : (rowsA encI 3 1 v hs).ho w) :
    Calls Try.prog 14 #[v, .int .i64 s, .int .i64 n] w fun e w' => e = .returned (.int .i64 (((hs.drop s).take n).sum : Nat)) ∧ St w [] [] w' := by
  have H := St.nil w []
  have HK := Ks.one hrow
  obtain ⟨ad, c, rfl, hmx⟩ := rowsA_shape hrow
  have HR : Hid (∀ k x, hs[k]? = some x → ∃ g, ad = some ⟨g, 0, none⟩) := Lib.hid fun k x hx => by
    obtain ⟨g, c', h1, _⟩ := rowsA_cases hrow (by have := getElem_len hx; omega)
    injection h1 with e1 e2 e3
    exact ⟨g, e1⟩
  have HSB : Hid (∀ k, k ≤ 300 → ((hs.drop s).take k).sum ≤ 1048576 * k) := Lib.hid fun k hk => by
    have h1 : ∀ l : List Nat, (∀ x ∈ l, x ≤ 1048576) → l.sum ≤ 1048576 * l.length := fun l => by
      induction l with
      | nil => simp
      | cons a l ih =>
        intro h
        have := ih fun x hx => h x (by simp [hx])
        have := h a (by simp)
        simp
        omega
    have h2 := h1 ((hs.drop s).take k) fun x hx => hb x (List.mem_of_mem_drop (List.mem_of_mem_take hx))
    rw [List.length_take, List.length_drop] at h2
    omega
  have HB := Lib.hid hb
  clear hb hrow
  go_enter Try.func14, Try.ntmps14
  go_wp2_with (first | refine sL ?_)
  go_loopw [7, 8] (fun v7 v8 wr => ∃ k : Nat, v8 = .int .i64 ((s : Int) + k) ∧ k ≤ n ∧ v7 = .int .i64 (((hs.drop s).take k).sum : Nat) ∧ St w [] [] wr) (fun _ v8 _ => s + n - (intOf v8).toNat)
  case atStart => exact ⟨0, by simp, Nat.zero_le _, by simp, H⟩
  case round =>
    clear H
    obtain ⟨k, rfl, hk, rfl, H⟩ := hrel
    by_cases hlt : k < n
    · obtain ⟨x, hx⟩ : ∃ x, hs[s + k]? = some x := ⟨_, List.getElem?_eq_getElem (by omega)⟩
      obtain ⟨g, rfl⟩ := HR.out _ _ hx
      have hxb := HB.out x (List.mem_of_getElem? hx)
      have hsb := HSB.out k (by omega)
      have HX := Lib.hid hx
      clear hx
      generalize hss : ((hs.drop s).take k).sum = sm at *
      have HSS := Lib.hid hss
      clear hss
      go_wp2_with (first | refine sL ?_ | ((with_reducible refine isLoad ?_); refine AtLoad.cel rfl rfl rfl rfl (rowsA_cell1 (H.known HK (A := rowsA encI 3 1 (.slice (some ⟨g, 0, none⟩) hs.length c) hs) pk) encI_len HX.out rfl) ?_; simp only [Act.put, puA, puB, puC]))
      refine ⟨⟨k + 1, congrArg _ (by omega), by omega, ?_, H⟩, by simp [intOf]; omega⟩
      rw [List.take_add_one, List.getElem?_drop, HX.out]
      simp [HSS.out]
    · obtain rfl : k = n := by omega
      go_wp2_with (first | refine sL ?_)
      go_ret
      exact ⟨rfl, H⟩
end Go.Proofs.Ytijnhpaafhcndaa
end
section
namespace Go.Proofs.Ytijnhpaafhcndaa
open Go.RowKit Go.Maps
attribute [local go_sem] InGr
set_option maxHeartbeats 8000000
set_option maxRecDepth 100000
set_option linter.unusedSimpArgs false
set_option linter.unusedVariables false
theorem count_x {S : Sto} {T T' : Tab} {lv : Value} {m id s n : Nat} (hS : S.Ok) (hb : T.back = false) (hid : id ≤ S.list.length) (hf : s + n ≤ (S.txt id).length) (hx : T.Ext T') (hT' : TabOk S T') (w : World) (h : ((tabA T').sep (stoA T.s lv m S)).ho w) :
    Calls Try.prog 12 #[.pointer (some ⟨T.p, 0, none⟩), .int .i64 id, .int .i64 s, .int .i64 n] w fun e w' => ∃ T'', e = .returned (cntV (S.rsum T.mc id s n)) ∧ T.Ext T'' ∧ TabOk S T'' ∧ St w (tabA T').fp [tabA T''] w' := by
  obtain ⟨x1, x2, x3, x4, x5, x6⟩ := hx.same
  have hc := count_c (lv := lv) (m := m) hS hT' (by rw [x6]; exact hb) hid hf w (by rw [x2]; exact h)
  rw [x1, x5] at hc
  with_reducible refine Calls.mono hc ?_
  rintro e w' ⟨T'', he, hx', hT'', hs⟩
  exact ⟨T'', he, hx.trans hx', hT'', hs⟩
end Go.Proofs.Ytijnhpaafhcndaa
end
section
namespace Go.Proofs.Ytijnhpaafhcndaa
open Go.RowKit Go.Maps
attribute [local go_sem] InGr
set_option maxHeartbeats 8000000
set_option maxRecDepth 100000
set_option linter.unusedSimpArgs false
set_option linter.unusedVariables false
section
variable {ops : Array Oper} {Q : Exit → Act → World → Prop} {rest : List Oper} {a : Act} {w w0 : World} {o1 : Oper} {dst : Option Tmp} {ty0 : TypeId} {pos : String} {aft : Array Edge} {gd : Option (Nat × Bool)}
theorem run_cut {t e : TypeId} (hte : sliceO t = some e) {z : Value} {k bytes : Nat} (hi : infoO e = some (z, k, bytes)) {ad : Option Addr} {n c m : Nat} (had : ad = none ∨ ∃ g, ad = some ⟨g, 0, none⟩) (hm : m ≤ c) (w : World) :
    (Instr.sliceAt t (.slice ad n c) none (some (.int .i64 (m : Nat))) none).run Try.prog w = .ok (.slice ad m c) w := by
  obtain ⟨i, h2, h3, h4, h5⟩ := infoO_ok hi
  have hu := sliceO_ok hte
  have hb : (Instr.sliceBound (Value.int .i64 (m : Nat)) c .sliceAcap).run Try.prog w = .ok m w := by
    unfold Instr.sliceBound
    simp [asIntOf, hm]
  rcases had with rfl | ⟨g, rfl⟩
  · simp [Instr.sliceAt, Instr.slice, Instr.sliceBounds, run_underlying hu, sizeOf, typeInfo, h2, Sem.run_bind, Result.andThen, hb]
  · simp [Instr.sliceAt, Instr.slice, Instr.sliceBounds, run_underlying hu, sizeOf, typeInfo, h2, Sem.run_bind, Result.andThen, hb, Addr.add]
theorem AtCut.any {t e : TypeId} {x y : Operand} (hw : Region.wanted o1 (yielded ops a.tmps) = true) (ho : o1.op = .slice t x none (some y) none) (hte : sliceO t = some e) {z : Value} {k bytes : Nat} (hi : infoO e = some (z, k, bytes)) {ad : Option Addr} {n c m : Nat} (hx : a.eval x = .slice ad n c) (hy : a.eval y = .int .i64 (m : Nat)) (had : ad = none ∨ ∃ g, ad = some ⟨g, 0, none⟩) (hm : m ≤ c)
    (h : wpList Try.prog ops Q rest (a.put o1.dst (.slice ad m c)) w) : AtCut Try.prog ops Q o1 t x y rest a w :=
  wpList_step fun _ hK => by
    rw [if_pos hw]
    unfold Oper.wp execOp
    simp only [ho, hx, hy, Option.map_none, Option.map_some, Sem.run_bind, run_cut hte hi had hm, Result.andThen_ok, Sem.run_pure]
    exact hK _ _ h
end
theorem flatG_take {α : Type} {enc : α → List Value} (xs : List α) (m j : Nat) (u : Value) (h : (flatG enc (xs.take m))[j]? = some u) : (flatG enc xs)[j]? = some u := by
  have e : flatG enc xs = flatG enc (xs.take m) ++ flatG enc (xs.drop m) := by
    have : flatG enc (xs.take m ++ xs.drop m) = flatG enc (xs.take m) ++ flatG enc (xs.drop m) := List.flatMap_append
    rwa [List.take_append_drop] at this
  rw [e, List.getElem?_append_left (getElem_len h)]
  exact h
theorem rowsA_front {α : Type} {enc : α → List Value} {e : TypeId} {k n c : Nat} {ad : Option Addr} {xs : List α} {w : World} (h : (rowsA enc e k (.slice ad n c) xs).ho w) (hk : ∀ x, (enc x).length = k) {m : Nat} (hm : m ≤ xs.length) : m ≤ c ∧ ∃ P, RowIn P enc k (.slice ad m c) (xs.take m) ∧ (poolA P).ho w := by
  have hl : (xs.take m).length = m := by simp; omega
  by_cases h0 : 0 < xs.length
  · obtain ⟨g, c', e1, hc, hmx⟩ := rowsA_cases h h0
    injection e1 with e1 e2 e3
    subst e1 e2 e3
    refine ⟨by omega, [(g, 0, flatG enc (xs.take m))], ⟨_, c, by rw [hl], by rw [hl]; omega, fun _ => ⟨g, 0, rfl, by simp⟩⟩, ?_⟩
    rw [poolA_ho]
    intro x hx
    simp only [List.mem_singleton] at hx
    subst hx
    refine ⟨(rowsA enc e k _ xs).lt w h g (by rw [rowsA_fp']; simp [Value.ownBlock]), fun j u hj => ?_⟩
    rw [rowsA_ho] at h
    have h1 := World.ownsRow.cells h (g := g) rfl j u (flatG_take xs m j u hj)
    rwa [Addr.add_mid] at h1
  · have hm0 : m = 0 := by omega
    subst hm0
    refine ⟨Nat.zero_le _, [], ⟨ad, c, by simp, by simp, fun hx => by simp at hx⟩, poolA_nil w⟩
theorem text_c {S : Sto} (hS : S.Ok) {vr vl : Value} {id : Nat} (hid : id ≤ S.list.length) (w : World) (h : (refA vr vl S.list).ho w) :
    Calls Try.prog 32 #[.agg #[vr, vl], .int .i64 id, .int .i64 300] w (ExpPost (S.txt id) w) := by
  have H := St.nil w []
  obtain ⟨h1, _⟩ := refA_ks h
  obtain ⟨ad, c, rfl, _⟩ := rowsA_shape h1
  have had := rowsA_ad h1
  obtain ⟨hmc, P, hrow, hp⟩ := rowsA_front h1 encR_len hid
  have HK := Ks.one hp
  have HX : Hid (∀ w, (poolA P).ho w → Calls Try.prog 64 #[.slice ad id c, .int .i64 300] w fun e w' => ((S.txt id).length ≤ 300 ∧ ∃ v, e = .returned (.tuple #[v, .bool true]) ∧ St w [] [rowsA enc8 5 1 v (S.txt id)] w') ∨ (¬ (S.txt id).length ≤ 300 ∧ e = .returned (.tuple #[.slice none 0 0, .bool false]) ∧ St w [] [] w')) := Lib.hid fun w h => expand_c hS hrow hid w h
  have HA := Lib.hid had
  clear h h1 hrow hp had
  unfold ExpPost
  generalize S.txt id = t at *
  go_enter Try.func32, Try.ntmps32
  go_wp2_with (first | refine sL ?_ | (refine sB ?_; clear H; intro _ _ H) | ((with_reducible refine isCut ?_); refine AtCut.any rfl rfl rfl rfl rfl rfl HA.out hmc ?_; simp only [Act.put, puA, puB, puC]))
  with_reducible refine Calls.mono (HX.out _ (H.known HK pk)) ?_
  rintro e wc (⟨hl, v, rfl, hb⟩ | ⟨hl, rfl, hb⟩)
  · replace H := H.call0 hb
    clear hb
    simp only [List.cons_append, List.nil_append] at H
    go_wp2_with (first | refine sL ?_ | (refine sB ?_; clear H; intro _ _ H))
    go_ret2
    exact .inl ⟨hl, v, rfl, H.onlyHead⟩
  · replace H := H.grew hb.below
    clear hb
    go_wp2_with (first | refine sL ?_ | (refine sB ?_; clear H; intro _ _ H))
    go_ret2
    exact .inr ⟨hl, rfl, H.nix⟩
abbrev PlainPost (l hs : List Nat) (w : World) (e : Ending) (w' : World) : Prop :=
  (l.length ≤ 300 ∧ ∃ v, e = .returned (.tuple #[v, .bool true]) ∧ St w [] [rowsA encI 3 1 v hs] w') ∨ (¬ l.length ≤ 300 ∧ e = .returned (.tuple #[.slice none 0 0, .bool false]) ∧ St w [] [] w')
theorem plain_c {P : PoolT} {cv nv av hv lv : Value} {rvs : List Value} {R : Raw} {c : Nat} {ms : List Mk} {N : Int} (h : RawAt P cv nv av hv rvs R) (hR : R.Snd c) (hms : RowIn P mkL 5 lv ms) (hf : ∀ m ∈ ms, m.Fits) (hl : ms.length ≤ 100) {id : Nat} (hid : id ≤ (stoOf ms).list.length) (w : World) (hp : (poolA P).ho w) :
    Calls Try.prog 11 #[.agg #[.int .i64 R.start, cv, nv, av, hv, lv, .int .i64 N], .int .i64 id] w (PlainPost ((stoOf ms).txt id) (R.mc.hits R.mc.start ((stoOf ms).txt id)) w) := by
  have H := St.nil w []
  have HK := Ks.one hp
  obtain ⟨hok, _⟩ := idOf_le hf 0
  obtain ⟨hmac, hhit⟩ := h.mac hR
  have hst : ((R.mc.start : Nat) : Int) = R.start := by simp [Raw.mc, Int.toNat_of_nonneg hR.s0]
  have HBU : Hid (∀ w, (poolA P).ho w → Calls Try.prog 31 #[lv] w fun e w' => ∃ vr vl rv, e = .returned (.tuple #[.agg #[vr, vl], rv]) ∧ St w [] [refA vr vl (stoOf ms).list, rowsA encI 32 1 rv (idsOf ms)] w') := Lib.hid fun w h => rbuild_c 1000 (by omega) (by omega) hf w h hms
  have HT : Hid (∀ vr vl w, (refA vr vl (stoOf ms).list).ho w → Calls Try.prog 32 #[.agg #[vr, vl], .int .i64 id, .int .i64 300] w fun e w' => (((stoOf ms).txt id).length ≤ 300 ∧ ∃ v, e = .returned (.tuple #[v, .bool true]) ∧ St w [] [rowsA enc8 5 1 v ((stoOf ms).txt id)] w') ∨ (¬ ((stoOf ms).txt id).length ≤ 300 ∧ e = .returned (.tuple #[.slice none 0 0, .bool false]) ∧ St w [] [] w')) := Lib.hid fun vr vl w h => text_c hok hid w h
  have HH : Hid (∀ tv w, ((stoOf ms).txt id).length ≤ 300 → (poolA P).ho w → (rowsA enc8 5 1 tv ((stoOf ms).txt id)).ho w → Calls Try.prog 33 #[.agg #[.int .i64 R.start, cv, nv, av], hv, tv] w fun e w' => ∃ v, e = .returned v ∧ St w [] [rowsA encI 3 1 v (R.mc.hits R.mc.start ((stoOf ms).txt id))] w') := Lib.hid fun tv w hlen hp hr => by
    obtain ⟨Q, hrow, hq, _⟩ := rowsA_pool hr enc8_len
    have := hits_c hR.ok (hmac.mono (Q := P ++ Q) (by simp +contextual)) (hhit.mono (Q := P ++ Q) (by simp +contextual)) (fun b hb => Sto.txt_lt hok hid b hb) hlen (hrow.mono (Q := P ++ Q) (by simp +contextual)) w (poolA_append hp hq)
    rw [hst] at this
    exact this
  obtain ⟨a1, c1, rfl, hm1⟩ := h.cls.shape
  obtain ⟨a2, c2, rfl, hm2⟩ := h.next.shape
  obtain ⟨a3, c3, rfl, hm3⟩ := h.acc.shape
  obtain ⟨a4, c4, rfl, hm4⟩ := h.wts.shape
  obtain ⟨a5, c5, rfl, hm5⟩ := hms.shape
  clear h hms hf hp hok hmac hhit hst hm1 hm2 hm3 hm4 hm5 hid hR
  generalize (R.mc.hits R.mc.start ((stoOf ms).txt id)) = hs at *
  generalize (stoOf ms).txt id = t at *
  generalize stoOf ms = S at *
  generalize idsOf ms = ids at *
  go_enter Try.func11, Try.ntmps11
  go_wp2_with (first | refine sL ?_ | (refine sS ?_; clear H; intro _ H) | (refine sB ?_; clear H; intro _ _ H) | (refine sA ?_; clear H; intro _ _ H) | (go_at_call 31; with_reducible refine Calls.mono (HBU.out _ (H.known HK pk)) ?_; rintro e wc ⟨vr, vl, rv, rfl, hb⟩; obtain ⟨aa, ca, ab, cb, rfl, rfl⟩ := refA_shape (hb.get (A := refA vr vl S.list) pk); replace H := H.call0 hb; clear hb; simp only [List.cons_append, List.nil_append] at H))
  with_reducible refine Calls.mono (HT.out _ _ _ (H.get (A := refA (.slice aa S.list.length ca) (.slice ab S.list.length cb) S.list) pk)) ?_
  rintro e wc (⟨hl, v, rfl, hb⟩ | ⟨hl, rfl, hb⟩)
  · replace H := H.call0 hb
    clear hb
    simp only [List.cons_append, List.nil_append] at H
    obtain ⟨at1, ct1, rfl, _⟩ := rowsA_shape (H.get (A := rowsA enc8 5 1 v t) pk)
    go_wp2_with (first | refine sL ?_ | (refine sS ?_; clear H; intro _ H) | (refine sB ?_; clear H; intro _ _ H) | (refine sA ?_; clear H; intro _ _ H) | (go_at_call 33; with_reducible refine Calls.mono (HH.out _ _ hl (H.known HK pk) (H.get (A := rowsA enc8 5 1 (.slice at1 t.length ct1) t) pk)) ?_; rintro e wc ⟨vh, rfl, hb⟩; replace H := H.call0 hb; clear hb; simp only [List.cons_append, List.nil_append] at H))
    go_ret2
    exact .inl ⟨hl, _, rfl, H.onlyHead⟩
  · replace H := H.grew hb.below
    clear hb
    go_wp2_with (first | refine sL ?_ | (refine sS ?_; clear H; intro _ H) | (refine sB ?_; clear H; intro _ _ H) | (refine sA ?_; clear H; intro _ _ H))
    go_ret2
    exact .inr ⟨hl, rfl, H.nix⟩
end Go.Proofs.Ytijnhpaafhcndaa
end
section
namespace Go.Proofs.Ytijnhpaafhcndaa
open Go.RowKit Go.Maps
attribute [local go_sem] InGr
set_option maxHeartbeats 8000000
set_option maxRecDepth 100000
set_option linter.unusedSimpArgs false
set_option linter.unusedVariables false
theorem counts_walk {P : PoolT} {cv nv av hv lv : Value} {rvs : List Value} {R : Raw} {ms : List Mk} {N f n : Int} (h : RawAt P cv nv av hv rvs R) (hms : RowIn P mkL 5 lv ms) (hf : ∀ m ∈ ms, m.Fits) (hs : fits64 R.start) (hN : fits64 N) (h1 : fits64 f) (h2 : fits64 n) (w : World) (hp : (poolA P).ho w) :
    Calls Try.prog 3 #[.agg #[.int .i64 R.start, cv, nv, av, hv, lv, .int .i64 N], .int .i64 f, .int .i64 n] w fun e w' => e = .returned (.bool true) ∧ St w [] [] w' := by
  have H := St.nil w []
  have HK := Ks.one hp
  unfold fits64 at hs h1 h2
  have HG := Lib.hid (fun w hp => good_c h hms hs.1 hs.2 (N := N) w hp)
  have HB : Hid (∀ c, R.Snd c → ms.length ≤ 100 → ∀ w, (poolA P).ho w → _) := Lib.hid (fun c hR hl w hp => begun_c h hR hms hf hl hN w hp)
  have HPL : Hid (∀ c, R.Snd c → ms.length ≤ 100 → ∀ w, (poolA P).ho w → Calls Try.prog 11 #[.agg #[.int .i64 R.start, cv, nv, av, hv, lv, .int .i64 N], .int .i64 (idOf ms N : Nat)] w (PlainPost ((stoOf ms).txt (idOf ms N)) (R.mc.hits R.mc.start ((stoOf ms).txt (idOf ms N))) w)) := Lib.hid (fun c hR hl w hp => plain_c h hR hms hf hl (idOf_le hf N).2.1 w hp)
  have HID := Lib.hid (idOf_le hf N)
  obtain ⟨a1, c1, rfl, hm1⟩ := h.cls.shape
  obtain ⟨a2, c2, rfl, hm2⟩ := h.next.shape
  obtain ⟨a3, c3, rfl, hm3⟩ := h.acc.shape
  obtain ⟨a4, c4, rfl, hm4⟩ := h.wts.shape
  obtain ⟨a5, c5, rfl, hm5⟩ := hms.shape
  clear h hms hf hs hN hp hm1 hm2 hm3 hm4 hm5
  go_enter Try.func3, Try.ntmps3
  go_wp2_with (first | refine sL ?_ | (refine sB ?_; clear H; intro _ _ H))
  with_reducible refine Calls.mono (HG.out _ (H.known HK pk)) ?_
  rintro e wc ⟨b, rfl, hgood, hb⟩
  replace H := H.grew hb.below
  clear hb
  cases b with
  | false =>
    clear hgood
    go_wp2_with (first | refine sL ?_ | (refine sB ?_; clear H; intro _ _ H))
    go_ret
    exact ⟨rfl, H.nix⟩
  | true =>
    obtain ⟨hl, c, hR⟩ := hgood rfl
    have HR := Lib.hid hR
    have HL := Lib.hid hl
    clear hgood hl hR
    go_wp2_with (first | refine sL ?_ | (refine sB ?_; clear H; intro _ _ H))
    with_reducible refine Calls.mono (HB.out c HR.out HL.out _ (H.known HK pk)) ?_
    rintro e wc ⟨T, mm, lv1, rfl, hmc, hbk, hT, hb⟩
    replace H := H.call0 hb
    clear hb
    simp only [List.cons_append, List.nil_append] at H
    go_wp2_with (first | refine sL ?_ | (refine sB ?_; clear H; intro _ _ H))
    with_reducible refine Calls.mono (HPL.out c HR.out HL.out _ (H.known HK pk)) ?_
    obtain ⟨hok, hid, _, _⟩ := HID.out
    have hmax := txt_max hok hid
    generalize hii : idOf ms N = id at *
    generalize hSS : stoOf ms = S at *
    rintro e wc (⟨hl3, vh, rfl, hb⟩ | ⟨hl3, rfl, hb⟩)
    · replace H := H.call0 hb
      clear hb
      simp only [List.cons_append, List.nil_append] at H
      have hsl : (R.mc.hits R.mc.start (S.txt id)).length = (S.txt id).length := Mc.hits_len _ _
      have hsb := HR.out.ok.hits_le HR.out.ok.start (fun b hb => Sto.txt_lt hok hid b hb)
      have HCN : Hid (∀ s k : Nat, s + k ≤ (S.txt id).length → S.rsum T.mc id s k = (((R.mc.hits R.mc.start (S.txt id)).drop s).take k).sum ∧ S.rsum T.mc id s k ≤ 1048576 * 300) := Lib.hid fun s k hk => by
        refine ⟨by rw [hmc]; exact (Mc.hits_range _ _ _ _).symm, ?_⟩
        rw [hmc]
        have := HR.out.ok.sum_le (HR.out.ok.ends_lt HR.out.ok.start (l := (S.txt id).take s) fun b hb => Sto.txt_lt hok hid b (List.mem_of_mem_take hb)) (l := ((S.txt id).drop s).take k) (fun b hb => Sto.txt_lt hok hid b (List.mem_of_mem_drop (List.mem_of_mem_take hb)))
        rw [List.length_take] at this
        unfold Sto.rsum
        omega
      generalize hhs : R.mc.hits R.mc.start (S.txt id) = hs at *
      generalize hln : (S.txt id).length = ln at *
      have HLN := Lib.hid hln
      have HOK := Lib.hid (And.intro hok (And.intro hid (And.intro hmc (And.intro hbk hT))))
      have HSB := Lib.hid hsb
      obtain ⟨ah, ch, hvh, _⟩ := rowsA_shape (H.get (A := rowsA encI 3 1 vh hs) pk)
      rw [hsl] at hvh
      subst hvh
      have HSL := Lib.hid hsl
      clear hsl
      clear HB HG HID HPL hok hid hln hii hSS hmc hbk hT hhs hsb
      by_cases hin : 0 ≤ f ∧ 0 ≤ n ∧ f + n ≤ ln
      · obtain ⟨s, rfl⟩ : ∃ s : Nat, f = s := ⟨f.toNat, by omega⟩
        obtain ⟨a, rfl⟩ : ∃ a : Nat, n = a := ⟨n.toNat, by omega⟩
        have ek1 : decide ((s : Int) < 0) = false := by simp
        have ek2 : decide ((a : Int) < 0) = false := by simp
        have ek3 : decide ((ln : Int) < s) = false := by simp; omega
        have ek3' : decide (ln < s) = false := by simp; omega
        have i1 := IntWalk.i64_in ((ln : Int) - s) (by omega)
        have ek4 : decide ((ln : Int) - s < a) = false := by simp; omega
        obtain ⟨hr1, hr2⟩ := HCN.out s a (by omega)
        have HCO : Hid (∀ w, ((tabA T).sep (stoA T.s lv1 mm S)).ho w → Calls Try.prog 12 #[.pointer (some ⟨T.p, 0, none⟩), .int .i64 id, .int .i64 (s : Nat), .int .i64 (a : Nat)] w fun e w' => ∃ T'', e = .returned (.tuple #[.int .i64 (S.rsum T.mc id s a : Nat), .nilIface]) ∧ T.Ext T'' ∧ TabOk S T'' ∧ St w (tabA T).fp [tabA T''] w') := Lib.hid fun w h => by
          obtain ⟨hok, hid, hmc, hbk, hT⟩ := HOK.out
          have := count_x (lv := lv1) (m := mm) (s := s) (n := a) hok hbk hid (by rw [HLN.out]; omega) (.refl T) hT w h
          simpa only [cntV_in (show S.rsum T.mc id s a ≤ 1152921504606846976 by omega)] using this
        have HCR : Hid (∀ w, (rowsA encI 3 1 (.slice ah ln ch) hs).ho w → Calls Try.prog 14 #[.slice ah ln ch, .int .i64 s, .int .i64 a] w fun e w' => e = .returned (.int .i64 (S.rsum T.mc id s a : Nat)) ∧ St w [] [] w') := Lib.hid fun w h => by
          rw [hr1]
          exact hcount_c HSB.out (by rw [HSL.out]; omega) (by rw [HSL.out]; omega) w h
        generalize S.rsum T.mc id s a = x at *
        clear hr1 HCN
        go_wp2_with (first | refine sL ?_ | (refine sB ?_; clear H; intro _ _ H) | (go_at_call 12; with_reducible refine Calls.mono (HCO.out _ (sep_mk (H.get (A := tabA T) pk) (H.get (A := stoA T.s lv1 mm S) pk) (H.apart2 (A := tabA T) (B := stoA T.s lv1 mm S) pk pk))) ?_; rintro e wc ⟨T1, rfl, hx1, hT1, hb⟩; replace H := H.pick (A := tabA T) pk; replace H := H.call hb; clear hb hx1 hT1; simp only [List.cons_append, List.nil_append] at H) | (go_at_call 14; with_reducible refine Calls.mono (HCR.out _ (H.get (A := rowsA encI 3 1 (.slice ah ln ch) hs) pk)) ?_; rintro e wc ⟨rfl, hb⟩; replace H := H.grew hb.below; clear hb))
        go_ret
        exact ⟨rfl, H.nix⟩
      · have HCO : Hid (∀ w, (tabA T).ho w → (stoA T.s lv1 mm S).ho w → Calls Try.prog 12 #[.pointer (some ⟨T.p, 0, none⟩), .int .i64 id, .int .i64 f, .int .i64 n] w fun e w' => e = .returned (.tuple #[.int .i64 0, .iface 42 (.int .i64 1)]) ∧ St w [] [] w') := Lib.hid fun w h1 h2 => by
          obtain ⟨hok, hid, hmc, hbk, hT⟩ := HOK.out
          exact count_no hok hT hbk hid (by rw [HLN.out]; exact hin) w h1 h2
        have HIS : Hid (∀ w, Calls Try.prog 13 #[.iface 42 (.int .i64 1), .int .i64 1] w fun e w' => e = .returned (.bool true) ∧ w' = w) := Lib.hid (fun w => is_ev 1 1 (by omega) true rfl w)
        clear HCN HSB
        by_cases k1 : f < 0
        · have ek1 : decide (f < 0) = true := by simp; omega
          clear k1 hin
          go_wp2_with (first | refine sL ?_ | (refine sB ?_; clear H; intro _ _ H) | (go_at_call 12; with_reducible refine Calls.mono (HCO.out _ (H.get (A := tabA T) pk) (H.get (A := stoA T.s lv1 mm S) pk)) ?_; rintro e wc ⟨rfl, hb⟩; replace H := H.grew hb.below; clear hb) | (go_at_call 13; with_reducible refine same (HIS.out _) ?_))
          go_ret
          exact ⟨rfl, H.nix⟩
        have ek1 : decide (f < 0) = false := by simp; omega
        by_cases k2 : n < 0
        · have ek2 : decide (n < 0) = true := by simp; omega
          clear k2 hin
          go_wp2_with (first | refine sL ?_ | (refine sB ?_; clear H; intro _ _ H) | (go_at_call 12; with_reducible refine Calls.mono (HCO.out _ (H.get (A := tabA T) pk) (H.get (A := stoA T.s lv1 mm S) pk)) ?_; rintro e wc ⟨rfl, hb⟩; replace H := H.grew hb.below; clear hb) | (go_at_call 13; with_reducible refine same (HIS.out _) ?_))
          go_ret
          exact ⟨rfl, H.nix⟩
        have ek2 : decide (n < 0) = false := by simp; omega
        by_cases k3 : (ln : Int) < f
        · have ek3 : decide ((ln : Int) < f) = true := by simp; omega
          clear k3 hin
          go_wp2_with (first | refine sL ?_ | (refine sB ?_; clear H; intro _ _ H) | (go_at_call 12; with_reducible refine Calls.mono (HCO.out _ (H.get (A := tabA T) pk) (H.get (A := stoA T.s lv1 mm S) pk)) ?_; rintro e wc ⟨rfl, hb⟩; replace H := H.grew hb.below; clear hb) | (go_at_call 13; with_reducible refine same (HIS.out _) ?_))
          go_ret
          exact ⟨rfl, H.nix⟩
        have ek3 : decide ((ln : Int) < f) = false := by simp; omega
        have i1 := IntWalk.i64_in ((ln : Int) - f) (by omega)
        have ek4 : decide ((ln : Int) - f < n) = true := by simp; omega
        clear hin
        go_wp2_with (first | refine sL ?_ | (refine sB ?_; clear H; intro _ _ H) | (go_at_call 12; with_reducible refine Calls.mono (HCO.out _ (H.get (A := tabA T) pk) (H.get (A := stoA T.s lv1 mm S) pk)) ?_; rintro e wc ⟨rfl, hb⟩; replace H := H.grew hb.below; clear hb) | (go_at_call 13; with_reducible refine same (HIS.out _) ?_))
        go_ret
        exact ⟨rfl, H.nix⟩
    · replace H := H.grew hb.below
      clear hb
      go_wp2_with (first | refine sL ?_ | (refine sB ?_; clear H; intro _ _ H))
      go_ret
      exact ⟨rfl, H.nix⟩
end Go.Proofs.Ytijnhpaafhcndaa
end
section
namespace Go.Proofs.Ytijnhpaafhcndaa
open Go.ChangeShapes Go.WideShapes Go.ChangeAt Go.RowKit Go.Deep
set_option linter.unusedVariables false
set_option linter.unusedSimpArgs false
set_option maxRecDepth 100000
theorem ownK : ownKnob Try.prog.godebug = none := by kernel_rfl
theorem i64_wf {x : Int} (h : (Lit.int .i64 x).wf = true) : fits64 x := by
  simp [Lit.wf, IntKind.min, IntKind.max, IntKind.signed, IntKind.bits] at h
  unfold fits64
  omega
theorem u8_wf {x : Int} (h : (Lit.int .u8 x).wf = true) : ∃ n : Nat, x = (n : Int) ∧ n < 256 := by
  simp [Lit.wf, IntKind.min, IntKind.max, IntKind.signed, IntKind.bits] at h
  exact ⟨x.toNat, by omega, by omega⟩
section
variable {H : Type} {enc : TypeId × Value → H} {w : World} {base : Nat} {spare : Nat → Bool} {held : Bool}
theorem open_row {α : Type} [Inhabited α] {ec : α → List Value} {k : Nat} (hk : ∀ x, (ec x).length = k) (hk0 : 0 < k) {t e : TypeId} (ht : Try.prog.underlying t = some (.slice e)) (hc : Try.prog.cellsOf e = k) (Ok : α → Prop)
    (el : ∀ n cs y, cs.length = k → DataW.trod enc Try.prog w base spare held n e cs = some y → ∃ x, cs = ec x ∧ Ok x) {fuel : Nat} {cs : List Value} {x : DataW H × List MemPlace} (h : DataW.trod enc Try.prog w base spare held fuel t cs = some x) :
    ∃ (v : Value) (xs : List α) (P : PoolT), cs = [v] ∧ RowIn P ec k v xs ∧ (poolA P).ho w ∧ ∀ x ∈ xs, Ok x := by
  rcases open_slice ht h with ⟨hcs, _⟩ | ⟨a, len, cap, m, n, D, Pl, hcs, _, hl, hm, hmm, _, hx⟩
  · exact ⟨_, [], [], hcs, RowIn.nil 0, poolA_nil w, by simp⟩
  · have hml : len ≤ m := by rw [hmm]; split <;> omega
    rw [hc] at hx
    by_cases h0 : len = 0
    · subst h0
      exact ⟨_, [], [], hcs, ⟨some a, cap, rfl, by simp, fun h => by simp at h⟩, poolA_nil w, by simp⟩
    obtain ⟨b, o, spot⟩ := a
    have key : ∀ i, i < len → ∃ x : α, w.cells? base ((⟨b, o, spot⟩ : Addr).add (i * k)) k = some (ec x) ∧ Ok x := fun i hi => by
      obtain ⟨cs', h1, h2⟩ := hx i (by omega)
      obtain ⟨x, rfl, hok⟩ := el _ _ _ (World.cells?_some h1).2.1 h2
      exact ⟨x, h1, hok⟩
    obtain ⟨f, hf2⟩ := choose_lt (α := α) key
    have hcell : ∀ i, i < len → ∀ j u, (ec (f i))[j]? = some u → w.cell? (((⟨b, o, spot⟩ : Addr).add (i * k)).add j) = some u := fun i hi j u hj => by
      have hj4 : j < k := by have := (List.getElem?_eq_some_iff.1 hj).1; rwa [hk] at this
      have := (World.cells?_some (hf2 i hi).1).2.2 j hj4
      rw [this, hj]
    have hl4 : 0 < (ec (f 0)).length := by rw [hk]; omega
    have hspot : spot = none := by
      have := World.cell?_spot (hcell 0 (by omega) 0 _ (List.getElem?_eq_getElem hl4))
      simpa [Addr.add] using this
    subst hspot
    have hadd : ∀ i j, ((⟨b, o, none⟩ : Addr).add (i * k)).add j = ⟨b, o + (i * k + j), none⟩ := fun i j => by rw [Addr.add_mid, Addr.add_mid]; congr 1; omega
    have hblk : b < w.heap.size := by
      have := block_lt_of_cell (hcell 0 (by omega) 0 _ (List.getElem?_eq_getElem hl4))
      rw [hadd] at this
      exact this
    unfold maxLen at hm
    have hlen : ((List.range len).map f).length = len := by simp
    refine ⟨_, (List.range len).map f, [(b, o, flatG ec ((List.range len).map f))], hcs, ⟨some ⟨b, o, none⟩, cap, by rw [hlen], by rw [hlen]; unfold maxLen; omega, fun _ => ⟨b, o, rfl, by simp⟩⟩, ?_, ?_⟩
    · rw [poolA_ho]
      intro y hy
      simp only [List.mem_singleton] at hy
      subst hy
      refine ⟨hblk, fun jj u hj => ?_⟩
      have hjl := getElem_len hj
      rw [flatG_len ec k hk, hlen] at hjl
      have hi : jj / k < len := by rw [Nat.div_lt_iff_lt_mul hk0]; exact hjl
      have hjk : jj % k < k := Nat.mod_lt _ hk0
      have hget : ((List.range len).map f)[jj / k]? = some (f (jj / k)) := by rw [List.getElem?_map, List.getElem?_range hi]; rfl
      have hfl := flatG_get ec k hk _ (jj / k) _ hget (jj % k) hjk
      have hdm : jj / k * k + jj % k = jj := by have := Nat.div_add_mod jj k; rw [Nat.mul_comm] at this; exact this
      rw [hdm, hj] at hfl
      have := hcell (jj / k) hi (jj % k) u hfl.symm
      rw [hadd, hdm] at this
      exact this
    · intro y hy
      obtain ⟨i, hi, rfl⟩ := List.mem_map.1 hy
      exact (hf2 i (List.mem_range.1 hi)).2
theorem open_ints_row {t e : TypeId} (ht : Try.prog.underlying t = some (.slice e)) (he : Try.prog.underlying e = some (.int .i64)) (hc : Try.prog.cellsOf e = 1) {fuel : Nat} {cs : List Value} {x : DataW H × List MemPlace} (h : DataW.trod enc Try.prog w base spare held fuel t cs = some x) :
    ∃ (v : Value) (xs : List Int) (P : PoolT), cs = [v] ∧ RowIn P encZ 1 v xs ∧ (poolA P).ho w ∧ ∀ x ∈ xs, fits64 x :=
  open_row encZ_len (by omega) ht hc fits64 (fun n cs y hl hy => by
    obtain ⟨z, rfl, _, hz⟩ := DataW.trod_int he hy
    exact ⟨z, rfl, i64_wf hz⟩) h
theorem rows_all {rvs : List Value} (h : ∀ v ∈ rvs, ∃ (xs : List Int) (P : PoolT), RowIn P encZ 1 v xs ∧ (poolA P).ho w) :
    ∃ (nx : List (List Int)) (P : PoolT), rvs.length = nx.length ∧ (∀ (i : Nat) (rv : Value) (r : List Int), rvs[i]? = some rv → nx[i]? = some r → RowIn P encZ 1 rv r) ∧ (poolA P).ho w := by
  induction rvs with
  | nil => exact ⟨[], [], rfl, fun i rv r h => by simp at h, poolA_nil w⟩
  | cons v rvs ih =>
    obtain ⟨nx, P, h1, h2, h3⟩ := ih fun u hu => h u (by simp [hu])
    obtain ⟨xs, Q, h4, h5⟩ := h v (by simp)
    refine ⟨xs :: nx, Q ++ P, by simp [h1], fun i rv r hr hn => ?_, poolA_append h5 h3⟩
    cases i with
    | zero =>
      simp at hr hn
      subst hr hn
      exact h4.mono fun x hx => List.mem_append.2 (.inl hx)
    | succ i =>
      simp at hr hn
      exact (h2 i rv r hr hn).mono fun x hx => List.mem_append.2 (.inr hx)
instance : Inhabited Mk := ⟨⟨0, 0, 0, 0, 0⟩⟩
instance : Inhabited Value := ⟨.nilIface⟩
theorem take5 {α : Type} {cs : List α} (h : cs.length = 5) : ∃ a b c d e, cs = [a, b, c, d, e] := by
  match cs, h with
  | [a, b, c, d, e], _ => exact ⟨a, b, c, d, e, rfl⟩
theorem open_make {n : Nat} {cs : List Value} {y : DataW H × List MemPlace} (hl : cs.length = 5) (h : DataW.trod enc Try.prog w base spare held n 115 cs = some y) : ∃ m : Mk, cs = mkL m ∧ m.Fits := by
  obtain ⟨a, b, c, d, e, rfl⟩ := take5 hl
  obtain ⟨xs, k, _, _, _, hxl, hf⟩ := DataW.trod_struct Try.underlying115 h
  have c3 : Try.prog.cellsOf 3 = 1 := by kernel_rfl
  have c5 : Try.prog.cellsOf 5 = 1 := by kernel_rfl
  have get : ∀ i, i < 5 → ∃ y, xs[i]? = some y := fun i hi => ⟨xs[i]'(by rw [hxl]; exact hi), List.getElem?_eq_getElem _⟩
  obtain ⟨y0, g0⟩ := get 0 (by omega)
  obtain ⟨y1, g1⟩ := get 1 (by omega)
  obtain ⟨y2, g2⟩ := get 2 (by omega)
  obtain ⟨y3, g3⟩ := get 3 (by omega)
  obtain ⟨y4, g4⟩ := get 4 (by omega)
  have f0 : DataW.trod enc Try.prog w base spare held k 3 ((([a, b, c, d, e] : List Value).drop 0).take (Try.prog.cellsOf 3)) = some y0 := (hf 0 _ rfl).trans g0
  rw [c3] at f0
  have f1 : DataW.trod enc Try.prog w base spare held k 5 ((([a, b, c, d, e] : List Value).drop 1).take (Try.prog.cellsOf 5)) = some y1 := (hf 1 _ rfl).trans g1
  rw [c5] at f1
  have f2 : DataW.trod enc Try.prog w base spare held k 3 ((([a, b, c, d, e] : List Value).drop 2).take (Try.prog.cellsOf 3)) = some y2 := (hf 2 _ rfl).trans g2
  rw [c3] at f2
  have f3 : DataW.trod enc Try.prog w base spare held k 3 ((([a, b, c, d, e] : List Value).drop 3).take (Try.prog.cellsOf 3)) = some y3 := (hf 3 _ rfl).trans g3
  rw [c3] at f3
  have f4 : DataW.trod enc Try.prog w base spare held k 3 ((([a, b, c, d, e] : List Value).drop 4).take (Try.prog.cellsOf 3)) = some y4 := (hf 4 _ rfl).trans g4
  rw [c3] at f4
  obtain ⟨z0, e0, _, w0⟩ := DataW.trod_int Try.underlying3 f0
  obtain ⟨z1, e1, _, w1⟩ := DataW.trod_int Try.underlying5 f1
  obtain ⟨z2, e2, _, w2⟩ := DataW.trod_int Try.underlying3 f2
  obtain ⟨z3, e3, _, w3⟩ := DataW.trod_int Try.underlying3 f3
  obtain ⟨z4, e4, _, w4⟩ := DataW.trod_int Try.underlying3 f4
  simp only [List.drop_zero, List.take_succ_cons, List.take_zero, List.drop_succ_cons, List.cons.injEq, and_true] at e0 e1 e2 e3 e4
  obtain ⟨l, rfl, hl8⟩ := u8_wf w1
  subst e0 e1 e2 e3 e4
  exact ⟨⟨z0, l, z2, z3, z4⟩, rfl, ⟨i64_wf w0, hl8, i64_wf w2, i64_wf w3, i64_wf w4⟩⟩
theorem open_input {fuel : Nat} {cs : List Value} {x : DataW H × List MemPlace} (h : DataW.trod enc Try.prog w base spare held fuel 29 cs = some x) :
    ∃ (P : PoolT) (cv nv av hv lv : Value) (rvs : List Value) (R : Raw) (ms : List Mk) (N : Int), cs = [.int .i64 R.start, cv, nv, av, hv, lv, .int .i64 N] ∧ RawAt P cv nv av hv rvs R ∧ RowIn P mkL 5 lv ms ∧ (∀ m ∈ ms, m.Fits) ∧ fits64 R.start ∧ fits64 N ∧ (poolA P).ho w := by
  have c29 : Try.prog.cellsOf 29 = 7 := by kernel_rfl
  have c26 : Try.prog.cellsOf 26 = 4 := by kernel_rfl
  have c22 : Try.prog.cellsOf 22 = 1 := by kernel_rfl
  have c23 : Try.prog.cellsOf 23 = 1 := by kernel_rfl
  have c24 : Try.prog.cellsOf 24 = 1 := by kernel_rfl
  have c27 : Try.prog.cellsOf 27 = 1 := by kernel_rfl
  have c3 : Try.prog.cellsOf 3 = 1 := by kernel_rfl
  have c4 : Try.prog.cellsOf 4 = 1 := by kernel_rfl
  have c115 : Try.prog.cellsOf 115 = 5 := by kernel_rfl
  obtain ⟨y0, y1, y2, y3, n, _, hl, f0, f1, f2, f3⟩ := Joins.trod_struct4 Try.underlying29 h
  rw [c29] at hl
  obtain ⟨a0, a1, a2, a3, a4, a5, a6, rfl⟩ : ∃ a0 a1 a2 a3 a4 a5 a6, cs = [a0, a1, a2, a3, a4, a5, a6] := by
    match cs, hl with
    | [a0, a1, a2, a3, a4, a5, a6], _ => exact ⟨a0, a1, a2, a3, a4, a5, a6, rfl⟩
  simp only [c26, c22, c27, c3, List.drop_zero, List.take_succ_cons, List.take_zero, List.drop_succ_cons] at f0 f1 f2 f3
  obtain ⟨z0, z1, z2, z3, n2, _, _, g0, g1, g2, g3⟩ := Joins.trod_struct4 Try.underlying26 f0
  simp only [c22, c23, c24, c3, List.drop_zero, List.take_succ_cons, List.take_zero, List.drop_succ_cons] at g0 g1 g2 g3
  obtain ⟨st, e0, _, w0⟩ := DataW.trod_int Try.underlying3 g0
  obtain ⟨N, e6, _, w6⟩ := DataW.trod_int Try.underlying3 f3
  obtain ⟨cv, cls, P1, e1, r1, p1, _⟩ := open_ints_row Try.underlying22 Try.underlying3 c3 g1
  obtain ⟨nv, rvs, P2, e2, r2, p2, hrv⟩ := open_row (ec := encV) encV_len (by omega) Try.underlying23 c22 (fun v => ∃ (xs : List Int) (P : PoolT), RowIn P encZ 1 v xs ∧ (poolA P).ho w) (fun n cs y hl hy => by
    obtain ⟨v, xs, P, rfl, hr, hp, _⟩ := open_ints_row Try.underlying22 Try.underlying3 c3 hy
    exact ⟨v, rfl, xs, P, hr, hp⟩) g2
  obtain ⟨av, acc, P3, e3, r3, p3, _⟩ := open_row (ec := encB) encB_len (by omega) Try.underlying24 c4 (fun _ => True) (fun n cs y hl hy => by
    obtain ⟨b, rfl, _⟩ := DataW.trod_bool Try.underlying4 hy
    exact ⟨b, rfl, trivial⟩) g3
  obtain ⟨hv, wts, P4, e4, r4, p4, _⟩ := open_ints_row Try.underlying22 Try.underlying3 c3 f1
  obtain ⟨lv, ms, P5, e5, r5, p5, hms⟩ := open_row (ec := mkL) mkL_len (by omega) Try.underlying27 c115 Mk.Fits (fun n cs y hl hy => open_make hl hy) f2
  obtain ⟨nx, P6, hlen, hrows, p6⟩ := rows_all hrv
  simp only [List.cons.injEq, and_true] at e0 e1 e2 e3 e4 e5 e6
  subst e0 e1 e2 e3 e4 e5 e6
  have i1 : ∀ x ∈ P1, x ∈ P1 ++ (P2 ++ (P3 ++ (P4 ++ (P5 ++ P6)))) := fun x hx => by simp [hx]
  have i2 : ∀ x ∈ P2, x ∈ P1 ++ (P2 ++ (P3 ++ (P4 ++ (P5 ++ P6)))) := fun x hx => by simp [hx]
  have i3 : ∀ x ∈ P3, x ∈ P1 ++ (P2 ++ (P3 ++ (P4 ++ (P5 ++ P6)))) := fun x hx => by simp [hx]
  have i4 : ∀ x ∈ P4, x ∈ P1 ++ (P2 ++ (P3 ++ (P4 ++ (P5 ++ P6)))) := fun x hx => by simp [hx]
  have i5 : ∀ x ∈ P5, x ∈ P1 ++ (P2 ++ (P3 ++ (P4 ++ (P5 ++ P6)))) := fun x hx => by simp [hx]
  have i6 : ∀ x ∈ P6, x ∈ P1 ++ (P2 ++ (P3 ++ (P4 ++ (P5 ++ P6)))) := fun x hx => by simp [hx]
  exact ⟨P1 ++ (P2 ++ (P3 ++ (P4 ++ (P5 ++ P6)))), _, _, _, _, _, rvs, ⟨st, cls, nx, acc, wts⟩, ms, N, rfl, ⟨r1.mono i1, r2.mono i2, hlen, fun i rv r h1 h2 => (hrows i rv r h1 h2).mono i6, r3.mono i3, r4.mono i4⟩, r5.mono i5, hms, i64_wf w0, i64_wf w6, poolA_append p1 (poolA_append p2 (poolA_append p3 (poolA_append p4 (poolA_append p5 p6))))⟩
theorem arg_input {r : Reach} {b0 : Nat} {v : Value} {d : DataW H} {p : List MemPlace} (hv : Value.okWide Try.prog w r b0 29 v) (h : DataW.Trod enc Try.prog w base spare held 29 v d p) :
    ∃ (P : PoolT) (cv nv av hv lv : Value) (rvs : List Value) (R : Raw) (ms : List Mk) (N : Int), v = .agg #[.int .i64 R.start, cv, nv, av, hv, lv, .int .i64 N] ∧ RawAt P cv nv av hv rvs R ∧ RowIn P mkL 5 lv ms ∧ (∀ m ∈ ms, m.Fits) ∧ fits64 R.start ∧ fits64 N ∧ (poolA P).ho w := by
  obtain ⟨cs, rfl, _⟩ := okWide_struct Try.underlying29 hv
  obtain ⟨fuel, hf⟩ := h
  obtain ⟨P, cv, nv, av, hv', lv, rvs, R, ms, N, e, h1⟩ := open_input hf
  refine ⟨P, cv, nv, av, hv', lv, rvs, R, ms, N, ?_, h1⟩
  have e2 : cs.toList = [.int .i64 R.start, cv, nv, av, hv', lv, .int .i64 N] := e
  rw [← e2]
theorem arg_int {r : Reach} {b0 : Nat} {v : Value} {d : DataW H} {p : List MemPlace} (hv : Value.okWide Try.prog w r b0 3 v) (h : DataW.Trod enc Try.prog w base spare held 3 v d p) : ∃ z, v = .int .i64 z ∧ fits64 z := by
  obtain ⟨z, rfl, h1, h2, h3⟩ := open_int Try.underlying3 hv h
  exact ⟨z, rfl, i64_wf h3⟩
end
end Go.Proofs.Ytijnhpaafhcndaa
end
section
namespace Go.Proofs.Ytijnhpaafhcndaa.lawCounts
open Go.ChangeShapes Go.WideShapes Go.ChangeAt Go.RowKit
open Go.Proofs.Ytijnhpaafhcndaa
set_option linter.unusedVariables false
set_option maxRecDepth 100000 in
theorem lifted (os : Os) (started : os.Started) (H : Type) (enc : TypeId × Value → H) :
    ReturnsInHanded {} Try.checked os 3 .any (Rows.locateCountsSpec.pre6 enc Try.prog Try.f3 Rows.locateCountsRow.domain false) (Rows.locateCountsSpec.post enc Try.prog Try.f3 false true false false) := by
  refine returnsInHanded_of_change (C := Try.checked) ownK started (by kernel_rfl) Try.func3
    (ChangeSpec.witness6 (enc := enc) (C := Try.checked) false ⟨#[], #[.agg #[.int .i64 0, .slice none 0 0, .slice none 0 0, .slice none 0 0, .slice none 0 0, .slice none 0 0, .int .i64 0], .int .i64 0, .int .i64 0], []⟩ 8 (by kernel_rfl) (by kernel_rfl) (by kernel_rfl) (by kernel_rfl)) ?_
  intro W base args ds gs before hval0 hW hcnd _
  have hval : ∀ (j : Nat) t v, Try.f3.params[j]? = some t → args[j]? = some v → Value.okWide Try.prog W .any base t v := hval0
  have hW' := hW
  obtain ⟨p, q, hA0, hV, rfl, hfz, hnd⟩ := hW
  have hA : DataW.TrodAll enc Try.prog W 0 (fun _ => true) true Try.f3.params.toList args.toList ds p := hA0
  rw [Try.params3] at hA hval
  obtain ⟨v0, vs0, d0, ds0, p0, q0, hargs, rfl, rfl, h0, r0⟩ := trodAll_cons hA
  obtain ⟨v1, vs1, d1, ds1, p1, q1, rfl, rfl, rfl, h1, r1⟩ := trodAll_cons r0
  obtain ⟨v2, vs2, d2, ds2, p2, q2, rfl, rfl, rfl, h2, r2⟩ := trodAll_cons r1
  obtain ⟨rfl, rfl, rfl⟩ := trodAll_nil r2
  obtain rfl : args = #[v0, v1, v2] := by cases args; simp_all
  obtain ⟨rfl, rfl⟩ := trodVars_none hV
  have k0 := h0
  have lt0 : ∀ x ∈ p0, x.block < W.heap.size := by obtain ⟨m, hm⟩ := k0; exact DataW.trod_lt m _ _ _ hm
  have k1 := h1
  have lt1 : ∀ x ∈ p1, x.block < W.heap.size := by obtain ⟨m, hm⟩ := k1; exact DataW.trod_lt m _ _ _ hm
  have k2 := h2
  have lt2 : ∀ x ∈ p2, x.block < W.heap.size := by obtain ⟨m, hm⟩ := k2; exact DataW.trod_lt m _ _ _ hm
  obtain ⟨P, cv, nv, av, hv, lv, rvs, R, ms, N, rfl, hraw, hms, hf, hs, hN, hp⟩ := arg_input (hval 0 29 v0 rfl rfl) h0
  obtain ⟨z1, rfl, b1⟩ := arg_int (hval 1 3 v1 rfl rfl) h1
  obtain ⟨z2, rfl, b2⟩ := arg_int (hval 2 3 v2 rfl rfl) h2
  clear hA0 hval0
  refine (counts_walk hraw hms hf hs hN b1 b2 W hp).mono fun e W' ⟨he, bel⟩ => ?_
  subst he
  exact ⟨_, rfl, _, _, _, [], _, [], hW', trodAll_mk1 (shut_bool Try.underlying4 _), (trodAll_cons_mk (Below.trod laidOut_ok (by kernel_rfl) (of_decide_eq_true (by kernel_rfl)) k0 bel.below lt0) (trodAll_cons_mk (Below.trod laidOut_ok (by kernel_rfl) (of_decide_eq_true (by kernel_rfl)) k1 bel.below lt1) (trodAll_cons_mk (Below.trod laidOut_ok (by kernel_rfl) (of_decide_eq_true (by kernel_rfl)) k2 bel.below lt2) trodAll_mk0))), rfl, bel.below.frame _, fun h => by cases h⟩
theorem over : Rows.locateCountsRow.holds Try.pinned (OpenSpec.ofChange Rows.locateCountsSpec) :=
  OpenClaim.holds_of_wide 3 Try.f3 rfl rfl rfl rfl rfl rfl rfl ⟨rfl, rfl, rfl, rfl, rfl⟩ rfl rfl rfl rfl rfl (by kernel_rfl) Try.func3 (by kernel_rfl)
    (of_decide_eq_true (by kernel_rfl)) (by unfold Func.isWrapper; first | (rw [if_pos (by decide +kernel)]; kernel_rfl) | (rw [if_neg (by decide +kernel)]; exact ⟨rfl, rfl⟩))
    (fun os started H enc _ => lifted os started H enc)
theorem proved : Rows.LocateCountsSaid := over
#print axioms proved
end Go.Proofs.Ytijnhpaafhcndaa.lawCounts
end
