/-
  Part 5 of the texts behind the statements of this seat: walks and laws Ub, Sg, Uc, Px, Ud, Ue, Uf, Ug, Uh. Conditions: as each states.
-/
import Derived.Test.YtijnhpaafhcndaaBa4
section
namespace Go.Proofs.Ytijnhpaafhcndaa
open Go.RowKit Go.Maps
attribute [local go_sem] InGr
set_option maxHeartbeats 4000000
set_option maxRecDepth 100000
set_option linter.unusedSimpArgs false
set_option linter.unusedVariables false
def enc16 (x : Nat) : List Value := [.int .i16 x]
theorem enc16_len (x : Nat) : (enc16 x).length = 1 := rfl
theorem St.only5 {w0 w : World} {M : List Nat} {L R1 R2 R3 R4 R5 : List As} {A B C D E : As} (h : St w0 M L w) (h1 : Pick L A R1) (h2 : Pick R1 B R2) (h3 : Pick R2 C R3) (h4 : Pick R3 D R4) (h5 : Pick R4 E R5) : St w0 M [A, B, C, D, E] w :=
  (h.perm (L' := [A, B, C, D, E] ++ R5) (h1.perm.trans ((h2.perm.trans ((h3.perm.trans ((h4.perm.trans ((h5.perm).cons _)).cons _)).cons _)).cons _))).heads
theorem St.sepK {w0 w : World} {M : List Nat} {L R K R' : List As} {A B : As} (h : St w0 M L w) (k : Ks w0 M K) (hp : Pick L A R) (hq : Pick K B R') : (A.sep B).ho w := by
  rw [sep_ho]
  refine ⟨h.get hp, h.known k hq, fun b hb hm => ?_⟩
  rcases h.own A hp.mem b hb with h' | h'
  · have := B.lt w0 (k.ho B hq.mem) b hm; omega
  · exact k.apart B hq.mem b hm h'
theorem flat_zeros (n : Nat) : flatG enc16 (List.replicate n 0) = List.replicate n (.int .i16 0) := by
  induction n with
  | zero => rfl
  | succ n ih => rw [List.replicate_succ, List.replicate_succ, ← ih]; rfl
def stepT (S : Sto) (T : Tab) (id : Nat) : Nat → Nat := fun q => T.mc.ends q (dirT T.back (S.txt id))
theorem stepT_ext {S : Sto} {T T' : Tab} (h : T.Ext T') (id : Nat) : stepT S T' id = stepT S T id := by
  obtain ⟨_, _, _, _, h1, h2⟩ := h.same
  unfold stepT; rw [h1, h2]
theorem stepT_lt {S : Sto} {T : Tab} {id : Nat} (hS : S.Ok) (hT : TabOk S T) (hid : id ≤ S.list.length) : ∀ q, q < T.mc.n → stepT S T id q < T.mc.n := fun q hq => by
  obtain ⟨c, ok⟩ := hT.ok
  exact ok.ends_lt hq fun b hb => S.txt_lt hS hid b (by unfold dirT at hb; split at hb; simpa using hb; exact hb)
def FoRel (S : Sto) (T : Tab) (id q0 times : Nat) (b8 b9 b10 : Nat) (M : List Nat) (w : World) (k : Nat) (v2 : Value) (wr : World) : Prop :=
  ∃ T' ad c xs sn, v2 = .int .i64 (itr (stepT S T id) xs.length q0 : Nat) ∧ k = sn.count 0 ∧ Way (stepT S T id) q0 xs sn ∧ T.Ext T' ∧ TabOk S T' ∧
    St w M [tabA T', rowsA encI 3 1 (.slice ad xs.length c) xs, rowsA enc16 153 1 (.slice (some ⟨b9, 0, none⟩) 256 256) sn, blk b10 (.cells #[.slice ad xs.length c, .int .i64 0] 137), blk b8 (.cells #[.slice none 0 0, .int .i64 0] 137)] wr
def FoPost (S : Sto) (T : Tab) (id q0 times : Nat) (M : List Nat) (w : World) (e : Ending) (w' : World) : Prop :=
  ∃ T' ad c xs tail, e = .returned (.agg #[.slice ad xs.length c, .int .i64 (tail : Nat)]) ∧ Orb (stepT S T id) q0 times xs tail ∧ T.Ext T' ∧ TabOk S T' ∧ St w M [tabA T', rowsA encI 3 1 (.slice ad xs.length c) xs] w'
theorem follow_c {S : Sto} {T : Tab} {lv : Value} {m id q times : Nat} (hS : S.Ok) (hT : TabOk S T) (hid : id ≤ S.list.length) (hq : q < T.mc.n) (ht : times ≤ 1152921504606846976) (w : World) (h : ((tabA T).sep (stoA T.s lv m S)).ho w) :
    Calls Try.prog 67 #[.pointer (some ⟨T.p, 0, none⟩), .int .i64 id, .int .i64 q, .int .i64 times] w (FoPost S T id q times (tabA T).fp w) := by
  have h0 := h
  rw [sep_ho] at h
  obtain ⟨h1, h2, hd⟩ := h
  have H := St.one h1
  have HK : Ks w (tabA T).fp [stoA T.s lv m S] := ⟨by simpa using h2, by simpa using fun b hb hm => hd b hm hb⟩
  have HE : Hid (∀ T', T.Ext T' → TabOk S T' → ∀ q, q < T.mc.n → ∀ w, ((tabA T').sep (stoA T.s lv m S)).ho w → Calls Try.prog 46 #[.pointer (some ⟨T.p, 0, none⟩), .int .i64 id, .int .i64 q] w (fun e w' => ∃ T'', e = .returned (.int .i64 (stepT S T id q : Nat)) ∧ T.Ext T'' ∧ TabOk S T'' ∧ St w (tabA T').fp [tabA T''] w')) := Lib.hid fun T' hx hT' q hq w h => by
    obtain ⟨x1, x2, x3, x4, x5, x6⟩ := hx.same
    have hc := send_c (lv := lv) (m := m) hS hT' hid (q := q) (by rw [x5]; exact hq) w (by rw [x2]; exact h)
    rw [x1] at hc
    with_reducible refine Calls.mono hc ?_
    rintro e w' ⟨T'', he, hx', hT'', hs⟩
    exact ⟨T'', by rw [he, x5, x6]; rfl, hx.trans hx', hT'', hs⟩
  have HLT : Hid (∀ k, itr (stepT S T id) k q < T.mc.n) := Lib.hid fun k => itr_lt (stepT_lt hS hT hid) hq
  have hn256 : T.mc.n ≤ 256 := by obtain ⟨c, ok⟩ := hT.ok; exact ok.n256
  have HTO := Lib.hid hT
  have HD := Lib.hid hd
  clear hT h0 h1 h2 hd hS hq
  go_enter Try.func67, Try.ntmps67
  go_wp2_with (first | refine sL ?_ | (refine sS ?_; clear H; intro _ H) | (refine sA ?_; clear H; intro _ _ H))
  rename_i b8 _ b9 _ b10 _ _ _
  replace H := H.pick (A := blk b9 (.cells (Array.replicate 256 (.int .i16 0)) 153)) pk
  replace H := H.conv (A' := rowsA enc16 153 1 (.slice (some ⟨b9, 0, none⟩) 256 256) (List.replicate 256 0)) (by rw [rowsA_fp', blk_fp]; rfl) fun hb => by
    rw [blk_ho] at hb
    have := rowsA_of_blk (enc := enc16) (k := 1) (xs := List.replicate 256 0) hb (by rw [List.length_replicate]; simp [maxLen]) (by rw [flat_zeros]; simp) enc16_len
    rwa [List.length_replicate] at this
  replace H := H.empty (A := rowsA encI 3 1 (.slice none 0 0) []) (rowsA_nil _) (by rw [rowsA_fp']; rfl)
  go_loopg [2] 256 (fun k v2 wr => FoRel S T id q times b8 b9 b10 (tabA T).fp w k v2 wr)
  case atStart => exact ⟨T, none, 0, [], List.replicate 256 0, rfl, by rw [List.count_replicate_self], Way.start _ _, .refl T, HTO.out, H.only5 (A := tabA T) (B := rowsA encI 3 1 (.slice none 0 0) []) (C := rowsA enc16 153 1 (.slice (some ⟨b9, 0, none⟩) 256 256) (List.replicate 256 0)) (D := blk b10 (.cells #[.slice none 0 0, .int .i64 0] 137)) (E := blk b8 (.cells #[.slice none 0 0, .int .i64 0] 137)) pk pk pk pk pk⟩
  case round =>
    clear H
    obtain ⟨T', ad, c, xs, sn, rfl, hk, hway, hext, hT', H⟩ := hrel
    have hxl := hway.len
    have hq1 := HLT.out xs.length
    have HWAY := Lib.hid hway
    have HEX := Lib.hid hext
    have HT2 := Lib.hid hT'
    have HK0 := Lib.hid hk
    have HQ := Lib.hid hq1
    generalize hqq : itr (stepT S T id) xs.length q = q1 at *
    have HQQ := Lib.hid hqq
    clear hway hext hT' hk hqq
    by_cases hle : xs.length ≤ times
    · obtain ⟨v, hv⟩ : ∃ v, sn[q1]? = some v := ⟨_, List.getElem?_eq_getElem (by rw [HWAY.out.size]; omega)⟩
      have HV := Lib.hid hv
      clear hv
      rcases Nat.eq_zero_or_pos v with h0 | h0
      · subst h0
        go_wp2_with (first | refine sL ?_ | (refine sS ?_; clear H; intro _ H) | (refine sA ?_; clear H; intro _ _ H) | ((with_reducible refine isLoad ?_); refine AtLoad.cel rfl rfl rfl rfl (rowsA_cell1 (H.get (A := rowsA enc16 153 1 (.slice (some ⟨b9, 0, none⟩) 256 256) sn) pk) enc16_len HV.out rfl) ?_; simp only [Act.put, puA, puB, puC]) | ((with_reducible refine isSlice ?_); refine AtSlice.one H rfl rfl rfl rfl rfl rfl rfl rfl rfl ?_; clear H; intro b _ H; simp only [Act.put, puA, puB, puC]) | ((with_reducible refine isAppend ?_); refine AtAppend.go (enc := encI) H rfl rfl rfl rfl rfl (by decide) (by decide) rfl pk rfl (H.at pk) [q1] rfl (by simp [flatG, encI]) encI_len encI_one (by simp; omega) ?_; clear H; intro ad9 cp9 _ H; simp only [Act.put, puA, puB, puC]) | ((with_reducible refine isStore ?_); refine AtStore.rowA (enc := enc16) (n := 256) (c := 256) H rfl rfl rfl rfl rfl rfl pk (xs.length + 1) (by first | rfl | (simp only [enc16]; go_num)) enc16_len ?bd ?_; (case bd => rw [HWAY.out.size]; omega); clear H; intro _ H; simp only [Act.put, puA, puB, puC]) | (go_at_call 46; with_reducible refine Calls.mono (HE.out T' HEX.out HT2.out q1 HQ.out _ (H.sepK HK (A := tabA T') (B := stoA T.s lv m S) pk pk)) ?_; rintro e wc ⟨T2, rfl, hext2, hT2, hb⟩; replace H := H.pick (A := tabA T') pk; replace H := H.call hb; clear hb; simp only [List.cons_append, List.nil_append] at H; have HX3 := Lib.hid hext2; have HT3 := Lib.hid hT2; clear hext2 hT2))
        obtain ⟨hw2, hc2⟩ := HWAY.out.next HQQ.out.symm (by omega) HV.out
        have hl1 : (xs ++ [q1]).length = xs.length + 1 := by simp
        go_roundg ((sn.set q1 (xs.length + 1)).count 0)
        case measure => rw [HK0.out]; exact hc2
        case rel =>
          refine ⟨T2, ad9, cp9, xs ++ [q1], sn.set q1 (xs.length + 1), ?_, rfl, hw2, HX3.out, HT3.out, ?_⟩
          · rw [hl1, itr_succ, HQQ.out]
          · rw [hl1]
            exact H.only5 (A := tabA T2) (B := rowsA encI 3 1 (.slice ad9 (xs.length + 1) cp9) (xs ++ [q1])) (C := rowsA enc16 153 1 (.slice (some ⟨b9, 0, none⟩) 256 256) (sn.set q1 (xs.length + 1))) (D := blk b10 (.cells #[.slice ad9 (xs.length + 1) cp9, .int .i64 0] 137)) (E := blk b8 (.cells #[.slice none 0 0, .int .i64 0] 137)) pk pk pk pk pk
      · obtain ⟨v', rfl⟩ : ∃ v', v = v' + 1 := ⟨v - 1, by omega⟩
        have horb : Orb (stepT S T id) q times xs v' := HWAY.out.met HQQ.out.symm HV.out
        have HORB := Lib.hid horb
        have hv' : v' < 256 := by
          rcases horb.ends with h | h
          · omega
          · omega
        clear horb h0
        go_wp2_with (first | refine sL ?_ | (refine sS ?_; clear H; intro _ H) | (refine sA ?_; clear H; intro _ _ H) | ((with_reducible refine isLoad ?_); refine AtLoad.cel rfl rfl rfl rfl (rowsA_cell1 (H.get (A := rowsA enc16 153 1 (.slice (some ⟨b9, 0, none⟩) 256 256) sn) pk) enc16_len HV.out rfl) ?_; simp only [Act.put, puA, puB, puC]))
        refine bodyPost_ret (res_row rfl H rfl pk rfl) rfl ?_
        exact ⟨T', ad, c, xs, v', rfl, HORB.out, HEX.out, HT2.out, (H.pick2 (A := tabA T') (B := rowsA encI 3 1 (.slice ad xs.length c) xs) pk pk).onlyTwo⟩
    · have horb : Orb (stepT S T id) q times xs xs.length := HWAY.out.full (by omega)
      have HORB := Lib.hid horb
      clear horb
      go_wp2_with (first | refine sL ?_ | (refine sS ?_; clear H; intro _ H) | (refine sA ?_; clear H; intro _ _ H))
      refine bodyPost_ret (res_row rfl H rfl pk rfl) rfl ?_
      exact ⟨T', ad, c, xs, xs.length, rfl, HORB.out, HEX.out, HT2.out, (H.pick2 (A := tabA T') (B := rowsA encI 3 1 (.slice ad xs.length c) xs) pk pk).onlyTwo⟩
theorem at_orb {f : Nat → Nat} {q times tail cs : Nat} {xs : List Nat} {ad : Option Addr} {c : Nat} (h : Orb f q times xs tail) (hc : cs ≤ times) (ht : times ≤ 1152921504606846976) (w : World) (hr : (rowsA encI 3 1 (.slice ad xs.length c) xs).ho w) :
    Calls Try.prog 68 #[.agg #[.slice ad xs.length c, .int .i64 (tail : Nat)], .int .i64 cs] w fun e w' => e = .returned (.int .i64 (itr f cs q : Nat)) ∧ St w [] [] w' := by
  have H := St.nil w []
  have HK := Ks.one hr
  have hp := h.pos
  have hl := h.le
  obtain ⟨g, c', hs, hlc, hcm⟩ := rowsA_cases hr hp
  unfold maxLen at hcm
  injection hs with e1 e2 e3
  subst e1 e3
  clear e2
  have HORB := Lib.hid h
  clear h hr
  by_cases hlt : cs < xs.length
  · have HG := Lib.hid (HORB.out.at_low hlt)
    generalize itr f cs q = r at *
    go_enter Try.func68, Try.ntmps68
    go_wp2_with (first | refine sL ?_ | (refine sB ?_; clear H; intro _ _ H) | ((with_reducible refine isLoad ?_); refine AtLoad.cel rfl rfl rfl rfl (rowsA_cell1 (H.known HK (A := rowsA encI 3 1 (.slice (some ⟨g, 0, none⟩) xs.length c) xs) pk) encI_len HG.out rfl) ?_; simp only [Act.put, puA, puB, puC]))
    go_ret
    exact ⟨rfl, H.nix⟩
  · obtain ⟨t1, t2, t3⟩ := HORB.out.at_high hlt hc
    have HG := Lib.hid t3
    have hm := Nat.mod_lt (cs - tail) (show 0 < xs.length - tail by omega)
    have i1 : (cs : Int) - tail = ((cs - tail : Nat) : Int) := by omega
    have i2 : (xs.length : Int) - tail = ((xs.length - tail : Nat) : Int) := by omega
    have hz : ((xs.length - tail : Nat) : Int) ≠ 0 := by omega
    have i3 : ((cs - tail : Nat) : Int).tmod ((xs.length - tail : Nat) : Int) = (((cs - tail) % (xs.length - tail) : Nat) : Int) := by simp [Int.tmod]
    have b1 : cs - tail ≤ 1152921504606846976 := by omega
    have b2 : xs.length - tail ≤ 256 := by omega
    have d0 : decide ((cs : Int) < xs.length) = false := by simp; omega
    have d1 : decide (cs < xs.length) = false := by simp; omega
    generalize itr f cs q = r at *
    generalize hr : (cs - tail) % (xs.length - tail) = r2 at *
    generalize hx1 : cs - tail = x1 at *
    generalize hx2 : xs.length - tail = x2 at *
    have HI1 := Lib.hid i1
    have HI2 := Lib.hid i2
    have HI3 := Lib.hid i3
    have hb3 : tail + r2 < xs.length := by omega
    clear hr hx1 hx2 i1 i2 i3
    go_enter Try.func68, Try.ntmps68
    go_wp2_with (first | refine sL ?_ | (refine sB ?_; clear H; intro _ _ H))
    clear t3
    have i1 := HI1.out
    have i2 := HI2.out
    have i3 := HI3.out
    refine wp_region_h H 18 [] [] (by kernel_rfl) (by kernel_rfl) ?_
    apply Exists.intro
    refine ⟨fun w1 hw1 HX => ?_, fun bs wr Hr => ?_⟩
    · refine sG ?_
      repeat (first | refine sQ ?_ | ((with_reducible refine isQLoad ?_); refine QtLoad.cel rfl rfl rfl rfl (fun y => rowsA_cell1 ((HX y).known HK (A := rowsA encI 3 1 (.slice (some ⟨g, 0, none⟩) xs.length c) xs) pk) encI_len HG.out rfl) ?_; simp only [Act.put, puA, puB, puC]) | go_big_quiet_step (fail))
      exact wpQuiet_nil rfl
    clear H
    have H := Hr
    clear Hr
    replace H := sH H; refine sT ?_
    go_wp2_with (first | refine sL ?_ | (refine sB ?_; clear H; intro _ _ H))
    go_ret
    exact ⟨rfl, H.nix⟩
end Go.Proofs.Ytijnhpaafhcndaa
end
section
namespace Go.Proofs.Ytijnhpaafhcndaa
set_option linter.unusedSimpArgs false
set_option linter.unusedVariables false
open Go.RowKit
structure GS where
  D : List Nat
  R : Value → List Value → Prop
def gAt (Ss : List GS) (k : Nat) : GS := Ss.getD k ⟨[], fun _ _ => True⟩
def gFact (Ss : List GS) (vals : Nat → Value) (k : Nat) : Prop := (gAt Ss k).R (vals k) ((gAt Ss k).D.map vals)
def cAt (Cs : List ((Nat → Value) → World → Prop)) (s : Nat) (vals : Nat → Value) (w : World) : Prop := Cs.getD s (fun _ _ => True) vals w
def upV (vals : Nat → Value) (k : Nat) (v : Value) : Nat → Value := fun i => if i = k then v else vals i
theorem upV_self (vals : Nat → Value) (k : Nat) (v : Value) : upV vals k v k = v := by simp [upV]
theorem upV_ne (vals : Nat → Value) {k i : Nat} (v : Value) (h : i ≠ k) : upV vals k v i = vals i := by simp [upV, h]
def feasB (ops : Array Oper) (Bs : List Nat) (k s : Nat) : Bool := Bs.zipIdx.all fun p => (!reachB ops ops.size k p.1 || decide (p.2 < s)) && (!reachB ops ops.size p.1 k || decide (s ≤ p.2)) && (decide (p.1 ≠ k) || decide (s = p.2))
def sgB (ops : Array Oper) (m : Nat) (Ss : List GS) (Bs : List Nat) (SL : List (List Nat)) : Bool :=
  growB ops m && ((List.range m).all fun k => (gAt Ss k).D.all fun i => decide (i < m) && reachB ops ops.size k i) && (Bs.all fun b => decide (b < m)) &&
  ((List.range Bs.length).all fun j => (List.range j).all fun i => reachB ops ops.size (Bs.getD j 0) (Bs.getD i 0)) &&
  ((List.range m).all fun k => (List.range (Bs.length + 1)).all fun s => !feasB ops Bs k s || (SL.getD k []).contains s)
theorem feas_spec {ops : Array Oper} {Bs : List Nat} {k s : Nat} (h : ∀ i b, Bs[i]? = some b → (reachB ops ops.size k b = true → i < s) ∧ (reachB ops ops.size b k = true → s ≤ i) ∧ (b = k → s = i)) : feasB ops Bs k s = true := by
  unfold feasB
  rw [List.all_eq_true]
  rintro ⟨b, i⟩ hp
  have hb : Bs[i]? = some b := by
    have := List.mem_zipIdx hp
    simp at this
    rw [List.getElem?_eq_some_iff]
    exact ⟨this.1, this.2.symm⟩
  obtain ⟨h1, h2, h3⟩ := h i b hb
  simp only [Bool.and_eq_true, Bool.or_eq_true, Bool.not_eq_true', decide_eq_true_eq]
  refine ⟨⟨?_, ?_⟩, ?_⟩
  · cases hr : reachB ops ops.size k b with
    | false => exact .inl rfl
    | true => exact .inr (h1 hr)
  · cases hr : reachB ops ops.size b k with
    | false => exact .inl rfl
    | true => exact .inr (h2 hr)
  · by_cases e : b = k
    · exact .inr (h3 e)
    · exact .inl e
section
variable {P : Program} {ops : Array Oper}
theorem wpAny_sg {m : Nat} {Ss : List GS} {Bs : List Nat} {SL : List (List Nat)} {Cs : List ((Nat → Value) → World → Prop)} (hB : sgB ops m Ss Bs SL = true) {Q : Exit → Act → World → Prop} (a0 : Act)
    (step : ∀ k o, k < m → ops[k]? = some o → ∀ s, s ∈ SL.getD k [] → ∀ vals w, (∀ i ∈ (gAt Ss k).D, gFact Ss vals i) → cAt Cs s vals w →
      StStep P ops o (putL ops vals (depsOf ops k) a0) w fun v w' => (gAt Ss k).R v ((gAt Ss k).D.map vals) ∧ cAt Cs (if Bs.contains k then s + 1 else s) (upV vals k v) w')
    (fin : ∀ vals w, (∀ i, i < m → gFact Ss vals i) → cAt Cs Bs.length vals w → wpAny P .any ops Q (ops.size - m) (flags ops.size m) (putL ops vals (List.range m) a0) w) :
    ∀ (d : Nat) (order : List Nat) (listed : Array Bool) (vals : Nat → Value) (s : Nat) (w : World), d + order.length = m → order.Nodup → (∀ i ∈ order, i < m) → listed.size = ops.size →
      (∀ j, j < ops.size → listed[j]? = some (decide (j ∈ order))) → s ≤ Bs.length → (∀ i b, Bs[i]? = some b → (b ∈ order ↔ i < s)) → cAt Cs s vals w → (∀ i ∈ order, gFact Ss vals i) →
      (∀ k ∈ order, ∀ o, ops[k]? = some o → ∀ e ∈ o.after, Region.binds .any e = true → e.on ∈ order) →
      wpAny P .any ops Q (ops.size - order.length) listed (putL ops vals order a0) w := by
  simp only [sgB, Bool.and_eq_true] at hB
  obtain ⟨⟨⟨⟨hB1, hBD⟩, hBm⟩, hBc⟩, hBf⟩ := hB
  have hok : GrowOk ops m [] := growOk_of hB1
  have hSD : ∀ k, k < m → ∀ i ∈ (gAt Ss k).D, reachB ops ops.size k i = true := fun k hk i hi => by
    have := List.all_eq_true.1 (List.all_eq_true.1 hBD k (List.mem_range.2 hk)) i hi
    simp only [Bool.and_eq_true] at this
    exact this.2
  have hbm : ∀ (i b : Nat), Bs[i]? = some b → b < m := fun i b hb => by simpa using List.all_eq_true.1 hBm b (List.mem_of_getElem? hb)
  have hchain : ∀ (i j b c : Nat), i < j → Bs[i]? = some b → Bs[j]? = some c → reachB ops ops.size c b = true := fun i j b c hij hb hc => by
    have hj : j < Bs.length := (List.getElem?_eq_some_iff.1 hc).1
    have := List.all_eq_true.1 (List.all_eq_true.1 hBc j (List.mem_range.2 hj)) i (List.mem_range.2 hij)
    simpa [List.getD_eq_getElem?_getD, hb, hc] using this
  have hfeas : ∀ k s, k < m → s ≤ Bs.length → feasB ops Bs k s = true → s ∈ SL.getD k [] := fun k s hk hs h => by
    have := List.all_eq_true.1 (List.all_eq_true.1 hBf k (List.mem_range.2 hk)) s (List.mem_range.2 (by omega))
    simpa [h] using this
  intro d
  induction d with
  | zero =>
    intro order listed vals s w hd hn hlt hsz hl hs hst hg hR hC
    have hlen : order.length = m := by omega
    have hall := (length_le_of hn hlt).2 hlen
    have e1 : listed = flags ops.size m := by
      apply Array.ext_getElem?
      intro j
      by_cases hj : j < ops.size
      · rw [hl j hj, flags_get _ _ _ hj]
        congr 1
        have : (j ∈ order) ↔ j < m := ⟨hlt j, hall j⟩
        simp [this]
      · rw [Array.getElem?_eq_none (by omega), Array.getElem?_eq_none (by rw [flags_size]; omega)]
    have e2 : putL ops vals order a0 = putL ops vals (List.range m) a0 := by
      have ht : (putL ops vals order a0).tmps = (putL ops vals (List.range m) a0).tmps := by
        apply Array.ext_getElem?
        intro t
        exact putL_same vals t (fun i j => hok.uniq i j t) _ _ _ fun i _ => by rw [List.mem_range]; exact ⟨hlt i, hall i⟩
      have hdf : (putL ops vals order a0).defers = (putL ops vals (List.range m) a0).defers := by rw [putL_defers, putL_defers]
      generalize putL ops vals order a0 = x at *
      generalize putL ops vals (List.range m) a0 = y at *
      cases x; cases y; simp only at ht hdf; subst ht hdf; rfl
    rw [e1, e2, hlen]
    have hsl : s = Bs.length := by
      rcases Nat.lt_or_ge s Bs.length with h | h
      · obtain ⟨b, hb⟩ : ∃ b, Bs[s]? = some b := ⟨_, List.getElem?_eq_getElem h⟩
        have := (hst s b hb).1 (hall b (hbm s b hb))
        omega
      · omega
    rw [hsl] at hg
    exact fin vals w (fun i hi => hR i (hall i hi)) hg
  | succ d ih =>
    intro order listed vals s w hd hn hlt hsz hl hs hst hg hR hC
    have hm : m ≤ ops.size := hok.le
    obtain ⟨f, hf⟩ : ∃ f, ops.size - order.length = f + 1 := ⟨ops.size - order.length - 1, by omega⟩
    rw [hf]
    have hex : ∃ i, i < m ∧ i ∉ order := Classical.byContradiction fun h => by
      have : ∀ i, i < m → i ∈ order := fun i hi => Classical.byContradiction fun h' => h ⟨i, hi, h'⟩
      have := le_length_of this
      omega
    have hT : ∀ j, listed.getD j false = true → j ∈ order := fun j hj => by
      by_cases hj2 : j < ops.size
      · rw [Array.getD_eq_getD_getElem?, hl j hj2] at hj
        simpa using hj
      · rw [Array.getD_eq_getD_getElem?, Array.getElem?_eq_none (by omega)] at hj
        simp at hj
    have hF : ∀ j, j < ops.size → listed.getD j true = false → j ∉ order := fun j hj2 hj => by
      rw [Array.getD_eq_getD_getElem?, hl j hj2] at hj
      simpa using hj
    refine ⟨fun h0 => ?_, fun j hj => ?_⟩
    · exfalso
      obtain ⟨i, hi, hno⟩ := hex
      have : ∀ i, i < m → i ∉ order → False := fun i => by
        induction i using Nat.strongRecOn with
        | _ i ihi =>
          intro hi hno
          obtain ⟨o, ho⟩ : ∃ o, ops[i]? = some o := ⟨ops[i], by simp⟩
          have hr : i ∈ Region.ready .any ops listed := mem_ready.2 ⟨by rw [Array.getD_eq_getD_getElem?, hl i (by omega)]; simp [hno], o, ho, fun e he hb => by
            have hlt' := hok.back i o ho e he hb
            by_cases hin : e.on ∈ order
            · rw [Array.getD_eq_getD_getElem?, hl _ (by omega)]; simp [hin]
            · exact (ihi e.on hlt' (by omega) hin).elim⟩
          rw [h0] at hr
          cases hr
      exact this i hi hno
    · obtain ⟨hun, o, ho, hall⟩ := mem_ready.1 hj
      have hjn : j < ops.size := (Array.getElem?_eq_some_iff.1 ho).1
      have hjo : j ∉ order := hF j hjn hun
      have hjm : j < m := by
        rcases Nat.lt_or_ge j m with h | h
        · exact h
        · obtain ⟨i, hi, hno⟩ := hex
          exact absurd (reach_in hC ops.size j i o ho (fun e he hb => hT e.on (hall e he hb)) (hok.tail j o ho h i (by omega) (by simp))) hno
      have hreach : ∀ i, reachB ops ops.size j i = true → i ∈ order := fun i h => reach_in hC ops.size j i o ho (fun e he hb => hT e.on (hall e he hb)) h
      have hreach' : ∀ k ∈ order, ∀ i, reachB ops ops.size k i = true → i ∈ order := fun k hk i h => by
        have hkm := hlt k hk
        obtain ⟨ok, hok'⟩ : ∃ ok, ops[k]? = some ok := ⟨ops[k], by simp⟩
        exact reach_in hC ops.size k i ok hok' (hC k hk ok hok') h
      have hdeps : ∀ i ∈ depsOf ops j, i ∈ order := fun i hi => by
        obtain ⟨e, he, hb, hon⟩ := hok.deps j o ho i hi
        exact hT i (by rw [← hon]; exact hall e he hb)
      obtain ⟨hex1, hw1⟩ := exec_same hok ho vals order a0 hdeps (no_wait hC hjo)
      have hinD : ∀ i ∈ (gAt Ss j).D, i ∈ order := fun i hi => hreach i (hSD j hjm i hi)
      have hDj : ∀ i ∈ (gAt Ss j).D, i ≠ j := fun i hi e => hjo (e ▸ hinD i hi)
      have hfe0 : feasB ops Bs j s = true := feas_spec fun i b hb => by
        refine ⟨fun h => (hst i b hb).1 (hreach b h), fun h => ?_, fun h => ?_⟩
        · rcases Nat.lt_or_ge i s with hi | hi
          · exact absurd (hreach' b ((hst i b hb).2 hi) j h) hjo
          · exact hi
        · subst h
          rcases Nat.lt_trichotomy i s with hi | hi | hi
          · exact absurd ((hst i b hb).2 hi) hjo
          · exact hi.symm
          · have hil : i < Bs.length := (List.getElem?_eq_some_iff.1 hb).1
            obtain ⟨c, hc⟩ : ∃ c, Bs[s]? = some c := ⟨_, List.getElem?_eq_getElem (by omega)⟩
            have := (hst s c hc).1 (hreach c (hchain s i c b hi hc hb))
            omega
      have hfe : s ∈ SL.getD j [] := hfeas j s hjm hs hfe0
      have hstep := step j o hjm ho s hfe vals w (fun i hi => hR i (hinD i hi)) hg
      have next : ∀ v w', (gAt Ss j).R v ((gAt Ss j).D.map vals) → cAt Cs (if Bs.contains j then s + 1 else s) (upV vals j v) w' →
          wpAny P .any ops Q f (listed.setIfInBounds j true) ((putL ops vals order a0).put o.dst v) w' := fun v w' hRv hst' => by
        have hne : ∀ i ∈ order, upV vals j v i = vals i := fun i hi => upV_ne vals v fun e => hjo (e ▸ hi)
        have hmapD : ∀ k, k = j ∨ k ∈ order → (gAt Ss k).D.map (upV vals j v) = (gAt Ss k).D.map vals := fun k hk => List.map_congr_left fun i hi => by
          rcases hk with rfl | hk
          · exact hne i (hinD i hi)
          · exact hne i (hreach' k hk i (hSD k (hlt k hk) i hi))
        have hp : (putL ops vals order a0).put o.dst v = putL ops (upV vals j v) (order ++ [j]) a0 := by
          rw [putL_snoc, putL_congr order a0 hne]
          simp [dstAt, ho, upV_self]
        rw [hp]
        have hf' : f = ops.size - (order ++ [j]).length := by simp; omega
        rw [hf']
        have hnew : (if Bs.contains j then s + 1 else s) ≤ Bs.length ∧ ∀ i b, Bs[i]? = some b → (b ∈ order ++ [j] ↔ i < if Bs.contains j then s + 1 else s) := by
          by_cases hbj : j ∈ Bs
          · obtain ⟨t, ht⟩ := List.getElem?_of_mem hbj
            have hts : t = s := by
              have hfe2 := hfe0
              unfold feasB at hfe2
              rw [List.all_eq_true] at hfe2
              have := hfe2 (j, t) (by rw [List.mem_iff_getElem?]; exact ⟨t, by simp [List.getElem?_zipIdx, ht]⟩)
              simp only [Bool.and_eq_true, Bool.or_eq_true, decide_eq_true_eq] at this
              rcases this.2 with h | h
              · exact absurd rfl h
              · exact h.symm
            subst hts
            have htl : t < Bs.length := (List.getElem?_eq_some_iff.1 ht).1
            simp only [List.contains_eq_mem, hbj, decide_true, if_true]
            refine ⟨by omega, fun i b hb => ?_⟩
            rw [List.mem_append, hst i b hb]
            simp only [List.mem_singleton]
            constructor
            · rintro (h | h)
              · omega
              · subst h
                rcases Nat.lt_trichotomy i t with hi | hi | hi
                · omega
                · omega
                · have := hreach _ (hchain t i b b hi ht hb)
                  exact absurd this hjo
            · intro h
              rcases Nat.lt_or_ge i t with hi | hi
              · exact .inl hi
              · have : i = t := by omega
                subst this
                exact .inr (Option.some.inj (hb.symm.trans ht))
          · simp only [List.contains_eq_mem, hbj, decide_false, if_false, Bool.false_eq_true]
            refine ⟨hs, fun i b hb => ?_⟩
            rw [List.mem_append, hst i b hb]
            simp only [List.mem_singleton]
            exact ⟨fun h => by
              rcases h with h | h
              · exact h
              · subst h; exact absurd (List.mem_of_getElem? hb) hbj, .inl⟩
        refine ih (order ++ [j]) _ _ _ w' (by simp; omega) (List.nodup_append.2 ⟨hn, by simp, fun x hx y hy => by simp at hy; rintro rfl; exact hjo (hy ▸ hx)⟩)
          (fun i hi => ?_) (by simpa using hsz) (fun i hi => ?_) hnew.1 hnew.2 hst' (fun i hi => ?_) (fun k hk o' ho' e he hb => ?_)
        · simp at hi
          rcases hi with hi | hi
          · exact hlt i hi
          · omega
        · by_cases hij : i = j
          · subst hij
            rw [Array.getElem?_setIfInBounds_self]
            simp [show i < listed.size by omega]
          · rw [Array.getElem?_setIfInBounds_ne (Ne.symm hij), hl i hi]
            simp [hij]
        · simp at hi
          have : gFact Ss (upV vals j v) i = if i = j then (gAt Ss j).R v ((gAt Ss j).D.map vals) else gFact Ss vals i := by
            by_cases hij : i = j
            · subst hij
              unfold gFact
              rw [hmapD i (.inl rfl), upV_self]
              simp
            · rcases hi with hi | hi
              · unfold gFact
                rw [hmapD i (.inr hi), upV_ne vals v hij]
                simp [hij]
              · exact absurd hi hij
          rw [this]
          split
          · exact hRv
          · rename_i hij
            rcases hi with hi | hi
            · exact hR i hi
            · exact absurd hi hij
        · simp at hk ⊢
          rcases hk with hk | hk
          · exact .inl (hC k hk o' ho' e he hb)
          · subst hk
            obtain rfl : o' = o := Option.some.inj (ho'.symm.trans ho)
            exact .inl (hT e.on (hall e he hb))
      have hs := hstep
      unfold StStep at hs
      unfold wpOp
      simp only [ho]
      rw [hw1]
      split
      · rename_i hw
        rw [if_pos hw] at hs
        refine .inl ?_
        unfold stAt at hs
        unfold Oper.wp
        rw [hex1]
        generalize (execOp (putL ops vals (depsOf ops j) a0).eval o).run P w = r at hs
        cases r with
        | ok n w' =>
          cases n <;> simp only [stUpon] at hs <;> simp only [Oper.upon]
          case value u => exact next _ _ hs.1 hs.2
          case skip => exact next _ _ hs.1 hs.2
          case enter f args => exact hs.mono fun e w'' ⟨v, he, h1, h2⟩ => by subst he; exact next _ _ h1 h2
        | halt x w' => simp only [stUpon] at hs
      · rename_i hw
        rw [if_neg hw] at hs
        exact next _ _ hs.1 hs.2
theorem wp_region_sg {id : Nat} {Q : Exit → Act → World → Prop} {a : Act} {w : World} {l : List Oper} (m : Nat) (Ss : List GS) (Bs : List Nat) (SL : List (List Nat)) (Cs : List ((Nat → Value) → World → Prop)) (hm : P.follows .mixedOrders = true)
    (hB : (sgB l.toArray m Ss Bs SL && Region.seqB .any l.toArray (l.length - m) m (flags l.length m)) = true) (H : cAt Cs 0 (fun _ => undef) w.drew)
    (step : ∀ k o, k < m → l[k]? = some o → ∀ s, s ∈ SL.getD k [] → ∀ vals w, (∀ i ∈ (gAt Ss k).D, gFact Ss vals i) → cAt Cs s vals w →
      StStep P l.toArray o (putL l.toArray vals (depsOf l.toArray k) a) w fun v w' => (gAt Ss k).R v ((gAt Ss k).D.map vals) ∧ cAt Cs (if Bs.contains k then s + 1 else s) (upV vals k v) w')
    (fin : ∀ vals w, (∀ i, i < m → gFact Ss vals i) → cAt Cs Bs.length vals w → wpList P l.toArray Q (l.drop m) (putL l.toArray vals (List.range m) a) w) : (Code.region id l.toArray true).wp P Q a w := by
  simp only [Bool.and_eq_true] at hB
  have hB' := hB.1
  have hok : GrowOk l.toArray m [] := by
    simp only [sgB, Bool.and_eq_true] at hB'
    exact growOk_of hB'.1.1.1.1
  have hle : m ≤ l.length := by simpa using hok.le
  refine wp_region_any hm ?_
  have := wpAny_sg (P := P) (Q := Q) hB.1 a (fun k o hk ho => step k o hk (by simpa using ho)) (fun vals w' hR hst => by
    have := wpAny_of_seq (P := P) (md := .any) (Q' := Q) (l.drop m) m (flags l.length m) (putL l.toArray vals (List.range m) a) w' (fun j => by simp [List.getElem?_drop]) (by simpa using hB.2) (fin vals w' hR hst)
    simpa using this) m [] (Array.replicate l.length false) (fun _ => undef) 0 { w with drawn := w.drawn + 1 } (by simp) (by simp) (by simp) (by simp) (fun j hj => by
      have hj' : j < l.length := by simpa using hj
      simp [hj']) (by simp) (by simp) (by simpa using H) (by simp) (by simp)
  simpa [putL] using this
def GFacts (Ss : List GS) (vals : Nat → Value) : List Nat → Prop
  | [] => True
  | i :: is => gFact Ss vals i ∧ GFacts Ss vals is
theorem gfacts_of {Ss : List GS} {vals : Nat → Value} : ∀ {is : List Nat}, (∀ i ∈ is, gFact Ss vals i) → GFacts Ss vals is
  | [], _ => trivial
  | i :: is, h => ⟨h i (by simp), gfacts_of fun j hj => h j (by simp [hj])⟩
def GStep (P : Program) (ops : Array Oper) (a : Act) (Ss : List GS) (Cs : List ((Nat → Value) → World → Prop)) (k : Nat) (d : List (Nat × Tmp)) (g : GS) (o : Oper) (big : Bool) : List Nat → Prop
  | [] => True
  | s :: ss => (∀ vals w, GFacts Ss vals g.D → cAt Cs s vals w → StStep P ops o (putS d vals a) w fun v w' => g.R v (g.D.map vals) ∧ cAt Cs (if big then s + 1 else s) (upV vals k v) w') ∧ GStep P ops a Ss Cs k d g o big ss
theorem gstep_spec {a : Act} {Ss : List GS} {Cs : List ((Nat → Value) → World → Prop)} {k : Nat} {d : List (Nat × Tmp)} {g : GS} {o : Oper} {big : Bool} : ∀ {ss : List Nat}, GStep P ops a Ss Cs k d g o big ss → ∀ s ∈ ss, ∀ vals w, GFacts Ss vals g.D → cAt Cs s vals w → StStep P ops o (putS d vals a) w fun v w' => g.R v (g.D.map vals) ∧ cAt Cs (if big then s + 1 else s) (upV vals k v) w'
  | [], _, s, hs => by cases hs
  | s0 :: ss, h, s, hs => by
    rcases List.mem_cons.1 hs with rfl | hs
    · exact h.1
    · exact gstep_spec h.2 s hs
def GSteps (P : Program) (ops : Array Oper) (a : Act) (Ss0 : List GS) (Cs : List ((Nat → Value) → World → Prop)) (Bs : List Nat) : Nat → List (List (Nat × Tmp)) → List GS → List (List Nat) → List Oper → Prop
  | k, d :: DS, g :: Ss, ss :: SL, o :: rest => GStep P ops a Ss0 Cs k d g o (Bs.contains k) ss ∧ GSteps P ops a Ss0 Cs Bs (k + 1) DS Ss SL rest
  | _, _, _, _, [] => True
  | _, _, _, _, _ => False
theorem gsteps_spec {a : Act} {Ss0 : List GS} {Cs : List ((Nat → Value) → World → Prop)} {Bs : List Nat} : ∀ {l : List Oper} {k0 : Nat} {DS : List (List (Nat × Tmp))} {Ss : List GS} {SL : List (List Nat)}, GSteps P ops a Ss0 Cs Bs k0 DS Ss SL l → ∀ (k : Nat) (o : Oper), l[k]? = some o →
    ∃ d g ss, DS[k]? = some d ∧ Ss[k]? = some g ∧ SL[k]? = some ss ∧ GStep P ops a Ss0 Cs (k0 + k) d g o (Bs.contains (k0 + k)) ss
  | [], _, _, _, _, _, k, o, h => by simp at h
  | _ :: _, _, [], _, _, hs, _, _, _ => by simp [GSteps] at hs
  | _ :: _, _, _ :: _, [], _, hs, _, _, _ => by simp [GSteps] at hs
  | _ :: _, _, _ :: _, _ :: _, [], hs, _, _, _ => by simp [GSteps] at hs
  | o' :: rest, k0, d :: DS, g :: Ss, ss :: SL, hs, 0, o, h => by
    simp at h; subst h
    exact ⟨d, g, ss, rfl, rfl, rfl, hs.1⟩
  | o' :: rest, k0, d :: DS, g :: Ss, ss :: SL, hs, k + 1, o, h => by
    have := gsteps_spec hs.2 k o (by simpa using h)
    rw [show k0 + (k + 1) = k0 + 1 + k by omega]
    simpa using this
def sgxB (l : List Oper) (m : Nat) (Ss : List GS) (Bs : List Nat) (SL : List (List Nat)) (DS : List (List (Nat × Tmp))) (S : List (Nat × Tmp)) : Bool :=
  sgB l.toArray m Ss Bs SL && Region.seqB .any l.toArray (l.length - m) m (flags l.length m) && slotsB l.toArray S && decide (S.map (·.1) = (List.range m).filter fun i => (dstAt l.toArray i).isSome) &&
  DS.all (slotsB l.toArray) && decide (DS.map (fun d => d.map (·.1)) = (List.range m).map (depsOf l.toArray))
theorem wp_region_sgx {id : Nat} {Q : Exit → Act → World → Prop} {a : Act} {w : World} {l : List Oper} (m : Nat) (Ss : List GS) (Bs : List Nat) (SL : List (List Nat)) (Cs : List ((Nat → Value) → World → Prop)) (DS : List (List (Nat × Tmp))) (S : List (Nat × Tmp)) (hm : P.follows .mixedOrders = true)
    (hB : sgxB l m Ss Bs SL DS S = true) (H : cAt Cs 0 (fun _ => undef) w.drew) (step : GSteps P l.toArray a Ss Cs Bs 0 DS Ss SL (l.take m))
    (fin : ∀ vals w, GFacts Ss vals (List.range m) → cAt Cs Bs.length vals w → wpList P l.toArray Q (l.drop m) (putS S vals a) w) : (Code.region id l.toArray true).wp P Q a w := by
  simp only [sgxB, Bool.and_eq_true, decide_eq_true_eq] at hB
  obtain ⟨⟨⟨⟨⟨h1, h2⟩, h3⟩, h4⟩, h5⟩, h6⟩ := hB
  refine wp_region_sg m Ss Bs SL Cs hm (by rw [h1, h2]; rfl) H (fun k o hk ho s hs vals w hD hst => ?_) (fun vals w hR hst => ?_)
  · obtain ⟨d, g, ss, hd, hg, hss, hh⟩ := gsteps_spec step k o (by rw [List.getElem?_take, if_pos hk]; exact ho)
    have hdep : d.map (·.1) = depsOf l.toArray k := by
      have := congrArg (·[k]?) h6
      simp only [List.getElem?_map, hd, Option.map_some] at this
      rw [List.getElem?_range hk] at this
      simpa using this
    have hslots : slotsB l.toArray d = true := List.all_eq_true.1 h5 d (List.mem_of_getElem? hd)
    have hgk : gAt Ss k = g := by simp [gAt, List.getD, hg]
    have hsk : SL.getD k [] = ss := by simp [List.getD, hss]
    rw [Nat.zero_add] at hh
    have := gstep_spec hh s (hsk ▸ hs) vals w (gfacts_of (by rw [← hgk]; exact hD)) hst
    rw [putS_putL vals d a hslots, hdep] at this
    rw [hgk]
    exact this
  · have := fin vals w (gfacts_of fun i hi => hR i (List.mem_range.1 hi)) hst
    rwa [putS_putL vals S a h3, h4, ← putL_filter] at this
end
end Go.Proofs.Ytijnhpaafhcndaa
end
section
namespace Go.Proofs.Ytijnhpaafhcndaa
open Go.RowKit Go.Maps
attribute [local go_sem] InGr
set_option maxHeartbeats 4000000
set_option maxRecDepth 100000
set_option linter.unusedSimpArgs false
set_option linter.unusedVariables false
theorem St.apart2 {w0 w : World} {M : List Nat} {L R R' : List As} {A B : As} (h : St w0 M L w) (h1 : Pick L A R) (h2 : Pick R B R') : ∀ b ∈ A.fp, b ∉ B.fp := by
  have := (h.pick2 h1 h2).dis
  exact (List.pairwise_cons.1 this).1 B (by simp)
theorem itr_text {S : Sto} {T : Tab} (t : Pt) (q : Nat) : itr (stepT S T t.id) t.times q = T.mc.ends q (dirT T.back (S.ptTxt t)) := by
  unfold Sto.ptTxt stepT
  rw [dirT_rep, ends_rep]
theorem ptok_times {S : Sto} {K : Nat → Prop} (hS : S.Ok) {t : Pt} (h : PtOk S K t) : t.times ≤ 1152921504606846976 := by
  rcases h.copies with h | ⟨i, x, k, _, _, hx, hk⟩
  · omega
  · have := power_le hS hx; omega
def ThRel (S : Sto) (T : Tab) (q0 : Nat) (lp : List Pt) (M : List Nat) (w : World) (v2 v11 : Value) (wr : World) : Prop :=
  ∃ T' j, v2 = .int .i64 (T.mc.ends q0 (runP S T.back (lp.take j)) : Nat) ∧ v11 = .int .i64 (j : Nat) ∧ j ≤ lp.length ∧ T.Ext T' ∧ TabOk S T' ∧ St w M [tabA T'] wr
attribute [local go_sem] StStep stAt stUpon in
theorem through_c {S : Sto} {T : Tab} {lv : Value} {m q : Nat} {lp : List Pt} {ad : Option Addr} {c : Nat} (hS : S.Ok) (hT : TabOk S T) (hq : q < T.mc.n) (hlp : ∀ t ∈ lp, PtOk S (fun _ => True) t) (w : World) (h : ((tabA T).sep (stoA T.s lv m S)).ho w) (hr : (rowsA encT 135 3 (.slice ad lp.length c) lp).ho w) (hap : ∀ b ∈ (rowsA encT 135 3 (.slice ad lp.length c) lp).fp, b ∉ (tabA T).fp) :
    Calls Try.prog 37 #[.pointer (some ⟨T.p, 0, none⟩), .slice ad lp.length c, .int .i64 q] w (TabPost S T (.int .i64 (T.mc.ends q (runP S T.back lp) : Nat)) (tabA T).fp w) := by
  rw [sep_ho] at h
  obtain ⟨h1, h2, hd⟩ := h
  have H := St.one h1
  have HK : Ks w (tabA T).fp [stoA T.s lv m S, rowsA encT 135 3 (.slice ad lp.length c) lp] := ⟨by simp [h2, hr], by simpa using ⟨fun b hb hm => hd b hm hb, hap⟩⟩
  have HF : Hid (∀ T', T.Ext T' → TabOk S T' → ∀ id q times, id ≤ S.list.length → q < T.mc.n → times ≤ 1152921504606846976 → ∀ w, ((tabA T').sep (stoA T.s lv m S)).ho w → Calls Try.prog 67 #[.pointer (some ⟨T.p, 0, none⟩), .int .i64 (id : Nat), .int .i64 (q : Nat), .int .i64 (times : Nat)] w (fun e w' => ∃ T'' ad c xs tail, e = .returned (.agg #[.slice ad xs.length c, .int .i64 (tail : Nat)]) ∧ Orb (stepT S T id) q times xs tail ∧ T.Ext T'' ∧ TabOk S T'' ∧ St w (tabA T').fp [tabA T'', rowsA encI 3 1 (.slice ad xs.length c) xs] w')) := Lib.hid fun T' hx hT' id q times hid hq ht w h => by
    obtain ⟨x1, x2, x3, x4, x5, x6⟩ := hx.same
    have hc := follow_c (lv := lv) (m := m) hS hT' hid (q := q) (times := times) (by rw [x5]; exact hq) ht w (by rw [x2]; exact h)
    rw [x1] at hc
    with_reducible refine Calls.mono hc ?_
    rintro e w' ⟨T'', ad, c, xs, tail, he, ho, hx', hT'', hs⟩
    rw [stepT_ext hx] at ho
    exact ⟨T'', ad, c, xs, tail, he, ho, hx.trans hx', hT'', hs⟩
  obtain ⟨cm, okm⟩ := hT.ok
  have HLT : Hid (∀ t ∈ lp, ∀ q, q < T.mc.n → T.mc.ends q (dirT T.back (S.ptTxt t)) < T.mc.n) := Lib.hid fun t ht q hq => by
    rw [← itr_text]
    exact itr_lt (stepT_lt hS hT (hlp t ht).le) hq
  have HQL : Hid (∀ j, T.mc.ends q (runP S T.back (lp.take j)) < T.mc.n) := Lib.hid fun j => by
    refine okm.ends_lt hq fun b hb => ?_
    unfold runP at hb
    obtain ⟨l, hl, hb⟩ := List.mem_flatten.1 hb
    obtain ⟨t, ht, rfl⟩ := List.mem_map.1 hl
    have hb2 : b ∈ S.ptTxt t := by unfold dirT at hb; split at hb; simpa using hb; exact hb
    exact S.txt_lt hS (hlp t (List.mem_of_mem_take ht)).le b (rep_mem hb2)
  have HTI : Hid (∀ t ∈ lp, t.times ≤ 1152921504606846976) := Lib.hid fun t ht => ptok_times hS (hlp t ht)
  have HLE : Hid (∀ t ∈ lp, t.id ≤ S.list.length) := Lib.hid fun t ht => (hlp t ht).le
  have HTO := Lib.hid hT
  have hll := (show lp.length ≤ 9223372036854775807 from by
    have hsh := rowsA_shape hr
    obtain ⟨_, _, _, hm⟩ := hsh
    unfold maxLen at hm; omega)
  clear hT h1 h2 hd hS hq hlp hr hap okm
  go_enter Try.func37, Try.ntmps37
  go_wp2_with (first | refine sL ?_ | (refine sS ?_; clear H; intro _ H) | (refine sA ?_; clear H; intro _ _ H))
  go_loopw [2, 11] (fun v2 v11 wr => ThRel S T q lp (tabA T).fp w v2 v11 wr) (fun _ v11 _ => lp.length - (intOf v11).toNat)
  case atStart => exact ⟨T, 0, rfl, rfl, Nat.zero_le _, .refl T, HTO.out, H⟩
  case round =>
    clear H
    obtain ⟨T1, j, rfl, rfl, hj, hext, hT1, H⟩ := hrel
    have HEX := Lib.hid hext
    have HT1 := Lib.hid hT1
    have HQ1 := Lib.hid (HQL.out j)
    clear hext hT1
    by_cases hlt : j < lp.length
    · obtain ⟨⟨ti, tp, tt⟩, ht⟩ : ∃ t, lp[j]? = some t := ⟨_, List.getElem?_eq_getElem hlt⟩
      have htm := List.mem_of_getElem? ht
      have htid := HLE.out _ htm
      have htb := HTI.out _ htm
      have HTK := Lib.hid (runP_take S T.back ht)
      have HIT := Lib.hid (itr_text (S := S) (T := T) ⟨ti, tp, tt⟩ (T.mc.ends q (runP S T.back (lp.take j))))
      have HLK := Lib.hid ht
      obtain ⟨gr, cr, hadr, _, _⟩ := rowsA_cases (H.known HK (A := rowsA encT 135 3 (.slice ad lp.length c) lp) pk) (by omega)
      injection hadr with x1 x2 x3
      subst x1 x3
      simp only at htid htb
      clear ht x2 htm
      have HQQ := Lib.hid (rfl : T.mc.ends q (runP S T.back (lp.take j)) = T.mc.ends q (runP S T.back (lp.take j)))
      generalize hq1 : T.mc.ends q (runP S T.back (lp.take j)) = q1 at *
      have HQE := Lib.hid hq1
      clear hq1 HQQ
      go_wp2_with (first | refine sL ?_ | (refine sS ?_; clear H; intro _ H) | (refine sA ?_; clear H; intro _ _ H) | ((with_reducible refine isLoad ?_); refine AtLoad.rngT (vs := [.int .i64 ti, .int .i64 tp, .int .i64 tt]) rfl rfl rfl (rowsA_rng (H.known HK (A := rowsA encT 135 3 (.slice (some ⟨gr, 0, none⟩) lp.length c) lp) pk) encT_len HLK.out) rfl ?_; simp only [Act.put, puA, puB, puC]))
      rename_i b8 _ _
      replace H := (H.pick2 (A := tabA T1) (B := blk b8 (.cells #[.int .i64 ti, .int .i64 tp, .int .i64 tt] 135)) pk pk).onlyTwo
      refine wp_region_sgx 10 [⟨[], fun v _ => v = .pointer (some ⟨T.p, 0, none⟩)⟩, ⟨[], fun v _ => v = .pointer (some ⟨b8, 0, none⟩)⟩, ⟨[1], fun v _ => v = .int .i64 ti⟩, ⟨[], fun v _ => v = .int .i64 q1⟩, ⟨[], fun v _ => v = .pointer (some ⟨b8, 2, none⟩)⟩, ⟨[4], fun v _ => v = .int .i64 tt⟩, ⟨[0, 2, 3, 5], fun _ _ => True⟩, ⟨[], fun v _ => v = .pointer (some ⟨b8, 2, none⟩)⟩, ⟨[7], fun v _ => v = .int .i64 tt⟩, ⟨[8], fun v _ => v = .int .i64 (itr (stepT S T ti) tt q1 : Nat)⟩] [6] [[0], [0], [0], [0], [0], [0], [0], [0, 1], [0, 1], [1]] [fun _ wx => St w (tabA T).fp [tabA T1, blk b8 (.cells #[.int .i64 ti, .int .i64 tp, .int .i64 tt] 135)] wx, fun vals wx => ∃ T2 ad c xs tail, vals 6 = .agg #[.slice ad xs.length c, .int .i64 (tail : Nat)] ∧ Orb (stepT S T ti) q1 tt xs tail ∧ T.Ext T2 ∧ TabOk S T2 ∧ St w (tabA T).fp [tabA T2, rowsA encI 3 1 (.slice ad xs.length c) xs, blk b8 (.cells #[.int .i64 ti, .int .i64 tp, .int .i64 tt] 135)] wx]
        [[], [], [(1, 16)], [], [], [(4, 19)], [(0, 15), (2, 17), (3, 18), (5, 20)], [], [(7, 22)], [(6, 21), (8, 23)]] [(0, 15), (1, 16), (2, 17), (3, 18), (4, 19), (5, 20), (6, 21), (7, 22), (8, 23), (9, 24)] (by kernel_rfl) (by kernel_rfl) H.drew ⟨⟨?o0s0, trivial⟩, ⟨?o1s0, trivial⟩, ⟨?o2s0, trivial⟩, ⟨?o3s0, trivial⟩, ⟨?o4s0, trivial⟩, ⟨?o5s0, trivial⟩, ⟨?o6s0, trivial⟩, ⟨?o7s0, ?o7s1, trivial⟩, ⟨?o8s0, ?o8s1, trivial⟩, ⟨?o9s1, trivial⟩, trivial⟩ ?fin
      case o0s0 =>
        intro vals wx hd HC
        clear hd
        simp only [putS, List.foldl_nil]
        go_simp
        first | exact HC | exact ⟨rfl, HC⟩
      case o1s0 =>
        intro vals wx hd HC
        clear hd
        simp only [putS, List.foldl_nil]
        go_simp
        first | exact HC | exact ⟨rfl, HC⟩
      case o2s0 =>
        intro vals wx hd HC
        have h1 : vals 1 = .pointer (some ⟨b8, 0, none⟩) := hd.1
        clear hd
        have HC' := HC
        simp only [cAt, List.getD_cons_succ, List.getD_cons_zero] at HC'
        have H := HC'; clear HC'
        simp only [putS, List.foldl_nil, List.foldl_cons, Act.put, List.setIfInBounds_toArray, List.set_cons_zero, List.set_cons_succ, h1]
        first | refine StStep.cellT rfl rfl rfl gt rfl rfl ⟨rfl, HC⟩ | refine StStep.wholeT rfl rfl rfl gt rfl ⟨rfl, HC⟩
      case o3s0 =>
        intro vals wx hd HC
        clear hd
        simp only [putS, List.foldl_nil]
        go_simp
        first | exact HC | exact ⟨rfl, HC⟩
      case o4s0 =>
        intro vals wx hd HC
        clear hd
        simp only [putS, List.foldl_nil]
        go_simp
        first | exact HC | exact ⟨rfl, HC⟩
      case o5s0 =>
        intro vals wx hd HC
        have h4 : vals 4 = .pointer (some ⟨b8, 2, none⟩) := hd.1
        clear hd
        have HC' := HC
        simp only [cAt, List.getD_cons_succ, List.getD_cons_zero] at HC'
        have H := HC'; clear HC'
        simp only [putS, List.foldl_nil, List.foldl_cons, Act.put, List.setIfInBounds_toArray, List.set_cons_zero, List.set_cons_succ, h4]
        first | refine StStep.cellT rfl rfl rfl gt rfl rfl ⟨rfl, HC⟩ | refine StStep.wholeT rfl rfl rfl gt rfl ⟨rfl, HC⟩
      case o6s0 =>
        intro vals wx hd HC
        have h0 : vals 0 = .pointer (some ⟨T.p, 0, none⟩) := hd.1
        have h2 : vals 2 = .int .i64 ti := hd.2.1
        have h3 : vals 3 = .int .i64 q1 := hd.2.2.1
        have h5 : vals 5 = .int .i64 tt := hd.2.2.2.1
        clear hd
        have HC' := HC
        simp only [cAt, List.getD_cons_succ, List.getD_cons_zero] at HC'
        have H := HC'; clear HC'
        simp only [putS, List.foldl_nil, List.foldl_cons, Act.put, List.setIfInBounds_toArray, List.set_cons_zero, List.set_cons_succ, h0, h2, h3, h5]
        clear h0 h2 h3 h5 HC
        go_simp
        with_reducible refine Calls.mono (HF.out T1 HEX.out HT1.out ti q1 tt htid HQ1.out htb _ (H.sepK HK (A := tabA T1) (B := stoA T.s lv m S) pk pk)) ?_
        rintro e wc ⟨T2, ad2, c2, xs, tail, rfl, horb, hext2, hT2, hb⟩
        first | exact ⟨_, rfl, T2, ad2, c2, xs, tail, rfl, horb, hext2, hT2, H.call hb⟩ | exact ⟨_, rfl, trivial, T2, ad2, c2, xs, tail, rfl, horb, hext2, hT2, H.call hb⟩
      case o7s0 =>
        intro vals wx hd HC
        clear hd
        simp only [putS, List.foldl_nil]
        go_simp
        first | exact HC | exact ⟨rfl, HC⟩
      case o7s1 =>
        intro vals wx hd HC
        clear hd
        simp only [putS, List.foldl_nil]
        go_simp
        first | exact HC | exact ⟨rfl, HC⟩
      case o8s0 =>
        intro vals wx hd HC
        have h7 : vals 7 = .pointer (some ⟨b8, 2, none⟩) := hd.1
        clear hd
        have HC' := HC
        simp only [cAt, List.getD_cons_succ, List.getD_cons_zero] at HC'
        have H := HC'; clear HC'
        simp only [putS, List.foldl_nil, List.foldl_cons, Act.put, List.setIfInBounds_toArray, List.set_cons_zero, List.set_cons_succ, h7]
        first | refine StStep.cellT rfl rfl rfl gt rfl rfl ⟨rfl, HC⟩ | refine StStep.wholeT rfl rfl rfl gt rfl ⟨rfl, HC⟩
      case o8s1 =>
        intro vals wx hd HC
        have h7 : vals 7 = .pointer (some ⟨b8, 2, none⟩) := hd.1
        clear hd
        have HC' := HC
        simp only [cAt, List.getD_cons_succ, List.getD_cons_zero] at HC'
        obtain ⟨T2, ad2, c2, xs, tail, hv6, horb, hext2, hT2, H⟩ := HC'
        simp only [putS, List.foldl_nil, List.foldl_cons, Act.put, List.setIfInBounds_toArray, List.set_cons_zero, List.set_cons_succ, h7]
        first | refine StStep.cellT rfl rfl rfl gt rfl rfl ⟨rfl, HC⟩ | refine StStep.wholeT rfl rfl rfl gt rfl ⟨rfl, HC⟩
      case o9s1 =>
        intro vals wx hd HC
        have h8 : vals 8 = .int .i64 tt := hd.1
        clear hd
        have HC' := HC
        simp only [cAt, List.getD_cons_succ, List.getD_cons_zero] at HC'
        obtain ⟨T2, ad2, c2, xs, tail, hv6, horb, hext2, hT2, H⟩ := HC'
        simp only [putS, List.foldl_nil, List.foldl_cons, Act.put, List.setIfInBounds_toArray, List.set_cons_zero, List.set_cons_succ, h8]
        simp only [hv6]
        clear h8
        go_simp
        refine Calls.mono (at_orb horb (Nat.le_refl _) htb _ (H.get (A := rowsA encI 3 1 (.slice ad2 xs.length c2) xs) pk)) ?_
        rintro e wc ⟨rfl, hb⟩
        exact ⟨_, rfl, rfl, T2, ad2, c2, xs, tail, hv6, horb, hext2, hT2, H.grew hb.below⟩
      intro vals wx hd HC
      have h0 : vals 0 = .pointer (some ⟨T.p, 0, none⟩) := hd.1
      have h1 : vals 1 = .pointer (some ⟨b8, 0, none⟩) := hd.2.1
      have h2 : vals 2 = .int .i64 ti := hd.2.2.1
      have h3 : vals 3 = .int .i64 q1 := hd.2.2.2.1
      have h4 : vals 4 = .pointer (some ⟨b8, 2, none⟩) := hd.2.2.2.2.1
      have h5 : vals 5 = .int .i64 tt := hd.2.2.2.2.2.1
      have h7 : vals 7 = .pointer (some ⟨b8, 2, none⟩) := hd.2.2.2.2.2.2.2.1
      have h8 : vals 8 = .int .i64 tt := hd.2.2.2.2.2.2.2.2.1
      have h9 : vals 9 = .int .i64 (itr (stepT S T ti) tt q1 : Nat) := hd.2.2.2.2.2.2.2.2.2.1
      clear hd
      simp only [cAt, List.getD_cons_succ, List.getD_cons_zero, List.length_cons, List.length_nil] at HC
      obtain ⟨T2, ad2, c2, xs, tail, hv6, horb, hext2, hT2, H⟩ := HC
      simp only [putS, List.foldl_nil, List.foldl_cons, Act.put, List.setIfInBounds_toArray, List.set_cons_zero, List.set_cons_succ, List.drop_succ_cons, List.drop_zero, h0, h1, h2, h3, h4, h5, h7, h8, h9]
      clear h0 h1 h2 h3 h4 h5 h7 h8 h9
      go_wp2_with (first | refine sL ?_ | (refine sS ?_; clear H; intro _ H) | (refine sA ?_; clear H; intro _ _ H))
      have hnx : T.mc.ends q (runP S T.back (lp.take (j + 1))) = itr (stepT S T ti) tt q1 := by
        rw [HTK.out, Mc.ends_append, HQE.out]
        exact HIT.out.symm
      exact ⟨⟨T2, j + 1, by rw [hnx], by go_num, by omega, hext2, hT2, (H.pick (A := tabA T2) pk).onlyHead⟩, by simp [intOf]; omega⟩
    · have hje : j = lp.length := by omega
      subst hje
      have HQF := Lib.hid (show T.mc.ends q (runP S T.back (lp.take lp.length)) = T.mc.ends q (runP S T.back lp) from by rw [List.take_length])
      generalize T.mc.ends q (runP S T.back (lp.take lp.length)) = q1 at *
      go_wp2_with (first | refine sL ?_ | (refine sS ?_; clear H; intro _ H) | (refine sA ?_; clear H; intro _ _ H))
      go_ret
      exact ⟨T1, by rw [← HQF.out]; rfl, HEX.out, HT1.out, H⟩
end Go.Proofs.Ytijnhpaafhcndaa
end
section
namespace Go.Proofs.Ytijnhpaafhcndaa
set_option linter.unusedSimpArgs false
set_option linter.unusedVariables false
def Mc.hits (m : Mc) : Nat → List Nat → List Nat
  | _, [] => []
  | q, b :: l => m.wt (m.step q b) :: m.hits (m.step q b) l
namespace Mc
variable {m : Mc} {c : Nat}
theorem hits_len (q : Nat) (l : List Nat) : (m.hits q l).length = l.length := by
  induction l generalizing q with
  | nil => rfl
  | cons b l ih => simp [hits, ih]
theorem hits_append (q : Nat) (a b : List Nat) : m.hits q (a ++ b) = m.hits q a ++ m.hits (m.ends q a) b := by
  induction a generalizing q with
  | nil => simp [hits, ends]
  | cons x a ih => simp only [List.cons_append, hits, ih, ends_cons]
theorem hits_sum (q : Nat) (l : List Nat) : (m.hits q l).sum = m.sum q l := by
  induction l generalizing q with
  | nil => rfl
  | cons b l ih => simp [hits, sum, ih]
theorem hits_take (q : Nat) (l : List Nat) (k : Nat) : (m.hits q l).take k = m.hits q (l.take k) := by
  induction l generalizing q k with
  | nil => simp [hits]
  | cons b l ih => cases k with
    | zero => rfl
    | succ k => simp [hits, ih]
theorem hits_drop (q : Nat) (l : List Nat) (k : Nat) : (m.hits q l).drop k = m.hits (m.ends q (l.take k)) (l.drop k) := by
  induction l generalizing q k with
  | nil => simp [hits]
  | cons b l ih => cases k with
    | zero => rfl
    | succ k => simp only [hits, List.drop_succ_cons, List.take_succ_cons, ends_cons, ih]
theorem hits_range (q : Nat) (l : List Nat) (s n : Nat) : (((m.hits q l).drop s).take n).sum = m.sum (m.ends q (l.take s)) ((l.drop s).take n) := by
  rw [hits_drop, hits_take, hits_sum]
theorem Ok.hits_le (h : m.Ok c) {q : Nat} (hq : q < m.n) : ∀ {l : List Nat}, (∀ b ∈ l, b < 256) → ∀ x ∈ m.hits q l, x ≤ 1048576 := by
  intro l
  induction l generalizing q with
  | nil => intro _ x hx; simp [hits] at hx
  | cons b l ih =>
    intro hl x hx
    have hs := h.step_lt hq (hl b (by simp))
    simp only [hits, List.mem_cons] at hx
    rcases hx with rfl | hx
    · exact (h.wt_get hs).2
    · exact ih hs (fun y hy => hl y (by simp [hy])) x hx
theorem Ok.sum_le (h : m.Ok c) {q : Nat} (hq : q < m.n) : ∀ {l : List Nat}, (∀ b ∈ l, b < 256) → m.sum q l ≤ 1048576 * l.length := by
  intro l
  induction l generalizing q with
  | nil => intro _; simp [sum]
  | cons b l ih =>
    intro hl
    have hs := h.step_lt hq (hl b (by simp))
    have h1 := (h.wt_get hs).2
    have h2 := ih hs (fun y hy => hl y (by simp [hy]))
    simp only [sum, List.length_cons]
    omega
end Mc
theorem sum_two (m : Mc) (q : Nat) (t : List Nat) (s a b : Nat) :
    m.sum (m.ends q (t.take s)) ((t.drop s).take (a + b)) = m.sum (m.ends q (t.take s)) ((t.drop s).take a) + m.sum (m.ends q (t.take (s + a))) ((t.drop (s + a)).take b) := by
  rw [List.take_add, Mc.sum_append, List.drop_drop, ← Mc.ends_append, ← List.take_add]
end Go.Proofs.Ytijnhpaafhcndaa
end
section
namespace Go.Proofs.Ytijnhpaafhcndaa
open Go.RowKit Go.Maps
attribute [local go_sem] InGr
set_option maxHeartbeats 4000000
set_option maxRecDepth 100000
set_option linter.unusedSimpArgs false
set_option linter.unusedVariables false
theorem range_no (a b : Int) (n : Nat) (h : ¬ (0 ≤ a ∧ 0 ≤ b ∧ a + b ≤ n)) (hn : n ≤ 1152921504606846976) (w : World) :
    Calls Try.prog 35 #[.int .i64 a, .int .i64 b, .int .i64 n] w fun e w' => e = .returned (EV 1) ∧ w' = w := by
  have HV : Hid (Calls Try.prog 50 #[.int .i64 n] w fun e w' => e = .returned (.bool true) ∧ w' = w) := Lib.hid (valid_c n true (by symm; rw [decide_eq_true_eq]; omega) w)
  have H := St.nil w []
  have HK := Ks.nil w []
  by_cases h1 : a < 0
  · have d1 : decide (a < 0) = true := by simpa using h1
    clear h
    go_enter Try.func35, Try.ntmps35
    go_wp2_with (first | (go_at_call 50; with_reducible refine same (HV.out) ?_))
    go_ret
    exact ⟨rfl, rfl⟩
  · have d1 : decide (a < 0) = false := by simpa using h1
    by_cases h2 : b < 0
    · have d2 : decide (b < 0) = true := by simpa using h2
      clear h
      go_enter Try.func35, Try.ntmps35
      go_wp2_with (first | (go_at_call 50; with_reducible refine same (HV.out) ?_))
      go_ret
      exact ⟨rfl, rfl⟩
    · have d2 : decide (b < 0) = false := by simpa using h2
      by_cases h3 : (n : Int) < a
      · have d3 : decide ((n : Int) < a) = true := by simpa using h3
        clear h
        go_enter Try.func35, Try.ntmps35
        go_wp2_with (first | (go_at_call 50; with_reducible refine same (HV.out) ?_))
        go_ret
        exact ⟨rfl, rfl⟩
      · have d3 : decide ((n : Int) < a) = false := by simpa using h3
        have h4 : (n : Int) - a < b := by omega
        have d4 : decide ((n : Int) - a < b) = true := by simpa using h4
        have hw := IntWalk.i64_in ((n : Int) - a) (by omega)
        clear h
        go_enter Try.func35, Try.ntmps35
        go_wp2_with (first | (go_at_call 50; with_reducible refine same (HV.out) ?_))
        go_ret
        exact ⟨rfl, rfl⟩
def Sto.rsum (S : Sto) (mc : Mc) (id s n : Nat) : Nat := mc.sum (mc.ends mc.start ((S.txt id).take s)) (((S.txt id).drop s).take n)
def cntV (x : Nat) : Value := if x ≤ 1152921504606846976 then .tuple #[.int .i64 x, .nilIface] else .tuple #[.int .i64 0, .iface 42 (.int .i64 2)]
theorem cntV_in {x : Nat} (h : x ≤ 1152921504606846976) : cntV x = .tuple #[.int .i64 x, .nilIface] := by unfold cntV; rw [if_pos h]
theorem cntV_out {x : Nat} (h : ¬ x ≤ 1152921504606846976) : cntV x = .tuple #[.int .i64 0, .iface 42 (.int .i64 2)] := by unfold cntV; rw [if_neg h]
theorem count_no {S : Sto} {T : Tab} {lv : Value} {m id : Nat} {a b : Int} (hS : S.Ok) (hT : TabOk S T) (hb : T.back = false) (hid : id ≤ S.list.length) (hf : ¬ (0 ≤ a ∧ 0 ≤ b ∧ a + b ≤ (S.txt id).length)) (w : World) (h1 : (tabA T).ho w) (h2 : (stoA T.s lv m S).ho w) :
    Calls Try.prog 12 #[.pointer (some ⟨T.p, 0, none⟩), .int .i64 id, .int .i64 a, .int .i64 b] w fun e w' => e = .returned (.tuple #[.int .i64 0, EV 1]) ∧ St w [] [] w' := by
  have H := St.nil w []
  have HK : Ks w [] [tabA T, stoA T.s lv m S] := Ks.two h1 h2
  have HC : Hid (∀ w, (tabA T).ho w → (stoA T.s lv m S).ho w → Calls Try.prog 34 #[.pointer (some ⟨T.p, 0, none⟩), .int .i64 id] w fun e w' => e = .returned .nilIface ∧ w' = w) := Lib.hid fun w a b => lcheck_c hT hb hid w a b
  have HZ : Hid (∀ w, (tabA T).ho w → (stoA T.s lv m S).ho w → Calls Try.prog 36 #[.pointer (some ⟨T.p, 0, none⟩), .int .i64 id] w fun e w' => e = .returned (.int .i64 (S.txt id).length) ∧ St w [] [] w') := Lib.hid fun w a b => ssize_c hS hT hid w a b
  have hmax := txt_max hS hid
  have HR : Hid (∀ w, Calls Try.prog 35 #[.int .i64 a, .int .i64 b, .int .i64 (S.txt id).length] w fun e w' => e = .returned (.iface 42 (.int .i64 1)) ∧ w' = w) := Lib.hid (fun w => range_no a b (S.txt id).length hf hmax w)
  generalize hln : (S.txt id).length = ln at *
  clear hT hS h1 h2 hln hf
  go_enter Try.func12, Try.ntmps12
  go_wp2_with (first | refine sF ?_ | (go_at_call 34; with_reducible refine Calls.mono (HC.out _ (H.known HK pk) (H.known HK pk)) ?_; rintro e wc ⟨rfl, hwc⟩; obtain rfl := hwc.symm) | (go_at_call 36; with_reducible refine Calls.mono (HZ.out _ (H.known HK pk) (H.known HK pk)) ?_; rintro e wc ⟨rfl, hb⟩; replace H := H.grew hb.below; clear hb) | (go_at_call 35; with_reducible refine Calls.mono (HR.out _) ?_; rintro e wc ⟨rfl, hwc⟩; obtain rfl := hwc.symm))
  go_ret2
  exact ⟨rfl, H.nix⟩
theorem count_c {S : Sto} {T : Tab} {lv : Value} {m id s n : Nat} (hS : S.Ok) (hT : TabOk S T) (hb : T.back = false) (hid : id ≤ S.list.length) (hf : s + n ≤ (S.txt id).length) (w : World) (h : ((tabA T).sep (stoA T.s lv m S)).ho w) :
    Calls Try.prog 12 #[.pointer (some ⟨T.p, 0, none⟩), .int .i64 id, .int .i64 s, .int .i64 n] w (TabPost S T (cntV (S.rsum T.mc id s n)) (tabA T).fp w) := by
  rw [sep_ho] at h
  obtain ⟨h1, h2, hd⟩ := h
  have H := St.one h1
  have HK : Ks w (tabA T).fp [stoA T.s lv m S] := ⟨by simpa using h2, by simpa using fun b hb hm => hd b hm hb⟩
  have HC : Hid (∀ w, (tabA T).ho w → (stoA T.s lv m S).ho w → Calls Try.prog 34 #[.pointer (some ⟨T.p, 0, none⟩), .int .i64 id] w fun e w' => e = .returned .nilIface ∧ w' = w) := Lib.hid fun w a b => lcheck_c hT hb hid w a b
  have HZ : Hid (∀ w, (tabA T).ho w → (stoA T.s lv m S).ho w → Calls Try.prog 36 #[.pointer (some ⟨T.p, 0, none⟩), .int .i64 id] w fun e w' => e = .returned (.int .i64 (S.txt id).length) ∧ St w [] [] w') := Lib.hid fun w a b => ssize_c hS hT hid w a b
  have hmax := txt_max hS hid
  have HR := Lib.hid (fun w => range_ok s n (S.txt id).length hf hmax w)
  obtain ⟨cm, okm⟩ := hT.ok
  have hst := okm.start
  have hqlt : T.mc.ends T.mc.start ((S.txt id).take s) < T.mc.n := okm.ends_lt hst fun b hb => S.txt_lt hS hid b (List.mem_of_mem_take hb)
  have HP : Hid (∀ w, (tabA T).ho w → (stoA T.s lv m S).ho w → Calls Try.prog 38 #[.pointer (some ⟨T.p, 0, none⟩), .int .i64 id, .int .i64 0, .int .i64 s] w (fun e w' => ∃ ad c lp, e = .returned (.slice ad lp.length c) ∧ runP S T.back lp = (S.txt id).take s ∧ (∀ t ∈ lp, PtOk S (fun _ => True) t) ∧ St w [] [rowsA encT 135 3 (.slice ad lp.length c) lp] w')) := Lib.hid fun w a b => by
    refine Calls.mono (sparts_c (s := 0) (n := s) hS hT hid (by omega) w a b) ?_
    rintro e w' ⟨ad, c, lp, he, hrun, hp, _, hs⟩
    refine ⟨ad, c, lp, he, ?_, hp, hs⟩
    rw [hrun, hb]
    simp [dirT, Sto.pcTxt]
  have HM : Hid (∀ w, (tabA T).ho w → Calls Try.prog 39 #[.pointer (some ⟨T.p, 0, none⟩)] w fun e w' => ∃ g1 o1 c1 g2 o2 c2 g3 o3 c3, e = .returned (.agg #[.int .i64 T.mc.start, .slice (some ⟨g1, o1, none⟩) 256 c1, .slice (some ⟨g2, o2, none⟩) T.mc.n c2, .slice (some ⟨g3, o3, none⟩) T.mc.n c3]) ∧ St w [] [] w') := Lib.hid fun w a => by
    refine Calls.mono (machine_c hT w a) ?_
    rintro e w' ⟨cv, nv, av, rvs, P, he, hm, hs⟩
    obtain ⟨g1, o1, c1, rfl, _⟩ := hm.cls.hasN okm.cls (by omega)
    obtain ⟨g2, o2, c2, rfl, _⟩ := hm.next.hasN hm.len okm.n1
    obtain ⟨g3, o3, c3, rfl, _⟩ := hm.acc.hasN okm.acc okm.n1
    exact ⟨g1, o1, c1, g2, o2, c2, g3, o3, c3, he, hs.nix⟩
  have HT : Hid (∀ lp ad c, (∀ t ∈ lp, PtOk S (fun _ => True) t) → runP S T.back lp = (S.txt id).take s → ∀ w, ((tabA T).sep (stoA T.s lv m S)).ho w → (rowsA encT 135 3 (.slice ad lp.length c) lp).ho w → (∀ b ∈ (rowsA encT 135 3 (.slice ad lp.length c) lp).fp, b ∉ (tabA T).fp) → Calls Try.prog 37 #[.pointer (some ⟨T.p, 0, none⟩), .slice ad lp.length c, .int .i64 T.mc.start] w (fun e w' => ∃ T', e = .returned (.int .i64 (T.mc.ends T.mc.start ((S.txt id).take s) : Nat)) ∧ T.Ext T' ∧ TabOk S T' ∧ St w (tabA T).fp [tabA T'] w')) := Lib.hid fun lp ad c hp hrun w a b hap => by
    rw [← hrun]
    exact through_c hS hT hst hp w a b hap
  have HPA : Hid (∀ T', T.Ext T' → TabOk S T' → ∀ w, ((tabA T').sep (stoA T.s lv m S)).ho w → Calls Try.prog 40 #[.pointer (some ⟨T.p, 0, none⟩), .int .i64 id, .int .i64 s, .int .i64 n, .int .i64 (T.mc.ends T.mc.start ((S.txt id).take s) : Nat)] w (fun e w' => ∃ T'' r, e = .returned (if S.rsum T.mc id s n ≤ 1152921504606846976 then .tuple #[.int .i64 (r : Nat), .int .i64 (S.rsum T.mc id s n : Nat), .nilIface] else .tuple #[.int .i64 0, .int .i64 0, .iface 42 (.int .i64 2)]) ∧ T.Ext T'' ∧ TabOk S T'' ∧ St w (tabA T').fp [tabA T''] w')) := Lib.hid fun T' hx hT' w h => by
    obtain ⟨x1, x2, x3, x4, x5, x6⟩ := hx.same
    have hc := part_c (lv := lv) (m := m) hS hT' hid (q := T.mc.ends T.mc.start ((S.txt id).take s)) (by rw [x5]; exact hqlt) hf w (by rw [x2]; exact h)
    rw [x1] at hc
    with_reducible refine Calls.mono hc ?_
    rintro e w' ⟨T'', he, hx', hT'', hs⟩
    rw [x5, x6, hb] at he
    exact ⟨T'', _, he, hx.trans hx', hT'', hs⟩
  clear hT h1 h2 hd hS hmax hf okm hst hqlt hb
  generalize hln : (S.txt id).length = ln at *
  generalize hq1 : T.mc.ends T.mc.start ((S.txt id).take s) = q1 at *
  generalize hsm : S.rsum T.mc id s n = sm at *
  clear hln hq1 hsm
  by_cases hsm : sm ≤ 1152921504606846976
  · simp only [if_pos hsm] at HPA
    rw [cntV_in hsm]
    clear hsm
    go_enter Try.func12, Try.ntmps12
    go_wp2_with (first | refine sF ?_ | (go_at_call 34; with_reducible refine Calls.mono (HC.out _ (H.get (A := tabA T) pk) (H.known HK pk)) ?_; rintro e wc ⟨rfl, hwc⟩; obtain rfl := hwc.symm) | (go_at_call 36; with_reducible refine Calls.mono (HZ.out _ (H.get (A := tabA T) pk) (H.known HK pk)) ?_; rintro e wc ⟨rfl, hb⟩; replace H := H.grew hb.below; clear hb) | (go_at_call 35; with_reducible refine Calls.mono (HR.out _) ?_; rintro e wc ⟨rfl, hwc⟩; obtain rfl := hwc.symm) | (go_at_call 38; with_reducible refine Calls.mono (HP.out _ (H.get (A := tabA T) pk) (H.known HK pk)) ?_; rintro e wc ⟨ad, c, lp, rfl, hrun, hpo, hb⟩; replace H := H.call0 hb; clear hb; simp only [List.cons_append, List.nil_append] at H; have HRUN := Lib.hid hrun; have HPO := Lib.hid hpo; clear hrun hpo) | (go_at_call 39; with_reducible refine Calls.mono (HM.out _ (H.get (A := tabA T) pk)) ?_; rintro e wc ⟨g1, o1, c1, g2, o2, c2, g3, o3, c3, rfl, hb⟩; replace H := H.grew hb.below; clear hb) | (go_at_call 37; with_reducible refine Calls.mono (HT.out lp ad c HPO.out HRUN.out _ (H.sepK HK (A := tabA T) (B := stoA T.s lv m S) pk pk) (H.get (A := rowsA encT 135 3 (.slice ad lp.length c) lp) pk) (H.apart2 (A := rowsA encT 135 3 (.slice ad lp.length c) lp) (B := tabA T) pk pk)) ?_; rintro e wc ⟨T1, rfl, hx1, hT1, hb⟩; replace H := H.pick (A := tabA T) pk; replace H := H.call hb; clear hb; simp only [List.cons_append, List.nil_append] at H; have HX1 := Lib.hid hx1; have HT1 := Lib.hid hT1; clear hx1 hT1) | (go_at_call 40; with_reducible refine Calls.mono (HPA.out T1 HX1.out HT1.out _ (H.sepK HK (A := tabA T1) (B := stoA T.s lv m S) pk pk)) ?_; rintro e wc ⟨T2, rr, rfl, hx2, hT2, hb⟩; replace H := H.pick (A := tabA T1) pk; replace H := H.call hb; clear hb; simp only [List.cons_append, List.nil_append] at H; have HX2 := Lib.hid hx2; have HT2 := Lib.hid hT2; clear hx2 hT2))
    go_ret2
    exact ⟨T2, rfl, HX2.out, HT2.out, (H.pick (A := tabA T2) pk).onlyHead⟩
  · simp only [if_neg hsm] at HPA
    rw [cntV_out hsm]
    clear hsm
    go_enter Try.func12, Try.ntmps12
    go_wp2_with (first | refine sF ?_ | (go_at_call 34; with_reducible refine Calls.mono (HC.out _ (H.get (A := tabA T) pk) (H.known HK pk)) ?_; rintro e wc ⟨rfl, hwc⟩; obtain rfl := hwc.symm) | (go_at_call 36; with_reducible refine Calls.mono (HZ.out _ (H.get (A := tabA T) pk) (H.known HK pk)) ?_; rintro e wc ⟨rfl, hb⟩; replace H := H.grew hb.below; clear hb) | (go_at_call 35; with_reducible refine Calls.mono (HR.out _) ?_; rintro e wc ⟨rfl, hwc⟩; obtain rfl := hwc.symm) | (go_at_call 38; with_reducible refine Calls.mono (HP.out _ (H.get (A := tabA T) pk) (H.known HK pk)) ?_; rintro e wc ⟨ad, c, lp, rfl, hrun, hpo, hb⟩; replace H := H.call0 hb; clear hb; simp only [List.cons_append, List.nil_append] at H; have HRUN := Lib.hid hrun; have HPO := Lib.hid hpo; clear hrun hpo) | (go_at_call 39; with_reducible refine Calls.mono (HM.out _ (H.get (A := tabA T) pk)) ?_; rintro e wc ⟨g1, o1, c1, g2, o2, c2, g3, o3, c3, rfl, hb⟩; replace H := H.grew hb.below; clear hb) | (go_at_call 37; with_reducible refine Calls.mono (HT.out lp ad c HPO.out HRUN.out _ (H.sepK HK (A := tabA T) (B := stoA T.s lv m S) pk pk) (H.get (A := rowsA encT 135 3 (.slice ad lp.length c) lp) pk) (H.apart2 (A := rowsA encT 135 3 (.slice ad lp.length c) lp) (B := tabA T) pk pk)) ?_; rintro e wc ⟨T1, rfl, hx1, hT1, hb⟩; replace H := H.pick (A := tabA T) pk; replace H := H.call hb; clear hb; simp only [List.cons_append, List.nil_append] at H; have HX1 := Lib.hid hx1; have HT1 := Lib.hid hT1; clear hx1 hT1) | (go_at_call 40; with_reducible refine Calls.mono (HPA.out T1 HX1.out HT1.out _ (H.sepK HK (A := tabA T1) (B := stoA T.s lv m S) pk pk)) ?_; rintro e wc ⟨T2, rr, rfl, hx2, hT2, hb⟩; replace H := H.pick (A := tabA T1) pk; replace H := H.call hb; clear hb; simp only [List.cons_append, List.nil_append] at H; have HX2 := Lib.hid hx2; have HT2 := Lib.hid hT2; clear hx2 hT2))
    go_ret2
    exact ⟨T2, rfl, HX2.out, HT2.out, (H.pick (A := tabA T2) pk).onlyHead⟩
end Go.Proofs.Ytijnhpaafhcndaa
end
section
namespace Go.Proofs.Ytijnhpaafhcndaa
open Go.RowKit Go.Maps
attribute [local go_sem] InGr
set_option maxHeartbeats 4000000
set_option maxRecDepth 100000
set_option linter.unusedSimpArgs false
set_option linter.unusedVariables false
theorem run_assert_int {P : Program} {t xT : TypeId} {k : IntKind} {v : Value} {w : World} (h : P.underlying t = some (.int k)) : (Instr.typeAssert (.iface t v) xT t true).run P w = .ok (.tuple #[v, .bool true]) w := by
  simp [Instr.typeAssert, run_underlying h, go_sem, Result.andThen]
theorem errno_under : Try.prog.underlying 42 = some (.int .i64) := by kernel_rfl
section
variable {ops : Array Oper} {Q : Exit → Act → World → Prop} {rest : List Oper} {a : Act} {w : World} {o1 : Oper} {dst : Option Tmp} {ty0 : TypeId} {pos : String} {aft : Array Edge} {gd : Option (Nat × Bool)}
def AtAssert (P : Program) (ops : Array Oper) (Q : Exit → Act → World → Prop) (o : Oper) (_ : Operand) (_ _ : TypeId) (_ : Bool) (rest : List Oper) (a : Act) (w : World) : Prop := wpList P ops Q (o :: rest) a w
theorem isAssert {P : Program} {t u : TypeId} {x : Operand} {ok : Bool} (h : AtAssert P ops Q ⟨dst, .typeAssert x t u ok, ty0, pos, aft, gd⟩ x t u ok rest a w) : wpList P ops Q (⟨dst, .typeAssert x t u ok, ty0, pos, aft, gd⟩ :: rest) a w := h
theorem AtAssert.errno {x : Operand} {xT : TypeId} {v : Value} (hw : Region.wanted o1 (yielded ops a.tmps) = true) (ho : o1.op = .typeAssert x xT 42 true) (hx : a.eval x = .iface 42 v)
    (h : wpList Try.prog ops Q rest (a.put o1.dst (.tuple #[v, .bool true])) w) : AtAssert Try.prog ops Q o1 x xT 42 true rest a w :=
  wpList_step fun _ hK => by
    rw [if_pos hw]
    unfold Oper.wp execOp
    simp only [ho, hx, Sem.run_bind, run_assert_int errno_under, Result.andThen_ok]
    exact hK _ _ h
end
theorem num_nil (w : World) : Calls Try.prog 41 #[.nilIface] w fun e w' => e = .returned (.int .i64 0) ∧ w' = w := by
  have H := St.nil w []
  have HK := Ks.nil w []
  go_enter Try.func41, Try.ntmps41
  go_wp2_with fail
  go_ret
  exact ⟨rfl, rfl⟩
theorem num_ev (n : Nat) (w : World) : Calls Try.prog 41 #[.iface 42 (.int .i64 n)] w fun e w' => e = .returned (.int .i64 n) ∧ w' = w := by
  have H := St.nil w []
  have HK := Ks.nil w []
  go_enter Try.func41, Try.ntmps41
  go_wp2_with (first | ((with_reducible refine isAssert ?_); refine AtAssert.errno rfl rfl rfl ?_; simp only [Act.put, puA, puB, puC]))
  go_ret
  exact ⟨rfl, rfl⟩
theorem is_nil (k : Nat) (hk : 0 < k) (w : World) : Calls Try.prog 13 #[.nilIface, .int .i64 k] w fun e w' => e = .returned (.bool false) ∧ w' = w := by
  have H := St.nil w []
  have HK := Ks.nil w []
  have HN := Lib.hid (fun w => num_nil w)
  have h0 : ((0 : Int) == (k : Int)) = false := by simp; omega
  go_enter Try.func13, Try.ntmps13
  go_wp2_with (first | (go_at_call 41; with_reducible refine same (HN.out _) ?_))
  go_ret
  exact ⟨rfl, rfl⟩
theorem is_ev (n k : Nat) (hk : 0 < k) (b : Bool) (hb : ((n : Int) == (k : Int)) = b) (w : World) : Calls Try.prog 13 #[.iface 42 (.int .i64 n), .int .i64 k] w fun e w' => e = .returned (.bool b) ∧ w' = w := by
  have H := St.nil w []
  have HK := Ks.nil w []
  have HN := Lib.hid (fun w => num_ev n w)
  have h0 : ((k : Int) == 0) = false := by simp; omega
  have h1 : ((k : Int) != 0) = true := by simp; omega
  cases b with
  | false =>
    go_enter Try.func13, Try.ntmps13
    go_wp2_with (first | (go_at_call 41; with_reducible refine same (HN.out _) ?_))
    go_ret
    exact ⟨rfl, rfl⟩
  | true =>
    go_enter Try.func13, Try.ntmps13
    go_wp2_with (first | (go_at_call 41; with_reducible refine same (HN.out _) ?_))
    go_ret
    exact ⟨rfl, rfl⟩
def encZ (x : Int) : List Value := [.int .i64 x]
theorem encZ_len (x : Int) : (encZ x).length = 1 := rfl
def In64 (xs : List Int) : Prop := ∀ x ∈ xs, -9223372036854775808 ≤ x ∧ x ≤ 9223372036854775807
def RowPost (r : List Int) (c n : Nat) (w : World) (e : Ending) (w' : World) : Prop := ∃ b, e = .returned (.bool b) ∧ (b = true ↔ (r.length = c ∧ ∀ z ∈ r, 0 ≤ z ∧ z < n)) ∧ St w [] [] w'
theorem row_c {P : PoolT} {rv : Value} {r : List Int} {c n : Nat} (hr : RowIn P encZ 1 rv r) (hc : c ≤ 256) (hn : n ≤ 8) (w : World) (hp : (poolA P).ho w) :
    Calls Try.prog 53 #[rv, .int .i64 c, .int .i64 n] w (RowPost r c n w) := by
  have H := St.nil w []
  have HK := Ks.one hp
  obtain ⟨ad, cp, rfl, hm⟩ := hr.shape
  unfold maxLen at hm
  have HR := Lib.hid hr
  by_cases hl : r.length = c
  · have h0 : ((r.length : Int) != (c : Int)) = false := by simp [hl]
    have h1 : ((r.length : Int) == (c : Int)) = true := by simp [hl]
    have HL := Lib.hid hl
    clear hr hp hl
    go_enter Try.func53, Try.ntmps53
    go_wp2_with (first | refine sL ?_)
    go_loopw [7] (fun v7 wr => ∃ k : Nat, v7 = .int .i64 k ∧ k ≤ c ∧ (∀ (j : Nat) (z : Int), j < k → r[j]? = some z → 0 ≤ z ∧ z < n) ∧ St w [] [] wr) (fun v7 _ => c - (intOf v7).toNat)
    case atStart => exact ⟨0, rfl, Nat.zero_le _, by intro j z hj; omega, H⟩
    case round =>
      clear H
      obtain ⟨k, rfl, hk, hall, H⟩ := hrel
      have HA := Lib.hid hall
      clear hall
      by_cases hlt : k < c
      · obtain ⟨z, hz⟩ : ∃ z, r[k]? = some z := ⟨_, List.getElem?_eq_getElem (by rw [HL.out]; exact hlt)⟩
        obtain ⟨g, o, c', he, hrow⟩ := HR.out.has (by rw [HL.out]; omega)
        injection he with e1 e2 e3
        subst e1
        have HZ := Lib.hid hz
        have hkl := getElem_len hz
        clear hz hrow e2 e3
        by_cases z0 : z < 0
        · have d0 : decide (z < 0) = true := by simpa using z0
          go_wp2_with (first | refine sL ?_ | ((with_reducible refine isLoad ?_); refine AtLoad.cel rfl rfl rfl rfl (HR.out.cell (H.known HK pk) encZ_len HZ.out rfl) ?_; simp only [Act.put, puA, puB, puC]))
          go_ret
          exact ⟨false, rfl, ⟨fun h => (by cases h), fun h => by have := h.2 z (List.mem_of_getElem? HZ.out); omega⟩, H⟩
        · have d0 : decide (z < 0) = false := by simpa using z0
          by_cases zn : (n : Int) ≤ z
          · have d1 : decide ((n : Int) ≤ z) = true := by simpa using zn
            go_wp2_with (first | refine sL ?_ | ((with_reducible refine isLoad ?_); refine AtLoad.cel rfl rfl rfl rfl (HR.out.cell (H.known HK pk) encZ_len HZ.out rfl) ?_; simp only [Act.put, puA, puB, puC]))
            go_ret
            exact ⟨false, rfl, ⟨fun h => (by cases h), fun h => by have := h.2 z (List.mem_of_getElem? HZ.out); omega⟩, H⟩
          · have d1 : decide ((n : Int) ≤ z) = false := by simpa using zn
            go_wp2_with (first | refine sL ?_ | ((with_reducible refine isLoad ?_); refine AtLoad.cel rfl rfl rfl rfl (HR.out.cell (H.known HK pk) encZ_len HZ.out rfl) ?_; simp only [Act.put, puA, puB, puC]))
            refine ⟨⟨k + 1, by go_num, by omega, fun j y hj hy => ?_, H⟩, by simp [intOf]; omega⟩
            rcases Nat.lt_or_ge j k with h | h
            · exact HA.out j y h hy
            · obtain rfl : j = k := by omega
              rw [HZ.out] at hy
              injection hy with hy
              subst hy
              omega
      · have hke : k = c := by omega
        subst hke
        go_wp2_with (first | refine sL ?_)
        go_ret
        refine ⟨true, rfl, ⟨fun _ => ⟨HL.out, fun z hz => ?_⟩, fun _ => rfl⟩, H⟩
        obtain ⟨j, hj⟩ := List.getElem?_of_mem hz
        exact HA.out j z (by have := getElem_len hj; rw [HL.out] at this; exact this) hj
  · have h0 : ((r.length : Int) != (c : Int)) = true := by simp; omega
    have h1 : ((r.length : Int) == (c : Int)) = false := by simp; omega
    have HL := Lib.hid hl
    clear hr hp hl
    go_enter Try.func53, Try.ntmps53
    go_wp2_with (first | refine sL ?_)
    go_ret
    exact ⟨false, rfl, ⟨fun h => (by cases h), fun h => absurd h.1 HL.out⟩, H⟩
end Go.Proofs.Ytijnhpaafhcndaa
end
section
namespace Go.Proofs.Ytijnhpaafhcndaa
open Go.RowKit Go.Maps
attribute [local go_sem] InGr
set_option maxHeartbeats 4000000
set_option maxRecDepth 100000
set_option linter.unusedSimpArgs false
set_option linter.unusedVariables false
structure Raw where
  start : Int
  cls : List Int
  next : List (List Int)
  acc : List Bool
  wts : List Int
structure RawAt (P : PoolT) (cv nv av hv : Value) (rvs : List Value) (R : Raw) : Prop where
  cls : RowIn P encZ 1 cv R.cls
  next : RowIn P encV 1 nv rvs
  len : rvs.length = R.next.length
  rows : ∀ (i : Nat) (rv : Value) (r : List Int), rvs[i]? = some rv → R.next[i]? = some r → RowIn P encZ 1 rv r
  acc : RowIn P encB 1 av R.acc
  wts : RowIn P encZ 1 hv R.wts
structure Raw.Snd (R : Raw) (c : Nat) : Prop where
  n1 : 1 ≤ R.next.length
  n8 : R.next.length ≤ 8
  acc : R.acc.length = R.next.length
  wts : R.wts.length = R.next.length
  s0 : 0 ≤ R.start
  sn : R.start < R.next.length
  cls : R.cls.length = 256
  c1 : 1 ≤ c
  c256 : c ≤ 256
  clsIn : ∀ z ∈ R.cls, 0 ≤ z ∧ z < c
  rows : ∀ r ∈ R.next, r.length = c ∧ ∀ z ∈ r, 0 ≤ z ∧ z < R.next.length
  wtsIn : ∀ x ∈ R.wts, 0 ≤ x ∧ x ≤ 1048576
def Raw.mc (R : Raw) : Mc := ⟨R.start.toNat, R.cls.map Int.toNat, R.next.map (·.map Int.toNat), R.acc, R.wts.map Int.toNat⟩
theorem flat_toNat {xs : List Int} (h : ∀ x ∈ xs, 0 ≤ x) : flatG encI (xs.map Int.toNat) = flatG encZ xs := by
  induction xs with
  | nil => rfl
  | cons x xs ih =>
    have e1 : flatG encI ((x :: xs).map Int.toNat) = encI x.toNat ++ flatG encI (xs.map Int.toNat) := by simp [flatG]
    have e2 : flatG encZ (x :: xs) = encZ x ++ flatG encZ xs := by simp [flatG]
    have hx := h x (by simp)
    rw [e1, e2, ih fun y hy => h y (by simp [hy])]
    simp only [encI, encZ, Int.toNat_of_nonneg hx]
theorem RowIn.toNat {P : PoolT} {v : Value} {xs : List Int} (h : RowIn P encZ 1 v xs) (h0 : ∀ x ∈ xs, 0 ≤ x) : RowIn P encI 1 v (xs.map Int.toNat) := by
  obtain ⟨ad, c, h1, h2, h3⟩ := h
  refine ⟨ad, c, by rw [List.length_map]; exact h1, by rw [List.length_map]; exact h2, fun hx => ?_⟩
  rw [List.length_map] at hx
  obtain ⟨g, o, e, hm⟩ := h3 hx
  exact ⟨g, o, e, by rw [flat_toNat h0]; exact hm⟩
theorem Raw.Snd.ok {R : Raw} {c : Nat} (h : R.Snd c) : R.mc.Ok c := by
  have hn : R.mc.n = R.next.length := by simp [Mc.n, Raw.mc]
  have h1 := h.n1
  have h8 := h.n8
  have hs := h.s0
  have hs2 := h.sn
  refine ⟨by omega, by omega, ?_, by simp [Raw.mc, h.cls], h.c1, h.c256, fun i x hx => ?_, fun i r hr => ?_, fun i j x r hr hx => ?_, by rw [hn]; exact h.acc, by rw [hn]; simp [Raw.mc, h.wts], fun i x hx => ?_⟩
  · rw [hn]; simp only [Raw.mc]; omega
  · obtain ⟨z, hz, rfl⟩ := List.mem_map.1 (List.mem_of_getElem? hx)
    have := h.clsIn z hz
    omega
  · obtain ⟨z, hz, rfl⟩ := List.mem_map.1 (List.mem_of_getElem? hr)
    rw [List.length_map]
    exact (h.rows z hz).1
  · obtain ⟨z, hz, rfl⟩ := List.mem_map.1 (List.mem_of_getElem? hr)
    obtain ⟨y, hy, rfl⟩ := List.mem_map.1 (List.mem_of_getElem? hx)
    have := (h.rows z hz).2 y hy
    omega
  · obtain ⟨z, hz, rfl⟩ := List.mem_map.1 (List.mem_of_getElem? hx)
    have := h.wtsIn z hz
    omega
theorem RawAt.mac {P : PoolT} {cv nv av hv : Value} {rvs : List Value} {R : Raw} {c : Nat} (h : RawAt P cv nv av hv rvs R) (hs : R.Snd c) : MacAt P cv nv av rvs R.mc ∧ RowIn P encI 1 hv R.mc.wts := by
  refine ⟨⟨h.cls.toNat fun x hx => (hs.clsIn x hx).1, h.next, by rw [h.len]; simp [Mc.n, Raw.mc], fun i rv r h1 h2 => ?_, h.acc⟩, h.wts.toNat fun x hx => (hs.wtsIn x hx).1⟩
  simp only [Raw.mc, List.getElem?_map] at h2
  cases hr : R.next[i]? with
  | none => rw [hr] at h2; cases h2
  | some r' =>
    rw [hr] at h2
    injection h2 with h2
    subst h2
    exact (h.rows i rv r' h1 hr).toNat fun x hx => ((hs.rows r' (List.mem_of_getElem? hr)).2 x hx).1
def SoRel (R : Raw) (c n b2 : Nat) (cs : Array Value) (w : World) (v8 : Value) (wr : World) : Prop :=
  ∃ k : Nat, v8 = .int .i64 k ∧ k ≤ n ∧ (∀ (j : Nat) (r : List Int) (x : Int), j < k → R.next[j]? = some r → R.wts[j]? = some x → (r.length = c ∧ ∀ z ∈ r, 0 ≤ z ∧ z < n) ∧ 0 ≤ x ∧ x ≤ 1048576) ∧ St w [] [blk b2 (.cells cs 26)] wr
def SndPost (R : Raw) (w : World) (e : Ending) (w' : World) : Prop := ∃ b, e = .returned (.bool b) ∧ (b = true → ∃ c, R.Snd c) ∧ St w [] [] w'
theorem sound_c {P : PoolT} {cv nv av hv : Value} {rvs : List Value} {R : Raw} (h : RawAt P cv nv av hv rvs R) (hs1 : -9223372036854775808 ≤ R.start) (hs2 : R.start ≤ 9223372036854775807) (w : World) (hp : (poolA P).ho w) :
    Calls Try.prog 24 #[.agg #[.int .i64 R.start, cv, nv, av], hv] w (SndPost R w) := by
  have H := St.nil w []
  have HK := Ks.one hp
  have HRA := Lib.hid h
  obtain ⟨a1, c1, rfl, hm1⟩ := h.cls.shape
  obtain ⟨a2, c2, rfl, hm2⟩ := h.next.shape
  obtain ⟨a3, c3, rfl, hm3⟩ := h.acc.shape
  obtain ⟨a4, c4, rfl, hm4⟩ := h.wts.shape
  unfold maxLen at hm1 hm2 hm3 hm4
  have hlen := h.len
  rw [hlen] at HRA hm2 ⊢
  have HCL := Lib.hid h.cls
  have HNX := Lib.hid h.next
  have HWT := Lib.hid h.wts
  have HRS := Lib.hid h.rows
  have HLEN := Lib.hid hlen
  rw [hlen] at HNX
  obtain ⟨n, hn⟩ : ∃ n, n = R.next.length := ⟨_, rfl⟩
  obtain ⟨st, hst⟩ : ∃ st, st = R.start := ⟨_, rfl⟩
  rw [← hn] at HRA HNX hm2 ⊢
  rw [← hst] at hs1 hs2 ⊢
  have HN := Lib.hid hn
  have HST := Lib.hid hst
  generalize hla : R.acc.length = la at *
  generalize hlw : R.wts.length = lw at *
  generalize hlc : R.cls.length = lc at *
  have HLA := Lib.hid hla
  have HLW := Lib.hid hlw
  have HLC := Lib.hid hlc
  clear h hp hlen hn hst hla hlw hlc
  by_cases k1 : n < 1
  · have ek1 : decide ((n : Int) < 1) = true := by simp; omega
    clear k1
    go_enter Try.func24, Try.ntmps24
    go_wp2_with (first | refine sL ?_ | (refine sB ?_; clear H; intro _ _ H))
    go_ret
    exact ⟨false, rfl, by simp, H.nix⟩
  have ek1 : decide ((n : Int) < 1) = false := by simp; omega
  by_cases k2 : 8 < n
  · have ek2 : decide (8 < (n : Int)) = true := by simp; omega
    clear k2
    go_enter Try.func24, Try.ntmps24
    go_wp2_with (first | refine sL ?_ | (refine sB ?_; clear H; intro _ _ H))
    go_ret
    exact ⟨false, rfl, by simp, H.nix⟩
  have ek2 : decide (8 < (n : Int)) = false := by simp; omega
  by_cases k3 : la ≠ n
  · have ek3 : ((la : Int) != (n : Int)) = true := by simp; omega
    have fk30 : ((la : Int) == (n : Int)) = false := by simp; omega
    clear k3
    go_enter Try.func24, Try.ntmps24
    go_wp2_with (first | refine sL ?_ | (refine sB ?_; clear H; intro _ _ H))
    go_ret
    exact ⟨false, rfl, by simp, H.nix⟩
  have ek3 : ((la : Int) != (n : Int)) = false := by simp; omega
  have fk30 : ((la : Int) == (n : Int)) = true := by simp; omega
  by_cases k4 : lw ≠ n
  · have ek4 : ((lw : Int) != (n : Int)) = true := by simp; omega
    have fk40 : ((lw : Int) == (n : Int)) = false := by simp; omega
    clear k4
    go_enter Try.func24, Try.ntmps24
    go_wp2_with (first | refine sL ?_ | (refine sB ?_; clear H; intro _ _ H))
    go_ret
    exact ⟨false, rfl, by simp, H.nix⟩
  have ek4 : ((lw : Int) != (n : Int)) = false := by simp; omega
  have fk40 : ((lw : Int) == (n : Int)) = true := by simp; omega
  by_cases k5 : st < 0
  · have ek5 : decide (st < 0) = true := by simp; omega
    clear k5
    go_enter Try.func24, Try.ntmps24
    go_wp2_with (first | refine sL ?_ | (refine sB ?_; clear H; intro _ _ H))
    go_ret
    exact ⟨false, rfl, by simp, H.nix⟩
  have ek5 : decide (st < 0) = false := by simp; omega
  by_cases k6 : (n : Int) ≤ st
  · have ek6 : decide ((n : Int) ≤ st) = true := by simp; omega
    clear k6
    go_enter Try.func24, Try.ntmps24
    go_wp2_with (first | refine sL ?_ | (refine sB ?_; clear H; intro _ _ H))
    go_ret
    exact ⟨false, rfl, by simp, H.nix⟩
  have ek6 : decide ((n : Int) ≤ st) = false := by simp; omega
  by_cases k7 : lc ≠ 256
  · have ek7 : ((lc : Int) != 256) = true := by simp; omega
    have fk70 : ((lc : Int) == 256) = false := by simp; omega
    clear k7
    go_enter Try.func24, Try.ntmps24
    go_wp2_with (first | refine sL ?_ | (refine sB ?_; clear H; intro _ _ H))
    go_ret
    exact ⟨false, rfl, by simp, H.nix⟩
  have ek7 : ((lc : Int) != 256) = false := by simp; omega
  have fk70 : ((lc : Int) == 256) = true := by simp; omega
  obtain ⟨r0, hr0⟩ : ∃ r0, R.next[0]? = some r0 := ⟨_, List.getElem?_eq_getElem (by rw [← HN.out]; omega)⟩
  obtain ⟨v0, hv0⟩ : ∃ v0, rvs[0]? = some v0 := ⟨_, List.getElem?_eq_getElem (by rw [HLEN.out, ← HN.out]; omega)⟩
  obtain ⟨a0, c0, rfl, hm0⟩ := (HRS.out 0 v0 r0 hv0 hr0).shape
  have HR0 := Lib.hid hr0
  have HV0 := Lib.hid hv0
  unfold maxLen at hm0
  obtain ⟨g2, o2, c2', he2, hnx2⟩ := HNX.out.has (by rw [HLEN.out, ← HN.out]; omega)
  injection he2 with x1 x2 x3
  subst x1
  obtain ⟨c, hc⟩ : ∃ c, c = r0.length := ⟨_, rfl⟩
  rw [← hc] at HV0 hm0
  have HC := Lib.hid hc
  have hn0 : 0 < n := by omega
  have hn8 : n ≤ 8 := by omega
  have hlc : lc = 256 := by omega
  have hlw : n = lw := by omega
  have hla : la = n := by omega
  obtain ⟨g1, o1, c1', he1, _⟩ := HCL.out.has (by rw [HLC.out]; omega)
  injection he1 with y1 y2 y3
  subst y1
  obtain ⟨g4, o4, c4', he4, _⟩ := HWT.out.has (by rw [HLW.out]; omega)
  injection he4 with z1 z2 z3
  subst z1
  subst hlc
  have HFACT := Lib.hid (show n = R.next.length ∧ R.acc.length = n ∧ R.wts.length = n ∧ 0 ≤ st ∧ st < n ∧ R.cls.length = 256 from ⟨HN.out, by rw [HLA.out, hla], by rw [HLW.out, hlw], by omega, by omega, HLC.out⟩)
  subst hlw
  clear hr0 hv0 hnx2 x2 x3 y2 y3 z2 z3 hc hla k1 k2 k3 k4 k5 k6 k7
  by_cases k8 : c < 1
  · have ek8 : decide ((c : Int) < 1) = true := by simp; omega
    clear k8
    go_enter Try.func24, Try.ntmps24
    go_wp2_with (first | refine sL ?_ | (refine sB ?_; clear H; intro _ _ H) | ((with_reducible refine isLoad ?_); refine AtLoad.cel rfl rfl rfl rfl (HNX.out.cell (H.known HK pk) encV_len HV0.out rfl) ?_; simp only [Act.put, puA, puB, puC]))
    go_ret
    exact ⟨false, rfl, by simp, H.nix⟩
  have ek8 : decide ((c : Int) < 1) = false := by simp; omega
  by_cases k9 : 256 < c
  · have ek9 : decide (256 < (c : Int)) = true := by simp; omega
    clear k9
    go_enter Try.func24, Try.ntmps24
    go_wp2_with (first | refine sL ?_ | (refine sB ?_; clear H; intro _ _ H) | ((with_reducible refine isLoad ?_); refine AtLoad.cel rfl rfl rfl rfl (HNX.out.cell (H.known HK pk) encV_len HV0.out rfl) ?_; simp only [Act.put, puA, puB, puC]))
    go_ret
    exact ⟨false, rfl, by simp, H.nix⟩
  have ek9 : decide (256 < (c : Int)) = false := by simp; omega
  have hc0 : 0 < c := by omega
  have hc256 : c ≤ 256 := by omega
  clear k8 k9
  go_enter Try.func24, Try.ntmps24
  go_wp2_with (first | refine sL ?_ | (refine sB ?_; clear H; intro _ _ H) | ((with_reducible refine isLoad ?_); refine AtLoad.cel rfl rfl rfl rfl (HNX.out.cell (H.known HK pk) encV_len HV0.out rfl) ?_; simp only [Act.put, puA, puB, puC]))
  rename_i b2 _ _ _
  go_loopw [7] (fun v7 wr => ∃ k : Nat, v7 = .int .i64 k ∧ k ≤ 256 ∧ (∀ (j : Nat) (z : Int), j < k → R.cls[j]? = some z → 0 ≤ z ∧ z < c) ∧ St w [] [blk b2 (.cells #[.int .i64 st, .slice (some ⟨g1, o1, none⟩) 256 c1, .slice (some ⟨g2, o2, none⟩) n c2, .slice a3 la c3] 26)] wr) (fun v7 _ => 256 - (intOf v7).toNat)
  case atStart => exact ⟨0, rfl, Nat.zero_le _, by intro j z hj; omega, H⟩
  case round =>
    clear H
    obtain ⟨k, rfl, hk, hall, H⟩ := hrel
    have HA := Lib.hid hall
    clear hall
    by_cases hlt : k < 256
    · obtain ⟨z, hz⟩ : ∃ z, R.cls[k]? = some z := ⟨_, List.getElem?_eq_getElem (by rw [HLC.out]; exact hlt)⟩
      have HZ := Lib.hid hz
      clear hz
      by_cases z0 : z < 0
      · have d0 : decide (z < 0) = true := by simpa using z0
        go_wp2_with (first | refine sL ?_ | (refine sB ?_; clear H; intro _ _ H) | ((with_reducible refine isLoad ?_); refine AtLoad.cel rfl rfl rfl rfl (HCL.out.cell (H.known HK pk) encZ_len HZ.out rfl) ?_; simp only [Act.put, puA, puB, puC]))
        go_ret
        exact ⟨false, rfl, by simp, H.nix⟩
      · have d0 : decide (z < 0) = false := by simpa using z0
        by_cases zn : (c : Int) ≤ z
        · have d1 : decide ((c : Int) ≤ z) = true := by simpa using zn
          go_wp2_with (first | refine sL ?_ | (refine sB ?_; clear H; intro _ _ H) | ((with_reducible refine isLoad ?_); refine AtLoad.cel rfl rfl rfl rfl (HCL.out.cell (H.known HK pk) encZ_len HZ.out rfl) ?_; simp only [Act.put, puA, puB, puC]))
          go_ret
          exact ⟨false, rfl, by simp, H.nix⟩
        · have d1 : decide ((c : Int) ≤ z) = false := by simpa using zn
          go_wp2_with (first | refine sL ?_ | (refine sB ?_; clear H; intro _ _ H) | ((with_reducible refine isLoad ?_); refine AtLoad.cel rfl rfl rfl rfl (HCL.out.cell (H.known HK pk) encZ_len HZ.out rfl) ?_; simp only [Act.put, puA, puB, puC]))
          refine ⟨⟨k + 1, by go_num, by omega, fun j y hj hy => ?_, H⟩, by simp [intOf]; omega⟩
          rcases Nat.lt_or_ge j k with h | h
          · exact HA.out j y h hy
          · obtain rfl : j = k := by omega
            rw [HZ.out] at hy
            injection hy with hy
            subst hy
            omega
    · have hke : k = 256 := by omega
      subst hke
      have HCI := Lib.hid (show ∀ z ∈ R.cls, 0 ≤ z ∧ z < c from fun z hz => by
        obtain ⟨j, hj⟩ := List.getElem?_of_mem hz
        exact HA.out j z (by have := getElem_len hj; rw [HLC.out] at this; exact this) hj)
      clear HA
      go_wp2_with (first | refine sL ?_ | (refine sB ?_; clear H; intro _ _ H))
      go_loopw [8] (fun v8 wr => SoRel R c n b2 #[.int .i64 st, .slice (some ⟨g1, o1, none⟩) 256 c1, .slice (some ⟨g2, o2, none⟩) n c2, .slice a3 la c3] w v8 wr) (fun v8 _ => n - (intOf v8).toNat)
      case atStart => exact ⟨0, rfl, Nat.zero_le _, by intro j r x hj; omega, H⟩
      case round =>
        clear H
        obtain ⟨k, rfl, hk, hall, H⟩ := hrel
        have HA := Lib.hid hall
        clear hall
        by_cases hlt : k < n
        · obtain ⟨r, hr⟩ : ∃ r, R.next[k]? = some r := ⟨_, List.getElem?_eq_getElem (by rw [← HFACT.out.1]; exact hlt)⟩
          obtain ⟨rv, hrv⟩ : ∃ rv, rvs[k]? = some rv := ⟨_, List.getElem?_eq_getElem (by rw [HLEN.out, ← HFACT.out.1]; exact hlt)⟩
          obtain ⟨x, hx⟩ : ∃ x, R.wts[k]? = some x := ⟨_, List.getElem?_eq_getElem (by rw [HFACT.out.2.2.1]; exact hlt)⟩
          have hrow := HRS.out k rv r hrv hr
          obtain ⟨a9, c9, rfl, hm9⟩ := hrow.shape
          have HX := Lib.hid hx
          have HRV := Lib.hid hrv
          have HR9 := Lib.hid hr
          by_cases hX : r.length = c ∧ ∀ z ∈ r, 0 ≤ z ∧ z < n
          · have HROW : Hid (∀ w, (poolA P).ho w → Calls Try.prog 53 #[.slice a9 r.length c9, .int .i64 c, .int .i64 n] w (fun e w' => e = .returned (.bool true) ∧ St w [] [] w')) := Lib.hid fun w h => by
              refine Calls.mono (row_c hrow hc256 hn8 w h) ?_
              rintro e w' ⟨b, rfl, hb, hs⟩
              obtain rfl := hb.2 hX
              exact ⟨rfl, hs⟩
            have HX9 := Lib.hid hX
            clear hr hrv hx hrow hm9 hX
            by_cases x0 : x < 0
            · have d0 : decide (x < 0) = true := by simpa using x0
              go_wp2_with (first | refine sL ?_ | (refine sB ?_; clear H; intro _ _ H) | ((with_reducible refine isLoad ?_); refine AtLoad.cel rfl rfl rfl rfl (HNX.out.cell (H.known HK pk) encV_len HRV.out rfl) ?_; simp only [Act.put, puA, puB, puC]) | ((with_reducible refine isLoad ?_); refine AtLoad.cel rfl rfl rfl rfl (HWT.out.cell (H.known HK pk) encZ_len HX.out rfl) ?_; simp only [Act.put, puA, puB, puC]) | (go_at_call 53; with_reducible refine Calls.mono (HROW.out _ (H.known HK pk)) ?_; rintro e wc ⟨rfl, hb⟩; replace H := H.grew hb.below; clear hb))
              go_ret
              exact ⟨false, rfl, by simp, H.nix⟩
            · have d0 : decide (x < 0) = false := by simpa using x0
              by_cases xn : 1048576 < x
              · have d1 : decide (1048576 < x) = true := by simpa using xn
                go_wp2_with (first | refine sL ?_ | (refine sB ?_; clear H; intro _ _ H) | ((with_reducible refine isLoad ?_); refine AtLoad.cel rfl rfl rfl rfl (HNX.out.cell (H.known HK pk) encV_len HRV.out rfl) ?_; simp only [Act.put, puA, puB, puC]) | ((with_reducible refine isLoad ?_); refine AtLoad.cel rfl rfl rfl rfl (HWT.out.cell (H.known HK pk) encZ_len HX.out rfl) ?_; simp only [Act.put, puA, puB, puC]) | (go_at_call 53; with_reducible refine Calls.mono (HROW.out _ (H.known HK pk)) ?_; rintro e wc ⟨rfl, hb⟩; replace H := H.grew hb.below; clear hb))
                go_ret
                exact ⟨false, rfl, by simp, H.nix⟩
              · have d1 : decide (1048576 < x) = false := by simpa using xn
                go_wp2_with (first | refine sL ?_ | (refine sB ?_; clear H; intro _ _ H) | ((with_reducible refine isLoad ?_); refine AtLoad.cel rfl rfl rfl rfl (HNX.out.cell (H.known HK pk) encV_len HRV.out rfl) ?_; simp only [Act.put, puA, puB, puC]) | ((with_reducible refine isLoad ?_); refine AtLoad.cel rfl rfl rfl rfl (HWT.out.cell (H.known HK pk) encZ_len HX.out rfl) ?_; simp only [Act.put, puA, puB, puC]) | (go_at_call 53; with_reducible refine Calls.mono (HROW.out _ (H.known HK pk)) ?_; rintro e wc ⟨rfl, hb⟩; replace H := H.grew hb.below; clear hb))
                have HREL := (show ∀ wx, St w [] [blk b2 (.cells #[.int .i64 st, .slice (some ⟨g1, o1, none⟩) 256 c1, .slice (some ⟨g2, o2, none⟩) n c2, .slice a3 la c3] 26)] wx → SoRel R c n b2 #[.int .i64 st, .slice (some ⟨g1, o1, none⟩) 256 c1, .slice (some ⟨g2, o2, none⟩) n c2, .slice a3 la c3] w (.int .i64 ((k : Int) + 1)) wx from fun wx H => by
                  refine ⟨k + 1, by go_num, by omega, fun j y u hj hy hu => ?_, H⟩
                  rcases Nat.lt_or_ge j k with h | h
                  · exact HA.out j y u h hy hu
                  · obtain rfl : j = k := by omega
                    rw [HR9.out] at hy
                    rw [HX.out] at hu
                    injection hy with hy
                    injection hu with hu
                    subst hy hu
                    exact ⟨HX9.out, by omega, by omega⟩) _ H
                refine ⟨?_, by simp [intOf]; omega⟩
                (repeat apply Exists.intro)
                refine ⟨HREL, ?_⟩
                rfl
          · have HROW : Hid (∀ w, (poolA P).ho w → Calls Try.prog 53 #[.slice a9 r.length c9, .int .i64 c, .int .i64 n] w (fun e w' => e = .returned (.bool false) ∧ St w [] [] w')) := Lib.hid fun w h => by
              refine Calls.mono (row_c hrow hc256 hn8 w h) ?_
              rintro e w' ⟨b, rfl, hb, hs⟩
              cases b with
              | false => exact ⟨rfl, hs⟩
              | true => exact absurd (hb.1 rfl) hX
            clear hr hrv hx hrow hm9 hX
            go_wp2_with (first | refine sL ?_ | (refine sB ?_; clear H; intro _ _ H) | ((with_reducible refine isLoad ?_); refine AtLoad.cel rfl rfl rfl rfl (HNX.out.cell (H.known HK pk) encV_len HRV.out rfl) ?_; simp only [Act.put, puA, puB, puC]) | ((with_reducible refine isLoad ?_); refine AtLoad.cel rfl rfl rfl rfl (HWT.out.cell (H.known HK pk) encZ_len HX.out rfl) ?_; simp only [Act.put, puA, puB, puC]) | (go_at_call 53; with_reducible refine Calls.mono (HROW.out _ (H.known HK pk)) ?_; rintro e wc ⟨rfl, hb⟩; replace H := H.grew hb.below; clear hb))
            go_ret
            exact ⟨false, rfl, by simp, H.nix⟩
        · have hke : k = n := by omega
          subst hke
          go_wp2_with (first | refine sL ?_ | (refine sB ?_; clear H; intro _ _ H))
          go_ret
          refine ⟨true, rfl, fun _ => ⟨c, ?_⟩, H.nix⟩
          obtain ⟨f1, f2, f3, f4, f5, f6⟩ := HFACT.out
          refine ⟨by omega, by omega, by rw [f2, f1], by rw [f3, f1], by rw [← HST.out]; exact f4, by rw [← HST.out, ← f1]; exact f5, f6, hc0, hc256, HCI.out, fun r hr => ?_, fun x hx => ?_⟩
          · obtain ⟨j, hj⟩ := List.getElem?_of_mem hr
            have hjl := getElem_len hj
            obtain ⟨x, hx⟩ : ∃ x, R.wts[j]? = some x := ⟨_, List.getElem?_eq_getElem (by omega)⟩
            have := (HA.out j r x (by omega) hj hx).1
            rw [f1] at this
            exact this
          · obtain ⟨j, hj⟩ := List.getElem?_of_mem hx
            have hjl := getElem_len hj
            obtain ⟨r, hr⟩ : ∃ r, R.next[j]? = some r := ⟨_, List.getElem?_eq_getElem (by omega)⟩
            exact (HA.out j r x (by omega) hr hj).2
end Go.Proofs.Ytijnhpaafhcndaa
end
section
namespace Go.Proofs.Ytijnhpaafhcndaa
open Go.RowKit Go.Maps
attribute [local go_sem] InGr
set_option maxHeartbeats 4000000
set_option maxRecDepth 100000
set_option linter.unusedSimpArgs false
set_option linter.unusedVariables false
theorem good_c {P : PoolT} {cv nv av hv lv : Value} {rvs : List Value} {R : Raw} {ms : List Mk} {N : Int} (h : RawAt P cv nv av hv rvs R) (hms : RowIn P mkL 5 lv ms) (hs1 : -9223372036854775808 ≤ R.start) (hs2 : R.start ≤ 9223372036854775807) (w : World) (hp : (poolA P).ho w) :
    Calls Try.prog 9 #[.agg #[.int .i64 R.start, cv, nv, av, hv, lv, .int .i64 N]] w fun e w' => ∃ b, e = .returned (.bool b) ∧ (b = true → ms.length ≤ 100 ∧ ∃ c, R.Snd c) ∧ St w [] [] w' := by
  have H := St.nil w []
  have HK := Ks.one hp
  obtain ⟨a1, c1, rfl, hm1⟩ := h.cls.shape
  obtain ⟨a2, c2, rfl, hm2⟩ := h.next.shape
  obtain ⟨a3, c3, rfl, hm3⟩ := h.acc.shape
  obtain ⟨a4, c4, rfl, hm4⟩ := h.wts.shape
  obtain ⟨a5, c5, rfl, hm5⟩ := hms.shape
  unfold maxLen at hm5
  have HS : Hid (∀ w, (poolA P).ho w → Calls Try.prog 24 #[.agg #[.int .i64 R.start, .slice a1 R.cls.length c1, .slice a2 rvs.length c2, .slice a3 R.acc.length c3], .slice a4 R.wts.length c4] w fun e w' => ∃ b, e = .returned (.bool b) ∧ (b = true → ∃ c, R.Snd c) ∧ St w [] [] w') := Lib.hid fun w hp => sound_c h hs1 hs2 w hp
  clear h hms hm1 hm2 hm3 hm4 hp
  by_cases hl : ms.length ≤ 100
  · have d0 : decide ((ms.length : Int) ≤ 100) = true := by simp; omega
    have HL := Lib.hid hl
    clear hl
    go_enter Try.func9, Try.ntmps9
    go_wp2_with (first | refine sL ?_ | (refine sB ?_; clear H; intro _ _ H) | (go_at_call 24; with_reducible refine Calls.mono (HS.out _ (H.known HK pk)) ?_; rintro e wc ⟨b, rfl, hb1, hb⟩; replace H := H.grew hb.below; clear hb; have HB := Lib.hid hb1; clear hb1))
    go_ret
    exact ⟨b, rfl, fun hb => ⟨HL.out, HB.out hb⟩, H.nix⟩
  · have d0 : decide ((ms.length : Int) ≤ 100) = false := by simp; omega
    clear hl
    go_enter Try.func9, Try.ntmps9
    go_wp2_with (first | refine sL ?_ | (refine sB ?_; clear H; intro _ _ H))
    go_ret
    exact ⟨false, rfl, by simp, H.nix⟩
def mc0 : Mc := ⟨0, List.replicate 256 0, [[0]], [true], [3]⟩
theorem mc0_ok : mc0.Ok 1 := by
  refine ⟨by decide, by decide, by decide, by simp [mc0], by decide, by decide, fun i x hx => ?_, fun i r hr => ?_, fun i j x r hr hx => ?_, by decide, by decide, fun i x hx => ?_⟩
  · have := List.eq_of_mem_replicate (List.mem_of_getElem? hx); omega
  · have := List.mem_of_getElem? hr
    simp [mc0] at this
    subst this; rfl
  · have := List.mem_of_getElem? hr
    simp [mc0] at this
    subst this
    have := List.mem_of_getElem? hx
    simp at this
    subst this
    decide
  · have := List.mem_of_getElem? hx
    simp [mc0] at this
    omega
theorem St.blk_into {e : TypeId} {g : Nat} {cs : Array Value} {Q : PoolT} {w0 w : World} {M : List Nat} {R : List As} (h : St w0 M (blk g (.cells cs e) :: poolA Q :: R) w) : St w0 M (poolA ((g, 0, cs.toList) :: Q) :: R) w := h.blk_pool.pool_add
theorem RowIn.one {α : Type} {P : PoolT} {enc : α → List Value} {g : Nat} {x : α} {u : List Value} (he : enc x = u) (h : (g, 0, u) ∈ P) (k : Nat) : RowIn P enc k (.slice (some ⟨g, 0, none⟩) 1 1) [x] :=
  ⟨_, 1, rfl, by simp [maxLen], fun _ => ⟨g, 0, rfl, by simpa [flatG, he] using h⟩⟩
theorem alive_c (w : World) : Calls Try.prog 27 #[] w fun e w' => e = .returned (.bool true) ∧ St w [] [] w' := by
  have H := St.nil w []
  have HK := Ks.nil w []
  have hS0 : (⟨10, []⟩ : Sto).Ok := (Scr.start (most := 10) (by omega)).ok
  have hS1 : (⟨10, [letterE 97]⟩ : Sto).Ok := Sto.letter_ok hS0 (b := 97) (by omega)
  have HN := Lib.hid (fun w => new_c 10 (by omega) 10 rfl w)
  have HLT : Hid (∀ p m w, (stoA p (.slice none 0 0) m ⟨10, []⟩).ho w → Calls Try.prog 55 #[.pointer (some ⟨p, 0, none⟩), .int .u8 97] w fun e w' => ∃ lv', e = .returned (.tuple #[.int .i64 1, .nilIface]) ∧ St w (stoA p (.slice none 0 0) m ⟨10, []⟩).fp [stoA p lv' m ⟨10, [letterE 97]⟩] w') := Lib.hid fun p m w h => letter_c hS0 97 (by omega) w h
  have HS1 := Lib.hid hS1
  clear hS0 hS1
  go_enter Try.func27, Try.ntmps27
  go_wp2_with (first | (go_at_call 25; with_reducible refine Calls.mono (HN.out _) ?_; rintro e wc ⟨p, m, rfl, hb⟩; replace H := H.call0 hb; clear hb; simp only [List.cons_append, List.nil_append] at H) | (go_at_call 55; with_reducible refine Calls.mono (HLT.out p m _ (H.get (A := stoA p (.slice none 0 0) m ⟨10, []⟩) pk)) ?_; rintro e wc ⟨lv1, rfl, hb⟩; replace H := H.pick (A := stoA p (.slice none 0 0) m ⟨10, []⟩) pk; replace H := H.call hb; clear hb; simp only [List.cons_append, List.nil_append] at H) | ((with_reducible refine isMakeSlice ?_); refine AtMakeSlice.go encI H rfl rfl 256 rfl rfl rfl rfl 0 rfl rfl encI_len (by omega) (by omega) ?_; clear H; intro bc _ H; simp only [Act.put, puA, puB, puC]) | ((with_reducible refine isSlice ?_); refine AtSlice.one H rfl rfl rfl rfl rfl rfl rfl rfl rfl ?_; clear H; intro b _ H; simp only [Act.put, puA, puB, puC]))
  rename_i br _ bn _ ba _ _ _ _
  obtain ⟨Q, hq, H⟩ := (H.pick (A := rowsA encI 3 1 (.slice (some ⟨bc, 0, none⟩) 256 256) (List.replicate 256 0)) pk).to_pool encI_len
  replace H := (H.pick2 (A := blk br (.cells #[.int .i64 0] 3)) (B := poolA Q) pk pk).blk_into
  replace H := (H.pick2 (A := blk bn (.cells #[.slice (some ⟨br, 0, none⟩) 1 1] 22)) (B := poolA ((br, 0, [.int .i64 0]) :: Q)) pk pk).blk_into
  replace H := (H.pick2 (A := blk ba (.cells #[.bool true] 4)) (B := poolA ((bn, 0, [.slice (some ⟨br, 0, none⟩) 1 1]) :: (br, 0, [.int .i64 0]) :: Q)) pk pk).blk_into
  replace H := (H.pick2 (A := blk b (.cells #[.int .i64 3] 3)) (B := poolA ((ba, 0, [.bool true]) :: (bn, 0, [.slice (some ⟨br, 0, none⟩) 1 1]) :: (br, 0, [.int .i64 0]) :: Q)) pk pk).blk_into
  obtain ⟨P, hP⟩ : ∃ P : PoolT, P = (b, 0, [.int .i64 3]) :: (ba, 0, [.bool true]) :: (bn, 0, [.slice (some ⟨br, 0, none⟩) 1 1]) :: (br, 0, [.int .i64 0]) :: Q := ⟨_, rfl⟩
  simp only [] at H
  rw [show ((b, 0, (#[.int .i64 3] : Array Value).toList) :: (ba, 0, [.bool true]) :: (bn, 0, [.slice (some ⟨br, 0, none⟩) 1 1]) :: (br, 0, [.int .i64 0]) :: Q : PoolT) = P from hP.symm] at H
  have hmac : MacAt P (.slice (some ⟨bc, 0, none⟩) 256 256) (.slice (some ⟨bn, 0, none⟩) 1 1) (.slice (some ⟨ba, 0, none⟩) 1 1) [.slice (some ⟨br, 0, none⟩) 1 1] mc0 := by
    refine ⟨?_, RowIn.one (u := [.slice (some ⟨br, 0, none⟩) 1 1]) rfl (by rw [hP]; simp) 1, rfl, fun i rv r h1 h2 => ?_, RowIn.one (u := [.bool true]) rfl (by rw [hP]; simp) 1⟩
    · exact hq.mono fun x hx => by rw [hP]; simp [hx]
    · have e1 := List.mem_of_getElem? h1
      have e2 := List.mem_of_getElem? h2
      simp [mc0] at e1 e2
      subst e1 e2
      exact RowIn.one (u := [.int .i64 0]) rfl (by rw [hP]; simp) 1
  have hhit : RowIn P encI 1 (.slice (some ⟨b, 0, none⟩) 1 1) mc0.wts := RowIn.one (u := [.int .i64 3]) rfl (by rw [hP]; simp) 1
  have HNEW : Hid (∀ w, (poolA P).ho w → Calls Try.prog 28 #[.pointer (some ⟨p, 0, none⟩), .agg #[.int .i64 0, .slice (some ⟨bc, 0, none⟩) 256 256, .slice (some ⟨bn, 0, none⟩) 1 1, .slice (some ⟨ba, 0, none⟩) 1 1], .slice (some ⟨b, 0, none⟩) 1 1, .bool false] w (NewPost mc0 p false w)) := Lib.hid fun w hp => tnew_c p false mc0_ok hmac hhit w hp
  clear hmac hhit hq hP
  with_reducible refine Calls.mono (HNEW.out _ (H.get (A := poolA P) pk)) ?_
  rintro e wc ⟨T, hmc, hs, hbk, hes, hok, rfl, hb⟩
  replace H := H.call0 hb
  clear hb
  simp only [List.cons_append, List.nil_append] at H
  replace H := (H.pick2 (A := tabA T) (B := stoA p lv1 m ⟨10, [letterE 97]⟩) pk pk).onlyTwo
  have HCNT : Hid (∀ w, ((tabA T).sep (stoA p lv1 m ⟨10, [letterE 97]⟩)).ho w → Calls Try.prog 12 #[.pointer (some ⟨T.p, 0, none⟩), .int .i64 1, .int .i64 0, .int .i64 1] w fun e w' => ∃ T', e = .returned (.tuple #[.int .i64 3, .nilIface]) ∧ St w (tabA T).fp [tabA T'] w') := Lib.hid fun w h => by
    have hr : (⟨10, [letterE 97]⟩ : Sto).rsum T.mc 1 0 1 = 3 := by rw [hmc]; decide
    have ht : ((⟨10, [letterE 97]⟩ : Sto).txt 1).length = 1 := by decide
    have hc := count_c (lv := lv1) (m := m) (S := ⟨10, [letterE 97]⟩) (T := T) (id := 1) (s := 0) (n := 1) HS1.out (hok _) hbk (by decide) (by rw [ht]; omega) w (by rw [hs]; exact h)
    rw [hr] at hc
    refine Calls.mono hc ?_
    rintro e w' ⟨T', he, _, _, hst⟩
    exact ⟨T', by rw [he]; rfl, hst⟩
  clear HNEW hmc hs hbk hes hok
  go_wp2_with (first | (go_at_call 12; with_reducible refine Calls.mono (HCNT.out _ (sep_mk (H.get (A := tabA T) pk) (H.get (A := stoA p lv1 m ⟨10, [letterE 97]⟩) pk) (H.apart2 (A := tabA T) (B := stoA p lv1 m ⟨10, [letterE 97]⟩) pk pk))) ?_; rintro e wc ⟨T2, rfl, hb⟩; replace H := H.pick (A := tabA T) pk; replace H := H.call hb; clear hb; simp only [List.cons_append, List.nil_append] at H))
  go_ret
  exact ⟨rfl, H.nix⟩
end Go.Proofs.Ytijnhpaafhcndaa
end
section
namespace Go.Proofs.Ytijnhpaafhcndaa
open Go.RowKit Go.Maps
attribute [local go_sem] InGr
set_option maxHeartbeats 4000000
set_option maxRecDepth 100000
set_option linter.unusedSimpArgs false
set_option linter.unusedVariables false
theorem St.apartK {w0 w : World} {M : List Nat} {L R K R' : List As} {A B : As} (h : St w0 M L w) (k : Ks w0 M K) (hp : Pick L A R) (hq : Pick K B R') : ∀ b ∈ A.fp, b ∉ B.fp := by
  have := h.sepK k hp hq
  rw [sep_ho] at this
  exact this.2.2
theorem results_tmp4 {fn : Func} {t u v x : Tmp} (h : fn.results = #[.tmp t, .tmp u, .tmp v, .tmp x]) (tmps : Array Value) (P : Program) (w : World) :
    (results fn tmps).run P w = .ok (.tuple #[tmps.getD t undef, tmps.getD u undef, tmps.getD v undef, tmps.getD x undef]) w := by
  simp [results, h]
def stoOf (ms : List Mk) : Sto := (scr 1000 ms ms.length).1
def idsOf (ms : List Mk) : List Nat := (scr 1000 ms ms.length).2
def idOf (ms : List Mk) (N : Int) : Nat := (idsOf ms).getD (pickN N (idsOf ms).length) 0
theorem idOf_le {ms : List Mk} (hf : ∀ m ∈ ms, m.Fits) (N : Int) : (stoOf ms).Ok ∧ idOf ms N ≤ (stoOf ms).list.length ∧ (idsOf ms)[pickN N (idsOf ms).length]? = some (idOf ms N) ∧ (idsOf ms).length = ms.length + 1 := by
  have hs := scr_ok (most := 1000) (by omega) hf ms.length (Nat.le_refl _)
  have hc : (idsOf ms).length = ms.length + 1 := hs.cnt
  have hp : pickN N (idsOf ms).length < (idsOf ms).length := pickN_lt (by omega)
  have he : (idsOf ms)[pickN N (idsOf ms).length]? = some (idOf ms N) := by
    unfold idOf
    rw [List.getD_eq_getElem?_getD, List.getElem?_eq_getElem hp]
    rfl
  exact ⟨hs.ok, hs.mem _ (List.mem_of_getElem? he), he, hc⟩
def BegunPost (R : Raw) (ms : List Mk) (N : Int) (w : World) (e : Ending) (w' : World) : Prop :=
  ∃ T m lv, e = .returned (.tuple #[.pointer (some ⟨T.p, 0, none⟩), .int .i64 (idOf ms N : Nat), .int .i64 (((stoOf ms).txt (idOf ms N)).length : Nat), .bool true]) ∧ T.mc = R.mc ∧ T.back = false ∧ TabOk (stoOf ms) T ∧ St w [] [tabA T, stoA T.s lv m (stoOf ms)] w'
theorem begun_c {P : PoolT} {cv nv av hv lv : Value} {rvs : List Value} {R : Raw} {c : Nat} {ms : List Mk} {N : Int} (h : RawAt P cv nv av hv rvs R) (hR : R.Snd c) (hms : RowIn P mkL 5 lv ms) (hf : ∀ m ∈ ms, m.Fits) (hl : ms.length ≤ 100) (hN : fits64 N) (w : World) (hp : (poolA P).ho w) :
    Calls Try.prog 10 #[.agg #[.int .i64 R.start, cv, nv, av, hv, lv, .int .i64 N]] w (BegunPost R ms N w) := by
  have H := St.nil w []
  have HK := Ks.one hp
  obtain ⟨hok, hid, hget, hcnt⟩ := idOf_le hf N
  obtain ⟨x, hx⟩ := enAt_some hid
  have htl := Sto.txt_len hok hx
  obtain ⟨hmac, hhit⟩ := h.mac hR
  have hst : ((R.mc.start : Nat) : Int) = R.start := by simp [Raw.mc, Int.toNat_of_nonneg hR.s0]
  have HN := Lib.hid (fun w => new_c 1000 (by omega) 1000 rfl w)
  have HAL := Lib.hid (fun w => alive_c w)
  obtain ⟨a1, c1, rfl, hm1⟩ := h.cls.shape
  obtain ⟨a2, c2, rfl, hm2⟩ := h.next.shape
  obtain ⟨a3, c3, rfl, hm3⟩ := h.acc.shape
  obtain ⟨a4, c4, rfl, hm4⟩ := h.wts.shape
  obtain ⟨a5, c5, rfl, hm5⟩ := hms.shape
  have HBU : Hid (∀ p m w, (stoA p (.slice none 0 0) m ⟨1000, []⟩).ho w → (poolA P).ho w → (∀ b ∈ (stoA p (.slice none 0 0) m ⟨1000, []⟩).fp, b ∉ (poolA P).fp) → Calls Try.prog 26 #[.pointer (some ⟨p, 0, none⟩), .slice a5 ms.length c5] w fun e w' => ∃ g cr lv, e = .returned (.tuple #[.slice (some ⟨g, 0, none⟩) (idsOf ms).length cr, .bool true]) ∧ St w (stoA p (.slice none 0 0) m ⟨1000, []⟩).fp [stoA p lv m (stoOf ms), rowsA encI 32 1 (.slice (some ⟨g, 0, none⟩) (idsOf ms).length cr) (idsOf ms)] w') := Lib.hid fun p m w a b hd => by
    refine Calls.mono (lbuild_c 1000 (by omega) (by omega) hf w a b (fun x hx hm => hd x hm hx) hms) ?_
    rintro e w' ⟨rv, lv, rfl, hs⟩
    obtain ⟨g, cr, rfl, _, _⟩ := rowsA_cases (hs.get (A := rowsA encI 32 1 rv (idsOf ms)) (.there .here)) (by omega)
    exact ⟨g, cr, lv, rfl, hs⟩
  have HNEW : Hid (∀ p w, (poolA P).ho w → Calls Try.prog 28 #[.pointer (some ⟨p, 0, none⟩), .agg #[.int .i64 R.start, .slice a1 R.cls.length c1, .slice a2 rvs.length c2, .slice a3 R.acc.length c3], .slice a4 R.wts.length c4, .bool false] w fun e w' => ∃ T, T.mc = R.mc ∧ T.s = p ∧ T.back = false ∧ (∀ S, TabOk S T) ∧ e = .returned (.tuple #[.pointer (some ⟨T.p, 0, none⟩), .nilIface]) ∧ St w [] [tabA T] w') := Lib.hid fun p w hp => by
    rw [← hst]
    refine Calls.mono (tnew_c p false hR.ok hmac hhit w hp) ?_
    rintro e w' ⟨T, q1, q2, q3, q4, q5, q6, q7⟩
    exact ⟨T, q1, q2, q3, q5, q6, q7⟩
  have HPK : Hid (∀ w, Calls Try.prog 29 #[.int .i64 N, .int .i64 (idsOf ms).length] w fun e w' => e = .returned (.int .i64 (pickN N (idsOf ms).length)) ∧ w' = w) := Lib.hid fun w => pickf_c _ _ _ rfl hN (by omega) (by omega) w
  have HW : Hid (∀ p m lv w, (stoA p lv m (stoOf ms)).ho w → Calls Try.prog 30 #[.pointer (some ⟨p, 0, none⟩), .int .i64 (idOf ms N : Nat)] w fun e w' => e = .returned (.tuple #[.agg #[.int .i64 x.w.len, .int .i64 x.w.lines, .int .i64 x.w.head, .int .i64 x.w.tail, .int .u64 x.w.val, .int .u64 x.w.scale], .nilIface]) ∧ St w [] [] w') := Lib.hid fun p m lv w h => weight_c hx w h
  have HGET := Lib.hid hget
  have HTL := Lib.hid htl
  have hpl := getElem_len hget
  have hil : (idsOf ms).length ≤ 101 := by omega
  clear h hR hms hf hN hp hok hx htl hmac hhit hst hget hm1 hm2 hm3 hm4 hm5 hcnt hl
  unfold BegunPost
  generalize hpk : pickN N (idsOf ms).length = pkN at *
  generalize hii : idOf ms N = id at *
  generalize hids : idsOf ms = ids at *
  generalize hSS : stoOf ms = S at *
  clear hpk hii hids hSS
  go_enter Try.func10, Try.ntmps10
  go_wp2_with (first | refine sL ?_ | (refine sS ?_; clear H; intro _ H) | (refine sB ?_; clear H; intro _ _ H) | (refine sA ?_; clear H; intro _ _ H) | (go_at_call 25; with_reducible refine Calls.mono (HN.out _) ?_; rintro e wc ⟨p, m, rfl, hb⟩; replace H := H.call0 hb; clear hb; simp only [List.cons_append, List.nil_append] at H) | (go_at_call 26; with_reducible refine Calls.mono (HBU.out p m _ (H.get (A := stoA p (.slice none 0 0) m ⟨1000, []⟩) pk) (H.known HK pk) (H.apartK HK (A := stoA p (.slice none 0 0) m ⟨1000, []⟩) (B := poolA P) pk pk)) ?_; rintro e wc ⟨g, cr, lv1, rfl, hb⟩; replace H := H.pick (A := stoA p (.slice none 0 0) m ⟨1000, []⟩) pk; replace H := H.call hb; clear hb; simp only [List.cons_append, List.nil_append] at H) | (go_at_call 27; with_reducible refine Calls.mono (HAL.out _) ?_; rintro e wc ⟨rfl, hb⟩; replace H := H.grew hb.below; clear hb) | (go_at_call 28; with_reducible refine Calls.mono (HNEW.out p _ (H.known HK pk)) ?_; rintro e wc ⟨T, hmc, hs, hbk, hokT, rfl, hb⟩; replace H := H.call0 hb; clear hb; simp only [List.cons_append, List.nil_append] at H; have HT := Lib.hid (And.intro hmc (And.intro hs (And.intro hbk hokT))); clear hmc hs hbk hokT) | (go_at_call 29; with_reducible refine same (HPK.out _) ?_) | ((with_reducible refine isLoad ?_); refine AtLoad.cel rfl rfl rfl rfl (rowsA_cell1 (H.get (A := rowsA encI 32 1 (.slice (some ⟨g, 0, none⟩) ids.length cr) ids) pk) encI_len HGET.out rfl) ?_; simp only [Act.put, puA, puB, puC]) | (go_at_call 30; with_reducible refine Calls.mono (HW.out p m lv1 _ (H.get (A := stoA p lv1 m S) pk)) ?_; rintro e wc ⟨rfl, hb⟩; replace H := H.grew hb.below; clear hb))
  refine wp_region_h H 18 [] [] (by kernel_rfl) (by kernel_rfl) ?_
  apply Exists.intro
  refine ⟨fun w1 hw1 HX => ?_, fun bs wr Hr => ?_⟩
  · refine sG ?_
    repeat (first | refine sQ ?_ | fail | go_big_quiet_step (fail))
    exact wpQuiet_nil rfl
  clear H
  have H := Hr
  clear Hr
  replace H := sH H; refine sT ?_
  go_wp2_with (first | refine sL ?_ | (refine sS ?_; clear H; intro _ H) | (refine sB ?_; clear H; intro _ _ H) | (refine sA ?_; clear H; intro _ _ H))
  refine bodyPost_ret (results_tmp4 rfl _ _ _) rfl ?_
  obtain ⟨q1, q2, q3, q4⟩ := HT.out
  refine ⟨T, m, lv1, by rw [HTL.out]; rfl, q1, q3, q4 _, ?_⟩
  rw [q2]
  exact (H.pick2 (A := tabA T) (B := stoA p lv1 m S) pk pk).onlyTwo
end Go.Proofs.Ytijnhpaafhcndaa
end
