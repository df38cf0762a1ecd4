/-
  Part 4 of the texts behind the statements of this seat: walks and laws Tt, Ru, Pv, Tu, Ua, Ub, Sg, Uc, Px, Ud, Ue. Conditions: as each states.
-/
import Derived.Test.YtijnhpaafhcndaaBa3
import Derived.Deep.LoopGhost
import Derived.Ground.SlgnProg
import Derived.Shelf.SlicesQ.Reverse
section
namespace Go.Proofs.Ytijnhpaafhcndaa
open Go.RowKit Go.Maps
attribute [local go_sem] InGr
set_option maxHeartbeats 4000000
set_option maxRecDepth 100000
set_option linter.unusedSimpArgs false
set_option linter.unusedVariables false
section
variable {ops : Array Oper} {Q : Exit → Act → World → Prop} {rest : List Oper} {a : Act} {w w0 : World} {o1 : Oper} {dst : Option Tmp} {ty0 : TypeId} {pos : String} {aft : Array Edge} {gd : Option (Nat × Bool)}
theorem run_cut0 {t e : TypeId} (hte : sliceO t = some e) {z : Value} {k bytes : Nat} (hi : infoO e = some (z, k, bytes)) {ad : Option Addr} {n c : Nat} (had : ad = none ∨ ∃ g, ad = some ⟨g, 0, none⟩) (w : World) :
    (Instr.sliceAt t (.slice ad n c) none (some (.int .i64 0)) none).run Try.prog w = .ok (.slice ad 0 c) w := by
  obtain ⟨i, h2, h3, h4, h5⟩ := infoO_ok hi
  have hu := sliceO_ok hte
  have hb : (Instr.sliceBound (Value.int .i64 0) c .sliceAcap).run Try.prog w = .ok 0 w := by
    unfold Instr.sliceBound
    simp [asIntOf]
  rcases had with rfl | ⟨g, rfl⟩
  · simp [Instr.sliceAt, Instr.slice, Instr.sliceBounds, run_underlying hu, sizeOf, typeInfo, h2, Sem.run_bind, Result.andThen, hb]
  · simp [Instr.sliceAt, Instr.slice, Instr.sliceBounds, run_underlying hu, sizeOf, typeInfo, h2, Sem.run_bind, Result.andThen, hb, Addr.add]
def AtCut (P : Program) (ops : Array Oper) (Q : Exit → Act → World → Prop) (o : Oper) (_ : TypeId) (_ _ : Operand) (rest : List Oper) (a : Act) (w : World) : Prop := wpList P ops Q (o :: rest) a w
theorem isCut {P : Program} {t : TypeId} {x y : Operand} (h : AtCut P ops Q ⟨dst, .slice t x none (some y) none, ty0, pos, aft, gd⟩ t x y rest a w) : wpList P ops Q (⟨dst, .slice t x none (some y) none, ty0, pos, aft, gd⟩ :: rest) a w := h
theorem AtCut.zero {t e : TypeId} {x y : Operand} (hw : Region.wanted o1 (yielded ops a.tmps) = true) (ho : o1.op = .slice t x none (some y) none) (hte : sliceO t = some e) {z : Value} {k bytes : Nat} (hi : infoO e = some (z, k, bytes)) {ad : Option Addr} {n c : Nat} (hx : a.eval x = .slice ad n c) (hy : a.eval y = .int .i64 0) (had : ad = none ∨ ∃ g, ad = some ⟨g, 0, none⟩)
    (h : wpList Try.prog ops Q rest (a.put o1.dst (.slice ad 0 c)) w) : AtCut Try.prog ops Q o1 t x y rest a w :=
  wpList_step fun _ hK => by
    rw [if_pos hw]
    unfold Oper.wp execOp
    simp only [ho, hx, hy, Option.map_none, Option.map_some, Sem.run_bind, run_cut0 hte hi had, Result.andThen_ok, Sem.run_pure]
    exact hK _ _ h
theorem AtAppend.rows {α : Type} {enc : α → List Value} {t e : TypeId} {x y : Operand} {M : List Nat} {L R : List As} (H : St w0 M L w) (hw : Region.wanted o1 (yielded ops a.tmps) = true) (ho : o1.op = .call ⟨.builtin .append, #[x, y], #[t, t]⟩) (hte : sliceO t = some e) {z : Value} {k bytes : Nat} (hi : infoO e = some (z, k, bytes))
    (hz : z.cells.size = k) (hk0 : 0 < k) (hb0 : 0 < bytes) {v : Value} (hx : evalO a x = some v) {xs : List α} (hp : Pick L (rowsA enc e k v xs) R) {u : Value} (hy : evalO a y = some u) {ys : List α} (hu : (rowsA enc e k u ys).ho w) (hk : ∀ x, (enc x).length = k) (h1 : ∀ x, ∀ u ∈ enc x, u.oneCell' = true) (hb : (xs.length + ys.length) * bytes ≤ 140737488355328)
    (h : ∀ ad cp w', St w0 M (rowsA enc e k (.slice ad (xs.length + ys.length) cp) (xs ++ ys) :: R) w' → wpList Try.prog ops Q rest (a.put o1.dst (.slice ad (xs.length + ys.length) cp)) w') : AtAppend Try.prog ops Q o1 t x y rest a w :=
  wpList_step fun _ hK => by
    rw [if_pos hw]
    have H' := H.pick hp
    obtain ⟨v', w', hr, hst⟩ := run_append_rows (ty := o1.type) hte hi hz hk0 hb0 (H'.ho _ List.mem_cons_self) hu hk h1 hb
    unfold Oper.wp execOp
    simp only [ho, resolve, invoke, builtin, Sem.run_bind, Sem.run_pure, Result.andThen_ok, List.map_toArray, List.map_cons, List.map_nil, evalO_eq hx, evalO_eq hy, hr]
    obtain ⟨ad, cp, rfl, _⟩ := rowsA_shape (hst.ho _ List.mem_cons_self)
    have hst2 := H'.call hst
    simp only [List.length_append] at hst2 ⊢
    exact hK _ _ (h ad cp w' hst2)
end
theorem rowsA_zero {α : Type} {enc : α → List Value} {e k n c : Nat} {ad : Option Addr} {xs : List α} {w : World} (h : (rowsA enc e k (.slice ad n c) xs).ho w) : (rowsA enc e k (.slice ad 0 c) ([] : List α)).ho w := by
  rw [rowsA_ho] at h ⊢
  rcases h.2 with ⟨h', hn⟩ | ⟨g', cap, cur, h', h3, h4, h5, h6, h7, h8⟩
  · injection h' with e1 e2 e3
    subst e1 e3
    exact ⟨by simp [flatG], .inl ⟨rfl, rfl⟩⟩
  · injection h' with e1 e2 e3
    subst e1 e3
    exact ⟨by simp [flatG], .inr ⟨g', c, cur, rfl, h3, h4, Nat.zero_le _, h6, h7, by simp [flatG]⟩⟩
theorem rowsA_ad {α : Type} {enc : α → List Value} {e k n c : Nat} {ad : Option Addr} {xs : List α} {w : World} (h : (rowsA enc e k (.slice ad n c) xs).ho w) : ad = none ∨ ∃ g, ad = some ⟨g, 0, none⟩ := by
  rw [rowsA_ho] at h
  rcases h.2 with ⟨h', _⟩ | ⟨g', cap, cur, h', _⟩
  · injection h' with e1; exact .inl e1
  · injection h' with e1; exact .inr ⟨g', e1⟩
theorem St.zero {α : Type} {enc : α → List Value} {e k n c : Nat} {ad : Option Addr} {xs : List α} {w0 w : World} {M : List Nat} {R : List As} (h : St w0 M (rowsA enc e k (.slice ad n c) xs :: R) w) : St w0 M (rowsA enc e k (.slice ad 0 c) ([] : List α) :: R) w :=
  h.conv (by rw [rowsA_fp', rowsA_fp']; cases ad <;> rfl) rowsA_zero
theorem wlen_c {p m : Nat} {lv : Value} {S : Sto} (hS : S.Ok) {i : Nat} (hi : i ≤ S.list.length) : ∃ a1 a2 a3 a4 a5 : Nat, ∀ w, (stoA p lv m S).ho w → Calls Try.prog 30 #[.pointer (some ⟨p, 0, none⟩), .int .i64 (i : Int)] w fun e w' => e = .returned (.tuple #[.agg #[.int .i64 (S.txt i).length, .int .i64 a1, .int .i64 a2, .int .i64 a3, .int .u64 a4, .int .u64 a5], .nilIface]) ∧ St w [] [] w' := by
  obtain ⟨x, hx⟩ := enAt_some hi
  refine ⟨x.w.lines, x.w.head, x.w.tail, x.w.val, x.w.scale, fun w h => ?_⟩
  rw [S.txt_len hS hx]
  exact weight_c hx w h
theorem txt_max {S : Sto} (hS : S.Ok) {i : Nat} (hi : i ≤ S.list.length) : (S.txt i).length ≤ 1152921504606846976 := by
  cases i with
  | zero => rw [S.txt_zero]; simp
  | succ i =>
    obtain ⟨x, hx⟩ : ∃ x, S.list[i]? = some x := ⟨_, List.getElem?_eq_getElem (by omega)⟩
    rw [(S.txt_ok hS i x hx).1]
    have := maxT_eq
    cases hS.ents i x hx with
    | letter b hb => simp [letterE, letter_len]
    | pair l r y z hl hr hy hz h => simp only [pairE, Wt.join]; omega
    | power l k y hl hy hk h => simp only [powerE, Wt.rep]; omega
theorem piece_case2 {S : Sto} {K : Nat → Prop} (hS : S.Ok) (hcl : S.Closed K) {pi pa pn : Nat} (h1 : 1 ≤ pi) (hok : PcOk S K ⟨pi, pa, pn⟩) (h0 : 0 < pn) (hlt : pn < (S.txt pi).length) :
    ∃ x, S.list[pi - 1]? = some x ∧ ((∃ L R, x.r = ⟨2, 0, L, R, 0⟩ ∧ PairCase S K pi pa pn L R) ∨ (∃ L k, x.r = ⟨3, 0, L, 0, k⟩ ∧ PowerCase S K pi pa pn L k)) := by
  obtain ⟨i, rfl⟩ : ∃ i, pi = i + 1 := ⟨pi - 1, by omega⟩
  exact piece_case hS hcl hok h0 hlt
theorem rule_lit {p m : Nat} {lv : Value} {S : Sto} {pi : Nat} {x : En} {r : Rl} (h1 : 1 ≤ pi) (hx : S.list[pi - 1]? = some x) (hr : x.r = r) (w : World) (h : (stoA p lv m S).ho w) : Calls Try.prog 45 #[.pointer (some ⟨p, 0, none⟩), .int .i64 (pi : Int)] w fun e w' => e = .returned (.tuple #[.agg #[.int .i64 r.kind, .int .u8 r.letter, .int .i64 r.left, .int .i64 r.right, .int .i64 r.times], .nilIface]) ∧ St w [] [] w' := by
  subst hr
  exact rule_c hx _ (by omega) w h
def OfPost (S : Sto) (K : Nat → Prop) (goal : List Nat) (w : World) (e : Ending) (w' : World) : Prop :=
  ∃ ad c ps, e = .returned (.tuple #[.slice ad ps.length c, .nilIface]) ∧ textP S ps = goal ∧ (∀ t ∈ ps, PtOk S K t) ∧ ps.length ≤ 6 * S.list.length + 6 ∧ St w [] [rowsA encT 135 3 (.slice ad ps.length c) ps] w'
def OfRel (S : Sto) (K : Nat → Prop) (goal : List Nat) (w : World) (k : Nat) (v10 v11 v12 : Value) (wr : World) : Prop :=
  ∃ ps nx st, PInv S K goal ps st k ∧ St w [] [rowsA encT 135 3 v10 ps, rowsA encC 173 3 v11 nx, rowsA encC 173 3 v12 st] wr
theorem of_c {p m : Nat} {lv : Value} {S : Sto} {K : Nat → Prop} (hS : S.Ok) (hcl : S.Closed K) {i s n : Nat} (hi : i ≤ S.list.length) (hk : i = 0 ∨ K i) (hf : s + n ≤ (S.txt i).length) (w : World) (h : (stoA p lv m S).ho w) :
    Calls Try.prog 69 #[.pointer (some ⟨p, 0, none⟩), .int .i64 i, .int .i64 s, .int .i64 n] w (OfPost S K (S.pcTxt ⟨i, s, n⟩) w) := by
  have HK := Ks.one h
  have H := St.nil w []
  have HSO := Lib.hid hS
  have HCL := Lib.hid hcl
  have HL1 := Lib.hid hS.len
  have HL2 := Lib.hid hS.most
  obtain ⟨d0, hinv⟩ := PInv.first (K := K) hi hk hf
  generalize hgoal : S.pcTxt ⟨i, s, n⟩ = goal at *
  have HI0 := Lib.hid hinv
  clear h hS hcl hinv hgoal
  go_enter Try.func69, Try.ntmps69
  go_wp2_with (first | refine sL ?_ | (refine sS ?_; clear H; intro _ H) | (refine sA ?_; clear H; intro _ _ H) | ((with_reducible refine isSlice ?_); refine AtSlice.one H rfl rfl rfl rfl rfl rfl rfl rfl rfl ?_; clear H; intro b _ H; simp only [Act.put, puA, puB, puC]))
  replace H := H.conv (A' := rowsA encC 173 3 (.slice (some ⟨b, 0, none⟩) 1 1) [⟨i, s, n⟩]) (by rw [rowsA_fp', blk_fp]; rfl) fun hb => rowsA_of_blk (xs := [(⟨i, s, n⟩ : Pc)]) (by rw [blk_ho] at hb; exact hb) (by simp [maxLen]) (by simp [flatG, encC]) encC_len
  replace H := H.empty (A := rowsA encC 173 3 (.slice none 0 0) []) (rowsA_nil _) (by rw [rowsA_fp']; rfl)
  replace H := H.empty (A := rowsA encT 135 3 (.slice none 0 0) []) (rowsA_nil _) (by rw [rowsA_fp']; rfl)
  go_loopg [10, 11, 12] d0 (fun k v10 v11 v12 wr => OfRel S K goal w k v10 v11 v12 wr)
  case atStart => exact ⟨[], [], [⟨i, s, n⟩], HI0.out, H⟩
  case round =>
    clear H HI0
    obtain ⟨ps, nx, st0, hinv, H⟩ := hrel
    obtain ⟨ad1, c1, rfl, hps⟩ := rowsA_shape (H.get (A := rowsA encT 135 3 u10 ps) pk)
    obtain ⟨ad2, c2, rfl, _⟩ := rowsA_shape (H.get (A := rowsA encC 173 3 u11 nx) pk)
    have HAD := Lib.hid (rowsA_ad (H.get (A := rowsA encC 173 3 (.slice ad2 nx.length c2) nx) pk))
    rcases List.eq_nil_or_concat st0 with rfl | ⟨st, ⟨pi, pa, pn⟩, rfl⟩
    · obtain ⟨ad3, c3, rfl, _⟩ := rowsA_shape (H.get (A := rowsA encC 173 3 u12 []) pk)
      have HINV := Lib.hid hinv
      clear hinv
      go_wp2_with (first | refine sL ?_ | (refine sS ?_; clear H; intro _ H) | (refine sA ?_; clear H; intro _ _ H))
      go_ret2
      have h9 := HINV.out
      have ht := h9.text
      simp only [List.reverse_nil, textC, List.map_nil, List.flatten_nil, List.append_nil] at ht
      exact ⟨ad1, c1, ps, rfl, ht, h9.pts, by have := h9.bound; omega, (H.pick (A := rowsA encT 135 3 (.slice ad1 ps.length c1) ps) pk).onlyHead⟩
    · simp only [List.concat_eq_append] at H hinv
      obtain ⟨g3, c3, rfl, hgc3, hcm3⟩ := rowsA_cases (H.get (A := rowsA encC 173 3 u12 (st ++ [⟨pi, pa, pn⟩])) pk) (by simp)
      simp only [List.length_append, List.length_singleton] at H hgc3
      unfold maxLen at hcm3
      have hpok := hinv.pcs ⟨pi, pa, pn⟩ (by simp)
      have hple : pi ≤ S.list.length := hpok.le
      have hpfit : pa + pn ≤ (S.txt pi).length := hpok.fits
      have hpmax := txt_max HSO.out hple
      have hstl := hinv.len
      have hbd := hinv.bound
      have hl1 := HL1.out
      have hl2 := HL2.out
      simp only [List.length_append, List.length_singleton] at hstl
      have hlast : (st ++ [(⟨pi, pa, pn⟩ : Pc)])[st.length]? = some ⟨pi, pa, pn⟩ := by simp
      have HLAST := Lib.hid hlast
      have HINV := Lib.hid hinv
      have HPOK := Lib.hid hpok
      have hstb : st.length ≤ 7000000 := by omega
      have hpsb : ps.length ≤ 7000000 := by omega
      have hnxl : nx.length ≤ nx.length := Nat.le_refl _
      generalize hsl : st.length = sl at *
      generalize hpl : ps.length = pl at *
      clear hlast hinv hpok hstl hbd hl1 hl2 hps
      by_cases hz : pn = 0 ∨ pi = 0
      · have hskip : S.pcTxt ⟨pi, pa, pn⟩ = [] := by
          rcases hz with h | h
          · exact S.pcTxt_nul _ h
          · exact S.pcTxt_zero _ h
        obtain ⟨d', hd', hinv'⟩ := HINV.out.skip hskip
        have HD := Lib.hid (And.intro hd' hinv')
        clear hd' hinv' hskip
        have d_i0 : pi = 0 → ((pi : Int) == 0) = true := fun h => by simp [h]
        by_cases hpn : pn = 0
        · subst hpn
          go_wp2_with (first | refine sL ?_ | (refine sS ?_; clear H; intro _ H) | (refine sA ?_; clear H; intro _ _ H) | ((with_reducible refine isLoad ?_); refine AtLoad.rngT (vs := [.int .i64 pi, .int .i64 pa, .int .i64 (0 : Nat)]) rfl rfl rfl (H.rngL (enc := encC) (xs := st ++ [⟨pi, pa, 0⟩]) pk encC_len HLAST.out) rfl ?_; replace H := (H.pick (A := rowsA encC 173 3 (.slice (some ⟨g3, 0, none⟩) (sl + 1) c3) (st ++ [⟨pi, pa, 0⟩])) pk).cut encC_len hsl; simp only [Act.put, puA, puB, puC]))
          have HH := Lib.hid (St.only3 H (A := rowsA encT 135 3 (.slice ad1 pl c1) ps) (B := rowsA encC 173 3 (.slice ad2 nx.length c2) nx) (C := rowsA encC 173 3 (.slice (some ⟨g3, 0, none⟩) sl c3) st) pk pk pk)
          go_roundg d'
          case measure => exact HD.out.1
          case rel => exact ⟨ps, nx, st, HD.out.2, HH.out⟩
        · have d_n : decide ((pn : Int) ≤ 0) = false := by simp; omega
          have d_i := d_i0 (by rcases hz with h | h; exact absurd h hpn; exact h)
          clear hz
          go_wp2_with (first | refine sL ?_ | (refine sS ?_; clear H; intro _ H) | (refine sA ?_; clear H; intro _ _ H) | ((with_reducible refine isLoad ?_); refine AtLoad.rngT (vs := [.int .i64 pi, .int .i64 pa, .int .i64 pn]) rfl rfl rfl (H.rngL (enc := encC) (xs := st ++ [⟨pi, pa, pn⟩]) pk encC_len HLAST.out) rfl ?_; replace H := (H.pick (A := rowsA encC 173 3 (.slice (some ⟨g3, 0, none⟩) (sl + 1) c3) (st ++ [⟨pi, pa, pn⟩])) pk).cut encC_len hsl; simp only [Act.put, puA, puB, puC]))
          have HH := Lib.hid (St.only3 H (A := rowsA encT 135 3 (.slice ad1 pl c1) ps) (B := rowsA encC 173 3 (.slice ad2 nx.length c2) nx) (C := rowsA encC 173 3 (.slice (some ⟨g3, 0, none⟩) sl c3) st) pk pk pk)
          go_roundg d'
          case measure => exact HD.out.1
          case rel => exact ⟨ps, nx, st, HD.out.2, HH.out⟩
      · have d_n : decide ((pn : Int) ≤ 0) = false := by simp; omega
        have d_i : ((pi : Int) == 0) = false := by simp; omega
        have hn0 : 0 < pn := by omega
        have hi1 : 1 ≤ pi := by omega
        obtain ⟨a1, a2, a3, a4, a5, hw1⟩ := wlen_c (p := p) (m := m) (lv := lv) HSO.out hple
        have HW1 := Lib.hid hw1
        clear hw1 hz
        generalize hln : (S.txt pi).length = ln at *
        by_cases hge : ln ≤ pn
        · obtain ⟨ht, hok⟩ := full_part HPOK.out hi1 (by simp only; rw [hln]; exact hge)
          obtain ⟨d', hd', hinv'⟩ := HINV.out.take ht hok
          have HD := Lib.hid (And.intro hd' hinv')
          clear hd' hinv' ht hok
          go_wp2_with (first | refine sL ?_ | (refine sS ?_; clear H; intro _ H) | (refine sA ?_; clear H; intro _ _ H) | ((with_reducible refine isLoad ?_); refine AtLoad.rngT (vs := [.int .i64 pi, .int .i64 pa, .int .i64 pn]) rfl rfl rfl (H.rngL (enc := encC) (xs := st ++ [⟨pi, pa, pn⟩]) pk encC_len HLAST.out) rfl ?_; replace H := (H.pick (A := rowsA encC 173 3 (.slice (some ⟨g3, 0, none⟩) (sl + 1) c3) (st ++ [⟨pi, pa, pn⟩])) pk).cut encC_len hsl; simp only [Act.put, puA, puB, puC]) | (go_at_call 30; with_reducible refine Calls.mono (HW1.out _ (H.known HK pk)) ?_; rintro e wc ⟨rfl, hb⟩; replace H := H.grew hb.below; clear hb) | ((with_reducible refine isSlice ?_); refine AtSlice.one H rfl rfl rfl rfl rfl rfl rfl rfl rfl ?_; clear H; intro b _ H; simp only [Act.put, puA, puB, puC]) | ((with_reducible refine isAppend ?_); refine AtAppend.go (enc := encT) H rfl rfl rfl rfl rfl (by decide) (by decide) rfl pk rfl (H.at pk) [⟨pi, 0, 1⟩] rfl (by simp [flatG, encT]) encT_len encT_one (by simp; omega) ?_; clear H; intro ad9 cp9 _ H; simp only [Act.put, puA, puB, puC]))
          have HH := Lib.hid (St.only3 H (A := rowsA encT 135 3 (.slice ad9 (ps.length + 1) cp9) (ps ++ [⟨pi, 0, 1⟩])) (B := rowsA encC 173 3 (.slice ad2 nx.length c2) nx) (C := rowsA encC 173 3 (.slice (some ⟨g3, 0, none⟩) sl c3) st) pk pk pk)
          go_roundg d'
          case measure => exact HD.out.1
          case rel => exact ⟨_, nx, st, HD.out.2, by have h := HH.out; rw [hpl] at h; exact h⟩
        · obtain ⟨x, hx, hcase⟩ := piece_case2 HSO.out HCL.out hi1 HPOK.out hn0 (by rw [hln]; omega)
          have d_ge : decide (ln ≤ pn) = false := by simp; omega
          clear hge
          rcases hcase with ⟨L, R, hr, hp⟩ | ⟨L, k, hr, hp⟩
          · obtain ⟨b1, b2, b3, b4, b5, hw2⟩ := wlen_c (p := p) (m := m) (lv := lv) HSO.out hp.lo1
            have hlmax := txt_max HSO.out hp.lo1
            have HRU := Lib.hid (show ∀ w, (stoA p lv m S).ho w → Calls Try.prog 45 #[.pointer (some ⟨p, 0, none⟩), .int .i64 (pi : Int)] w fun e w' => e = .returned (.tuple #[.agg #[.int .i64 (2 : Int), .int .u8 (0 : Int), .int .i64 L, .int .i64 R, .int .i64 (0 : Int)], .nilIface]) ∧ St w [] [] w' from fun w h => rule_lit hi1 hx hr w h)
            have HW2 := Lib.hid hw2
            have HP := Lib.hid hp
            clear hw2 hp hx hr
            by_cases hle : (S.txt L).length ≤ pa
            · have hc := HP.out.hi hle
              generalize (S.txt L).length = ll at *
              generalize hs' : pa - ll = s' at *
              obtain ⟨d', hd', hinv'⟩ := HINV.out.cut hc.text hc.ok hc.cost
              have HD := Lib.hid (And.intro hd' hinv')
              have HPP := Lib.hid (show ∀ w, (rowsA encC 173 3 (.slice ad2 0 c2) ([] : List Pc)).ho w → Calls Try.prog 95 #[.slice ad2 0 c2, .agg #[.int .i64 (2 : Int), .int .u8 (0 : Int), .int .i64 L, .int .i64 R, .int .i64 (0 : Int)], .agg #[.int .i64 pi, .int .i64 pa, .int .i64 pn], .int .i64 ll] w fun e w' => ∃ ad c, e = .returned (.slice ad 1 c) ∧ St w (rowsA encC 173 3 (.slice ad2 0 c2) ([] : List Pc)).fp [rowsA encC 173 3 (.slice ad 1 c) ([⟨R, s', pn⟩] : List Pc)] w' from fun w h => ppair_hi pi L R pa pn ll s' hle hs'.symm (by omega) w h)
              have HRV := Lib.hid (show ∀ ad c w, (rowsA encC 173 3 (.slice ad 1 c) ([⟨R, s', pn⟩] : List Pc)).ho w → Calls Try.prog 98 #[.slice ad 1 c] w fun e w' => e = .returned (.tuple #[]) ∧ St w (rowsA encC 173 3 (.slice ad 1 c) ([⟨R, s', pn⟩] : List Pc)).fp [rowsA encC 173 3 (.slice ad 1 c) ([⟨R, s', pn⟩] : List Pc)] w' from fun ad c w h => rev_c (xs := [⟨R, s', pn⟩]) rfl (by simp) w h)
              clear hd' hinv' hc hs' hle
              go_wp2_with (first | refine sL ?_ | (refine sS ?_; clear H; intro _ H) | (refine sA ?_; clear H; intro _ _ H) | ((with_reducible refine isLoad ?_); refine AtLoad.rngT (vs := [.int .i64 pi, .int .i64 pa, .int .i64 pn]) rfl rfl rfl (H.rngL (enc := encC) (xs := st ++ [⟨pi, pa, pn⟩]) pk encC_len HLAST.out) rfl ?_; replace H := (H.pick (A := rowsA encC 173 3 (.slice (some ⟨g3, 0, none⟩) (sl + 1) c3) (st ++ [⟨pi, pa, pn⟩])) pk).cut encC_len hsl; simp only [Act.put, puA, puB, puC]) | (go_at_call 30; first | (with_reducible refine Calls.mono (HW1.out _ (H.known HK pk)) ?_; rintro e wc ⟨rfl, hb⟩; replace H := H.grew hb.below; clear hb) | (with_reducible refine Calls.mono (HW2.out _ (H.known HK pk)) ?_; rintro e wc ⟨rfl, hb⟩; replace H := H.grew hb.below; clear hb)) | (go_at_call 45; with_reducible refine Calls.mono (HRU.out _ (H.known HK pk)) ?_; rintro e wc ⟨rfl, hb⟩; replace H := H.grew hb.below; clear hb) | ((with_reducible refine isCut ?_); refine AtCut.zero rfl rfl rfl rfl rfl rfl HAD.out ?_; replace H := (H.pick (A := rowsA encC 173 3 (.slice ad2 nx.length c2) nx) pk).zero; simp only [Act.put, puA, puB, puC]) | (go_at_call 95; with_reducible refine Calls.mono (HPP.out _ (H.get (A := rowsA encC 173 3 (.slice ad2 0 c2) []) pk)) ?_; rintro e wc ⟨ad5, c5, rfl, hb⟩; replace H := H.pick (A := rowsA encC 173 3 (.slice ad2 0 c2) []) pk; replace H := H.call hb; clear hb; simp only [List.cons_append, List.nil_append] at H) | (go_at_call 98; with_reducible refine Calls.mono (HRV.out _ _ _ (H.get (A := rowsA encC 173 3 (.slice ad5 1 c5) [⟨R, s', pn⟩]) pk)) ?_; rintro e wc ⟨rfl, hb⟩; replace H := H.pick (A := rowsA encC 173 3 (.slice ad5 1 c5) [⟨R, s', pn⟩]) pk; replace H := H.call hb; clear hb; simp only [List.cons_append, List.nil_append] at H) | ((with_reducible refine isAppend ?_); refine AtAppend.rows (enc := encC) (xs := st) (ys := [⟨R, s', pn⟩]) H rfl rfl rfl rfl rfl (by decide) (by decide) rfl pk rfl (H.get (A := rowsA encC 173 3 (.slice ad5 1 c5) [⟨R, s', pn⟩]) pk) encC_len encC_one (by simp; omega) ?_; clear H; intro ad9 cp9 _ H; simp only [hsl, List.length_cons, List.length_nil, Nat.zero_add, Nat.add_zero, Nat.reduceAdd, List.append_nil] at H; simp only [Act.put, puA, puB, puC]))
              have HH := Lib.hid (St.only3 H (A := rowsA encT 135 3 (.slice ad1 pl c1) ps) (B := rowsA encC 173 3 (.slice ad5 1 c5) [⟨R, s', pn⟩]) (C := rowsA encC 173 3 (.slice ad9 (sl + 1) cp9) (st ++ [⟨R, s', pn⟩])) pk pk pk)
              go_roundg d'
              case measure => exact HD.out.1
              case rel =>
                try simp only [hsl, List.length_cons, List.length_nil, Nat.zero_add, Nat.add_zero, Nat.reduceAdd]
                exact ⟨ps, [⟨R, s', pn⟩], st ++ [⟨R, s', pn⟩], HD.out.2, HH.out⟩
            · obtain ⟨n', hn'⟩ : ∃ n', n' = min pn ((S.txt L).length - pa) := ⟨_, rfl⟩
              have hc := HP.out.lo (by omega) n' hn'
              generalize (S.txt L).length = ll at *
              generalize hm' : pn - n' = m' at *
              obtain ⟨d', hd', hinv'⟩ := HINV.out.cut hc.text hc.ok hc.cost
              have HD := Lib.hid (And.intro hd' hinv')
              have HPP := Lib.hid (show ∀ w, (rowsA encC 173 3 (.slice ad2 0 c2) ([] : List Pc)).ho w → Calls Try.prog 95 #[.slice ad2 0 c2, .agg #[.int .i64 (2 : Int), .int .u8 (0 : Int), .int .i64 L, .int .i64 R, .int .i64 (0 : Int)], .agg #[.int .i64 pi, .int .i64 pa, .int .i64 pn], .int .i64 ll] w fun e w' => ∃ ad c, e = .returned (.slice ad 2 c) ∧ St w (rowsA encC 173 3 (.slice ad2 0 c2) ([] : List Pc)).fp [rowsA encC 173 3 (.slice ad 2 c) ([⟨L, pa, n'⟩, ⟨R, 0, m'⟩] : List Pc)] w' from fun w h => ppair_lo pi L R pa pn ll n' m' (by omega) hn' hm'.symm (by omega) (by omega) w h)
              have HRV := Lib.hid (show ∀ ad c w, (rowsA encC 173 3 (.slice ad 2 c) ([⟨L, pa, n'⟩, ⟨R, 0, m'⟩] : List Pc)).ho w → Calls Try.prog 98 #[.slice ad 2 c] w fun e w' => e = .returned (.tuple #[]) ∧ St w (rowsA encC 173 3 (.slice ad 2 c) ([⟨L, pa, n'⟩, ⟨R, 0, m'⟩] : List Pc)).fp [rowsA encC 173 3 (.slice ad 2 c) ([⟨R, 0, m'⟩, ⟨L, pa, n'⟩] : List Pc)] w' from fun ad c w h => rev_c (xs := [⟨L, pa, n'⟩, ⟨R, 0, m'⟩]) rfl (by simp) w h)
              clear hd' hinv' hc hm' hle hn'
              go_wp2_with (first | refine sL ?_ | (refine sS ?_; clear H; intro _ H) | (refine sA ?_; clear H; intro _ _ H) | ((with_reducible refine isLoad ?_); refine AtLoad.rngT (vs := [.int .i64 pi, .int .i64 pa, .int .i64 pn]) rfl rfl rfl (H.rngL (enc := encC) (xs := st ++ [⟨pi, pa, pn⟩]) pk encC_len HLAST.out) rfl ?_; replace H := (H.pick (A := rowsA encC 173 3 (.slice (some ⟨g3, 0, none⟩) (sl + 1) c3) (st ++ [⟨pi, pa, pn⟩])) pk).cut encC_len hsl; simp only [Act.put, puA, puB, puC]) | (go_at_call 30; first | (with_reducible refine Calls.mono (HW1.out _ (H.known HK pk)) ?_; rintro e wc ⟨rfl, hb⟩; replace H := H.grew hb.below; clear hb) | (with_reducible refine Calls.mono (HW2.out _ (H.known HK pk)) ?_; rintro e wc ⟨rfl, hb⟩; replace H := H.grew hb.below; clear hb)) | (go_at_call 45; with_reducible refine Calls.mono (HRU.out _ (H.known HK pk)) ?_; rintro e wc ⟨rfl, hb⟩; replace H := H.grew hb.below; clear hb) | ((with_reducible refine isCut ?_); refine AtCut.zero rfl rfl rfl rfl rfl rfl HAD.out ?_; replace H := (H.pick (A := rowsA encC 173 3 (.slice ad2 nx.length c2) nx) pk).zero; simp only [Act.put, puA, puB, puC]) | (go_at_call 95; with_reducible refine Calls.mono (HPP.out _ (H.get (A := rowsA encC 173 3 (.slice ad2 0 c2) []) pk)) ?_; rintro e wc ⟨ad5, c5, rfl, hb⟩; replace H := H.pick (A := rowsA encC 173 3 (.slice ad2 0 c2) []) pk; replace H := H.call hb; clear hb; simp only [List.cons_append, List.nil_append] at H) | (go_at_call 98; with_reducible refine Calls.mono (HRV.out _ _ _ (H.get (A := rowsA encC 173 3 (.slice ad5 2 c5) [⟨L, pa, n'⟩, ⟨R, 0, m'⟩]) pk)) ?_; rintro e wc ⟨rfl, hb⟩; replace H := H.pick (A := rowsA encC 173 3 (.slice ad5 2 c5) [⟨L, pa, n'⟩, ⟨R, 0, m'⟩]) pk; replace H := H.call hb; clear hb; simp only [List.cons_append, List.nil_append] at H) | ((with_reducible refine isAppend ?_); refine AtAppend.rows (enc := encC) (xs := st) (ys := [⟨R, 0, m'⟩, ⟨L, pa, n'⟩]) H rfl rfl rfl rfl rfl (by decide) (by decide) rfl pk rfl (H.get (A := rowsA encC 173 3 (.slice ad5 2 c5) [⟨R, 0, m'⟩, ⟨L, pa, n'⟩]) pk) encC_len encC_one (by simp; omega) ?_; clear H; intro ad9 cp9 _ H; simp only [hsl, List.length_cons, List.length_nil, Nat.zero_add, Nat.add_zero, Nat.reduceAdd, List.append_nil] at H; simp only [Act.put, puA, puB, puC]))
              have HH := Lib.hid (St.only3 H (A := rowsA encT 135 3 (.slice ad1 pl c1) ps) (B := rowsA encC 173 3 (.slice ad5 2 c5) [⟨R, 0, m'⟩, ⟨L, pa, n'⟩]) (C := rowsA encC 173 3 (.slice ad9 (sl + 2) cp9) (st ++ [⟨R, 0, m'⟩, ⟨L, pa, n'⟩])) pk pk pk)
              go_roundg d'
              case measure => exact HD.out.1
              case rel =>
                try simp only [hsl, List.length_cons, List.length_nil, Nat.zero_add, Nat.add_zero, Nat.reduceAdd]
                exact ⟨ps, [⟨R, 0, m'⟩, ⟨L, pa, n'⟩], st ++ [⟨R, 0, m'⟩, ⟨L, pa, n'⟩], HD.out.2, HH.out⟩
          · obtain ⟨b1, b2, b3, b4, b5, hw2⟩ := wlen_c (p := p) (m := m) (lv := lv) HSO.out hp.lo1
            have hlmax := txt_max HSO.out hp.lo1
            have hlpos := hp.pos
            have HRU := Lib.hid (show ∀ w, (stoA p lv m S).ho w → Calls Try.prog 45 #[.pointer (some ⟨p, 0, none⟩), .int .i64 (pi : Int)] w fun e w' => e = .returned (.tuple #[.agg #[.int .i64 (3 : Int), .int .u8 (0 : Int), .int .i64 L, .int .i64 (0 : Int), .int .i64 k], .nilIface]) ∧ St w [] [] w' from fun w h => rule_lit hi1 hx hr w h)
            have HW2 := Lib.hid hw2
            have HP := Lib.hid hp
            clear hw2 hp hx hr
            have e7 : (((S.txt L).length : Int) == 0) = false := beq_eq_false_iff_ne.2 (by omega)
            by_cases h1 : pa % (S.txt L).length = 0
            · have e1 : (pa : Int) % ((S.txt L).length : Int) = 0 := by rw [show (pa : Int) % ((S.txt L).length : Int) = ((pa % (S.txt L).length : Nat) : Int) from rfl, h1]; rfl
              have e1' : (pa : Int).tmod ((S.txt L).length : Int) = 0 := by rw [tmod_nat, h1]; rfl
              by_cases h2 : pn % (S.txt L).length = 0
              · have e2 : (pn : Int) % ((S.txt L).length : Int) = 0 := by rw [show (pn : Int) % ((S.txt L).length : Int) = ((pn % (S.txt L).length : Nat) : Int) from rfl, h2]; rfl
                have e2' : (pn : Int).tmod ((S.txt L).length : Int) = 0 := by rw [tmod_nat, h2]; rfl
                by_cases h3 : pn = (S.txt L).length
                · have ht := HP.out.one h1 h2 h3
                  generalize (S.txt L).length = ll at *
                  obtain ⟨d', hd', hinv'⟩ := HINV.out.take ht.text ht.ok
                  have HD := Lib.hid (And.intro hd' hinv')
                  have HPP := Lib.hid (show ∀ w, Calls Try.prog 97 #[.agg #[.int .i64 (3 : Int), .int .u8 (0 : Int), .int .i64 L, .int .i64 (0 : Int), .int .i64 k], .agg #[.int .i64 pi, .int .i64 pa, .int .i64 pn], .int .i64 ll] w fun e w' => e = .returned (.agg #[.int .i64 L, .int .i64 (0 : Int), .int .i64 (1 : Int)]) ∧ St w [] [] w' from fun w => pcopies_one pi L k pa pn ll h3 w)
                  have HRV := Lib.hid (show ∀ ad c w, (rowsA encC 173 3 (.slice ad 0 c) ([] : List Pc)).ho w → Calls Try.prog 98 #[.slice ad 0 c] w fun e w' => e = .returned (.tuple #[]) ∧ St w (rowsA encC 173 3 (.slice ad 0 c) ([] : List Pc)).fp [rowsA encC 173 3 (.slice ad 0 c) ([] : List Pc)] w' from fun ad c w h => rev_c (xs := []) rfl (by simp) w h)
                  clear hd' hinv' ht h1 h2 h3
                  go_wp2_with (first | refine sL ?_ | (refine sS ?_; clear H; intro _ H) | (refine sA ?_; clear H; intro _ _ H) | ((with_reducible refine isLoad ?_); refine AtLoad.rngT (vs := [.int .i64 pi, .int .i64 pa, .int .i64 pn]) rfl rfl rfl (H.rngL (enc := encC) (xs := st ++ [⟨pi, pa, pn⟩]) pk encC_len HLAST.out) rfl ?_; replace H := (H.pick (A := rowsA encC 173 3 (.slice (some ⟨g3, 0, none⟩) (sl + 1) c3) (st ++ [⟨pi, pa, pn⟩])) pk).cut encC_len hsl; simp only [Act.put, puA, puB, puC]) | (go_at_call 30; first | (with_reducible refine Calls.mono (HW1.out _ (H.known HK pk)) ?_; rintro e wc ⟨rfl, hb⟩; replace H := H.grew hb.below; clear hb) | (with_reducible refine Calls.mono (HW2.out _ (H.known HK pk)) ?_; rintro e wc ⟨rfl, hb⟩; replace H := H.grew hb.below; clear hb)) | (go_at_call 45; with_reducible refine Calls.mono (HRU.out _ (H.known HK pk)) ?_; rintro e wc ⟨rfl, hb⟩; replace H := H.grew hb.below; clear hb) | ((with_reducible refine isCut ?_); refine AtCut.zero rfl rfl rfl rfl rfl rfl HAD.out ?_; replace H := (H.pick (A := rowsA encC 173 3 (.slice ad2 nx.length c2) nx) pk).zero; simp only [Act.put, puA, puB, puC]) | (go_at_call 97; with_reducible refine Calls.mono (HPP.out _) ?_; rintro e wc ⟨rfl, hb⟩; replace H := H.grew hb.below; clear hb) | ((with_reducible refine isSlice ?_); refine AtSlice.one H rfl rfl rfl rfl rfl rfl rfl rfl rfl ?_; clear H; intro b _ H; simp only [Act.put, puA, puB, puC]) | ((with_reducible refine isAppend ?_); refine AtAppend.go (enc := encT) H rfl rfl rfl rfl rfl (by decide) (by decide) rfl pk rfl (H.at pk) [⟨L, 0, 1⟩] rfl (by simp [flatG, encT]) encT_len encT_one (by simp; omega) ?_; clear H; intro ad8 cp8 _ H; simp only [hpl] at H; simp only [Act.put, puA, puB, puC]) | (go_at_call 98; with_reducible refine Calls.mono (HRV.out _ _ _ (H.get (A := rowsA encC 173 3 (.slice ad2 0 c2) ([] : List Pc)) pk)) ?_; rintro e wc ⟨rfl, hb⟩; replace H := H.pick (A := rowsA encC 173 3 (.slice ad2 0 c2) ([] : List Pc)) pk; replace H := H.call hb; clear hb; simp only [List.cons_append, List.nil_append] at H) | ((with_reducible refine isAppend ?_); refine AtAppend.rows (enc := encC) (xs := st) (ys := ([] : List Pc)) H rfl rfl rfl rfl rfl (by decide) (by decide) rfl pk rfl (H.get (A := rowsA encC 173 3 (.slice ad2 0 c2) ([] : List Pc)) pk) encC_len encC_one (by simp; omega) ?_; clear H; intro ad9 cp9 _ H; simp only [hsl, List.length_cons, List.length_nil, Nat.zero_add, Nat.add_zero, Nat.reduceAdd, List.append_nil] at H; simp only [Act.put, puA, puB, puC]))
                  have HH := Lib.hid (St.only3 H (A := rowsA encT 135 3 (.slice ad8 (pl + 1) cp8) (ps ++ [⟨L, 0, 1⟩])) (B := rowsA encC 173 3 (.slice ad2 0 c2) []) (C := rowsA encC 173 3 (.slice ad9 sl cp9) st) pk pk pk)
                  go_roundg d'
                  case measure => exact HD.out.1
                  case rel =>
                    try simp only [hsl, List.length_cons, List.length_nil, Nat.zero_add, Nat.add_zero, Nat.reduceAdd]
                    exact ⟨_, [], st, HD.out.2, HH.out⟩
                · have ht := HP.out.more h1 h2 h3
                  generalize (S.txt L).length = ll at *
                  obtain ⟨q, hq⟩ : ∃ q, q = pn / ll := ⟨_, rfl⟩
                  rw [← hq] at ht
                  obtain ⟨d', hd', hinv'⟩ := HINV.out.take ht.text ht.ok
                  have HD := Lib.hid (And.intro hd' hinv')
                  have HPP := Lib.hid (show ∀ w, Calls Try.prog 97 #[.agg #[.int .i64 (3 : Int), .int .u8 (0 : Int), .int .i64 L, .int .i64 (0 : Int), .int .i64 k], .agg #[.int .i64 pi, .int .i64 pa, .int .i64 pn], .int .i64 ll] w fun e w' => e = .returned (.agg #[.int .i64 L, .int .i64 pi, .int .i64 q]) ∧ St w [] [] w' from fun w => pcopies_more pi L k pa pn ll q hlpos h3 hq (by omega) w)
                  have HRV := Lib.hid (show ∀ ad c w, (rowsA encC 173 3 (.slice ad 0 c) ([] : List Pc)).ho w → Calls Try.prog 98 #[.slice ad 0 c] w fun e w' => e = .returned (.tuple #[]) ∧ St w (rowsA encC 173 3 (.slice ad 0 c) ([] : List Pc)).fp [rowsA encC 173 3 (.slice ad 0 c) ([] : List Pc)] w' from fun ad c w h => rev_c (xs := []) rfl (by simp) w h)
                  clear hd' hinv' ht h1 h2 h3 hq
                  go_wp2_with (first | refine sL ?_ | (refine sS ?_; clear H; intro _ H) | (refine sA ?_; clear H; intro _ _ H) | ((with_reducible refine isLoad ?_); refine AtLoad.rngT (vs := [.int .i64 pi, .int .i64 pa, .int .i64 pn]) rfl rfl rfl (H.rngL (enc := encC) (xs := st ++ [⟨pi, pa, pn⟩]) pk encC_len HLAST.out) rfl ?_; replace H := (H.pick (A := rowsA encC 173 3 (.slice (some ⟨g3, 0, none⟩) (sl + 1) c3) (st ++ [⟨pi, pa, pn⟩])) pk).cut encC_len hsl; simp only [Act.put, puA, puB, puC]) | (go_at_call 30; first | (with_reducible refine Calls.mono (HW1.out _ (H.known HK pk)) ?_; rintro e wc ⟨rfl, hb⟩; replace H := H.grew hb.below; clear hb) | (with_reducible refine Calls.mono (HW2.out _ (H.known HK pk)) ?_; rintro e wc ⟨rfl, hb⟩; replace H := H.grew hb.below; clear hb)) | (go_at_call 45; with_reducible refine Calls.mono (HRU.out _ (H.known HK pk)) ?_; rintro e wc ⟨rfl, hb⟩; replace H := H.grew hb.below; clear hb) | ((with_reducible refine isCut ?_); refine AtCut.zero rfl rfl rfl rfl rfl rfl HAD.out ?_; replace H := (H.pick (A := rowsA encC 173 3 (.slice ad2 nx.length c2) nx) pk).zero; simp only [Act.put, puA, puB, puC]) | (go_at_call 97; with_reducible refine Calls.mono (HPP.out _) ?_; rintro e wc ⟨rfl, hb⟩; replace H := H.grew hb.below; clear hb) | ((with_reducible refine isSlice ?_); refine AtSlice.one H rfl rfl rfl rfl rfl rfl rfl rfl rfl ?_; clear H; intro b _ H; simp only [Act.put, puA, puB, puC]) | ((with_reducible refine isAppend ?_); refine AtAppend.go (enc := encT) H rfl rfl rfl rfl rfl (by decide) (by decide) rfl pk rfl (H.at pk) [⟨L, pi, q⟩] rfl (by simp [flatG, encT]) encT_len encT_one (by simp; omega) ?_; clear H; intro ad8 cp8 _ H; simp only [hpl] at H; simp only [Act.put, puA, puB, puC]) | (go_at_call 98; with_reducible refine Calls.mono (HRV.out _ _ _ (H.get (A := rowsA encC 173 3 (.slice ad2 0 c2) ([] : List Pc)) pk)) ?_; rintro e wc ⟨rfl, hb⟩; replace H := H.pick (A := rowsA encC 173 3 (.slice ad2 0 c2) ([] : List Pc)) pk; replace H := H.call hb; clear hb; simp only [List.cons_append, List.nil_append] at H) | ((with_reducible refine isAppend ?_); refine AtAppend.rows (enc := encC) (xs := st) (ys := ([] : List Pc)) H rfl rfl rfl rfl rfl (by decide) (by decide) rfl pk rfl (H.get (A := rowsA encC 173 3 (.slice ad2 0 c2) ([] : List Pc)) pk) encC_len encC_one (by simp; omega) ?_; clear H; intro ad9 cp9 _ H; simp only [hsl, List.length_cons, List.length_nil, Nat.zero_add, Nat.add_zero, Nat.reduceAdd, List.append_nil] at H; simp only [Act.put, puA, puB, puC]))
                  have HH := Lib.hid (St.only3 H (A := rowsA encT 135 3 (.slice ad8 (pl + 1) cp8) (ps ++ [⟨L, pi, q⟩])) (B := rowsA encC 173 3 (.slice ad2 0 c2) []) (C := rowsA encC 173 3 (.slice ad9 sl cp9) st) pk pk pk)
                  go_roundg d'
                  case measure => exact HD.out.1
                  case rel =>
                    try simp only [hsl, List.length_cons, List.length_nil, Nat.zero_add, Nat.add_zero, Nat.reduceAdd]
                    exact ⟨_, [], st, HD.out.2, HH.out⟩
              · have hc := HP.out.off h1 h2
                generalize (S.txt L).length = ll at *
                obtain ⟨r, hrr⟩ : ∃ r, r = pn % ll := ⟨_, rfl⟩
                rw [← hrr] at hc
                obtain ⟨n3, hn3⟩ : ∃ n3, n3 = pn - r := ⟨_, rfl⟩
                rw [← hn3] at hc
                have e2 : (pn : Int) % (ll : Int) = (r : Nat) := by rw [hrr]; rfl
                have e2' : (pn : Int).tmod (ll : Int) = (r : Nat) := by rw [tmod_nat, hrr]
                have e3 : ((r : Int) == 0) = false := beq_eq_false_iff_ne.2 (by omega)
                obtain ⟨d', hd', hinv'⟩ := HINV.out.cut hc.text hc.ok hc.cost
                have HD := Lib.hid (And.intro hd' hinv')
                have HPP := Lib.hid (show ∀ w, (rowsA encC 173 3 (.slice ad2 0 c2) ([] : List Pc)).ho w → Calls Try.prog 96 #[.slice ad2 0 c2, .agg #[.int .i64 (3 : Int), .int .u8 (0 : Int), .int .i64 L, .int .i64 (0 : Int), .int .i64 k], .agg #[.int .i64 pi, .int .i64 pa, .int .i64 pn], .int .i64 ll] w fun e w' => ∃ ad c, e = .returned (.slice ad 2 c) ∧ St w (rowsA encC 173 3 (.slice ad2 0 c2) ([] : List Pc)).fp [rowsA encC 173 3 (.slice ad 2 c) ([⟨pi, pa, n3⟩, ⟨L, 0, r⟩] : List Pc)] w' from fun w h => ppower_off pi L k pa pn ll r n3 hlpos h1 hrr hn3 (by omega) (by omega) w h)
                have HRV := Lib.hid (show ∀ ad c w, (rowsA encC 173 3 (.slice ad 2 c) ([⟨pi, pa, n3⟩, ⟨L, 0, r⟩] : List Pc)).ho w → Calls Try.prog 98 #[.slice ad 2 c] w fun e w' => e = .returned (.tuple #[]) ∧ St w (rowsA encC 173 3 (.slice ad 2 c) ([⟨pi, pa, n3⟩, ⟨L, 0, r⟩] : List Pc)).fp [rowsA encC 173 3 (.slice ad 2 c) ([⟨L, 0, r⟩, ⟨pi, pa, n3⟩] : List Pc)] w' from fun ad c w h => rev_c (xs := [⟨pi, pa, n3⟩, ⟨L, 0, r⟩]) rfl (by simp) w h)
                clear hd' hinv' hc hn3 hrr h1 h2
                go_wp2_with (first | refine sL ?_ | (refine sS ?_; clear H; intro _ H) | (refine sA ?_; clear H; intro _ _ H) | ((with_reducible refine isLoad ?_); refine AtLoad.rngT (vs := [.int .i64 pi, .int .i64 pa, .int .i64 pn]) rfl rfl rfl (H.rngL (enc := encC) (xs := st ++ [⟨pi, pa, pn⟩]) pk encC_len HLAST.out) rfl ?_; replace H := (H.pick (A := rowsA encC 173 3 (.slice (some ⟨g3, 0, none⟩) (sl + 1) c3) (st ++ [⟨pi, pa, pn⟩])) pk).cut encC_len hsl; simp only [Act.put, puA, puB, puC]) | (go_at_call 30; first | (with_reducible refine Calls.mono (HW1.out _ (H.known HK pk)) ?_; rintro e wc ⟨rfl, hb⟩; replace H := H.grew hb.below; clear hb) | (with_reducible refine Calls.mono (HW2.out _ (H.known HK pk)) ?_; rintro e wc ⟨rfl, hb⟩; replace H := H.grew hb.below; clear hb)) | (go_at_call 45; with_reducible refine Calls.mono (HRU.out _ (H.known HK pk)) ?_; rintro e wc ⟨rfl, hb⟩; replace H := H.grew hb.below; clear hb) | ((with_reducible refine isCut ?_); refine AtCut.zero rfl rfl rfl rfl rfl rfl HAD.out ?_; replace H := (H.pick (A := rowsA encC 173 3 (.slice ad2 nx.length c2) nx) pk).zero; simp only [Act.put, puA, puB, puC]) | (go_at_call 96; with_reducible refine Calls.mono (HPP.out _ (H.get (A := rowsA encC 173 3 (.slice ad2 0 c2) []) pk)) ?_; rintro e wc ⟨ad5, c5, rfl, hb⟩; replace H := H.pick (A := rowsA encC 173 3 (.slice ad2 0 c2) []) pk; replace H := H.call hb; clear hb; simp only [List.cons_append, List.nil_append] at H) | (go_at_call 98; with_reducible refine Calls.mono (HRV.out _ _ _ (H.get (A := rowsA encC 173 3 (.slice ad5 2 c5) [⟨pi, pa, n3⟩, ⟨L, 0, r⟩]) pk)) ?_; rintro e wc ⟨rfl, hb⟩; replace H := H.pick (A := rowsA encC 173 3 (.slice ad5 2 c5) [⟨pi, pa, n3⟩, ⟨L, 0, r⟩]) pk; replace H := H.call hb; clear hb; simp only [List.cons_append, List.nil_append] at H) | ((with_reducible refine isAppend ?_); refine AtAppend.rows (enc := encC) (xs := st) (ys := [⟨L, 0, r⟩, ⟨pi, pa, n3⟩]) H rfl rfl rfl rfl rfl (by decide) (by decide) rfl pk rfl (H.get (A := rowsA encC 173 3 (.slice ad5 2 c5) [⟨L, 0, r⟩, ⟨pi, pa, n3⟩]) pk) encC_len encC_one (by simp; omega) ?_; clear H; intro ad9 cp9 _ H; simp only [hsl, List.length_cons, List.length_nil, Nat.zero_add, Nat.add_zero, Nat.reduceAdd, List.append_nil] at H; simp only [Act.put, puA, puB, puC]))
                have HH := Lib.hid (St.only3 H (A := rowsA encT 135 3 (.slice ad1 pl c1) ps) (B := rowsA encC 173 3 (.slice ad5 2 c5) [⟨L, 0, r⟩, ⟨pi, pa, n3⟩]) (C := rowsA encC 173 3 (.slice ad9 (sl + 2) cp9) (st ++ [⟨L, 0, r⟩, ⟨pi, pa, n3⟩])) pk pk pk)
                go_roundg d'
                case measure => exact HD.out.1
                case rel =>
                  try simp only [hsl, List.length_cons, List.length_nil, Nat.zero_add, Nat.add_zero, Nat.reduceAdd]
                  exact ⟨ps, [⟨L, 0, r⟩, ⟨pi, pa, n3⟩], st ++ [⟨L, 0, r⟩, ⟨pi, pa, n3⟩], HD.out.2, HH.out⟩
            · obtain ⟨n', hn'⟩ : ∃ n', n' = min pn ((S.txt L).length - pa % (S.txt L).length) := ⟨_, rfl⟩
              have hc := HP.out.on h1 n' hn'
              generalize (S.txt L).length = ll at *
              obtain ⟨a, ha⟩ : ∃ a, a = pa % ll := ⟨_, rfl⟩
              rw [← ha] at hc h1 hn'
              have e1 : (pa : Int) % (ll : Int) = (a : Nat) := by rw [ha]; rfl
              have e1' : (pa : Int).tmod (ll : Int) = (a : Nat) := by rw [tmod_nat, ha]
              have e3 : ((a : Int) == 0) = false := beq_eq_false_iff_ne.2 (by omega)
              obtain ⟨s2, hs2⟩ : ∃ s2, s2 = pa + n' := ⟨_, rfl⟩
              obtain ⟨n2, hn2⟩ : ∃ n2, n2 = pn - n' := ⟨_, rfl⟩
              rw [← hs2, ← hn2] at hc
              obtain ⟨r, hrr⟩ : ∃ r, r = n2 % ll := ⟨_, rfl⟩
              rw [← hrr] at hc
              obtain ⟨n3, hn3⟩ : ∃ n3, n3 = n2 - r := ⟨_, rfl⟩
              rw [← hn3] at hc
              obtain ⟨d', hd', hinv'⟩ := HINV.out.cut hc.text hc.ok hc.cost
              have HD := Lib.hid (And.intro hd' hinv')
              have HPP := Lib.hid (show ∀ w, (rowsA encC 173 3 (.slice ad2 0 c2) ([] : List Pc)).ho w → Calls Try.prog 96 #[.slice ad2 0 c2, .agg #[.int .i64 (3 : Int), .int .u8 (0 : Int), .int .i64 L, .int .i64 (0 : Int), .int .i64 k], .agg #[.int .i64 pi, .int .i64 pa, .int .i64 pn], .int .i64 ll] w fun e w' => ∃ ad c, e = .returned (.slice ad 3 c) ∧ St w (rowsA encC 173 3 (.slice ad2 0 c2) ([] : List Pc)).fp [rowsA encC 173 3 (.slice ad 3 c) ([⟨L, a, n'⟩, ⟨pi, s2, n3⟩, ⟨L, 0, r⟩] : List Pc)] w' from fun w h => ppower_on pi L k pa pn ll a n' s2 n2 r n3 hlpos ha (by omega) hn' hs2 hn2 hrr hn3 (by omega) (by omega) w h)
              have HRV := Lib.hid (show ∀ ad c w, (rowsA encC 173 3 (.slice ad 3 c) ([⟨L, a, n'⟩, ⟨pi, s2, n3⟩, ⟨L, 0, r⟩] : List Pc)).ho w → Calls Try.prog 98 #[.slice ad 3 c] w fun e w' => e = .returned (.tuple #[]) ∧ St w (rowsA encC 173 3 (.slice ad 3 c) ([⟨L, a, n'⟩, ⟨pi, s2, n3⟩, ⟨L, 0, r⟩] : List Pc)).fp [rowsA encC 173 3 (.slice ad 3 c) ([⟨L, 0, r⟩, ⟨pi, s2, n3⟩, ⟨L, a, n'⟩] : List Pc)] w' from fun ad c w h => rev_c (xs := [⟨L, a, n'⟩, ⟨pi, s2, n3⟩, ⟨L, 0, r⟩]) rfl (by simp) w h)
              clear hd' hinv' hc hn3 hrr hn2 hs2 ha hn' h1
              go_wp2_with (first | refine sL ?_ | (refine sS ?_; clear H; intro _ H) | (refine sA ?_; clear H; intro _ _ H) | ((with_reducible refine isLoad ?_); refine AtLoad.rngT (vs := [.int .i64 pi, .int .i64 pa, .int .i64 pn]) rfl rfl rfl (H.rngL (enc := encC) (xs := st ++ [⟨pi, pa, pn⟩]) pk encC_len HLAST.out) rfl ?_; replace H := (H.pick (A := rowsA encC 173 3 (.slice (some ⟨g3, 0, none⟩) (sl + 1) c3) (st ++ [⟨pi, pa, pn⟩])) pk).cut encC_len hsl; simp only [Act.put, puA, puB, puC]) | (go_at_call 30; first | (with_reducible refine Calls.mono (HW1.out _ (H.known HK pk)) ?_; rintro e wc ⟨rfl, hb⟩; replace H := H.grew hb.below; clear hb) | (with_reducible refine Calls.mono (HW2.out _ (H.known HK pk)) ?_; rintro e wc ⟨rfl, hb⟩; replace H := H.grew hb.below; clear hb)) | (go_at_call 45; with_reducible refine Calls.mono (HRU.out _ (H.known HK pk)) ?_; rintro e wc ⟨rfl, hb⟩; replace H := H.grew hb.below; clear hb) | ((with_reducible refine isCut ?_); refine AtCut.zero rfl rfl rfl rfl rfl rfl HAD.out ?_; replace H := (H.pick (A := rowsA encC 173 3 (.slice ad2 nx.length c2) nx) pk).zero; simp only [Act.put, puA, puB, puC]) | (go_at_call 96; with_reducible refine Calls.mono (HPP.out _ (H.get (A := rowsA encC 173 3 (.slice ad2 0 c2) []) pk)) ?_; rintro e wc ⟨ad5, c5, rfl, hb⟩; replace H := H.pick (A := rowsA encC 173 3 (.slice ad2 0 c2) []) pk; replace H := H.call hb; clear hb; simp only [List.cons_append, List.nil_append] at H) | (go_at_call 98; with_reducible refine Calls.mono (HRV.out _ _ _ (H.get (A := rowsA encC 173 3 (.slice ad5 3 c5) [⟨L, a, n'⟩, ⟨pi, s2, n3⟩, ⟨L, 0, r⟩]) pk)) ?_; rintro e wc ⟨rfl, hb⟩; replace H := H.pick (A := rowsA encC 173 3 (.slice ad5 3 c5) [⟨L, a, n'⟩, ⟨pi, s2, n3⟩, ⟨L, 0, r⟩]) pk; replace H := H.call hb; clear hb; simp only [List.cons_append, List.nil_append] at H) | ((with_reducible refine isAppend ?_); refine AtAppend.rows (enc := encC) (xs := st) (ys := [⟨L, 0, r⟩, ⟨pi, s2, n3⟩, ⟨L, a, n'⟩]) H rfl rfl rfl rfl rfl (by decide) (by decide) rfl pk rfl (H.get (A := rowsA encC 173 3 (.slice ad5 3 c5) [⟨L, 0, r⟩, ⟨pi, s2, n3⟩, ⟨L, a, n'⟩]) pk) encC_len encC_one (by simp; omega) ?_; clear H; intro ad9 cp9 _ H; simp only [hsl, List.length_cons, List.length_nil, Nat.zero_add, Nat.add_zero, Nat.reduceAdd, List.append_nil] at H; simp only [Act.put, puA, puB, puC]))
              have HH := Lib.hid (St.only3 H (A := rowsA encT 135 3 (.slice ad1 pl c1) ps) (B := rowsA encC 173 3 (.slice ad5 3 c5) [⟨L, 0, r⟩, ⟨pi, s2, n3⟩, ⟨L, a, n'⟩]) (C := rowsA encC 173 3 (.slice ad9 (sl + 3) cp9) (st ++ [⟨L, 0, r⟩, ⟨pi, s2, n3⟩, ⟨L, a, n'⟩])) pk pk pk)
              go_roundg d'
              case measure => exact HD.out.1
              case rel =>
                try simp only [hsl, List.length_cons, List.length_nil, Nat.zero_add, Nat.add_zero, Nat.reduceAdd]
                exact ⟨ps, [⟨L, 0, r⟩, ⟨pi, s2, n3⟩, ⟨L, a, n'⟩], st ++ [⟨L, 0, r⟩, ⟨pi, s2, n3⟩, ⟨L, a, n'⟩], HD.out.2, HH.out⟩
end Go.Proofs.Ytijnhpaafhcndaa
end
section
namespace Go.Proofs
open Go.Shelf
def Try.laysRq_ren : Go.Shelf.Ren := ⟨fun | 35 => 70 | n => n, fun | 22 => 87 | 23 => 135 | n => n, fun | n => n⟩
theorem Try.laysRq : Go.Proofs.SlLaysE0.n35 Try.prog Try.laysRq_ren := {
  mixed := by kernel_rfl
  f35 := ⟨Try.f70.name, by decide, Try.func70.trans (congrArg some (by kernel_rfl))⟩
  t0 := Try.underlying0
  a0 := Try.isAgg0
  z0 := Try.sizeOf0
  v0 := Try.zeroValue0
  t3 := Try.underlying3
  a3 := Try.isAgg3
  z3 := Try.sizeOf3
  v3 := Try.zeroValue3
  t4 := Try.underlying4
  a4 := Try.isAgg4
  z4 := Try.sizeOf4
  v4 := Try.zeroValue4
  t22 := Try.underlying87
  a22 := Try.isAgg87
  z22 := Try.sizeOf87
  v22 := Try.zeroValue87 }
end Go.Proofs
namespace Go.Proofs.Ytijnhpaafhcndaa
open Go.RowKit Go.Maps Go.Sort
set_option maxHeartbeats 2000000
set_option maxRecDepth 100000
set_option linter.unusedSimpArgs false
set_option linter.unusedVariables false
instance : Inhabited Pt := ⟨⟨0, 0, 0⟩⟩
theorem revT_c {ad : Option Addr} {c n : Nat} {xs : List Pt} (hn : xs.length = n) (hx : n ≤ 16777216) (w : World) (h : (rowsA encT 135 3 (.slice ad n c) xs).ho w) :
    Calls Try.prog 70 #[.slice ad n c] w fun e w' => e = .returned (.tuple #[]) ∧ St w (rowsA encT 135 3 (.slice ad n c) xs).fp [rowsA encT 135 3 (.slice ad n c) xs.reverse] w' := by
  subst hn
  by_cases h0 : xs.length = 0
  · have hxs : xs = [] := List.eq_nil_of_length_eq_zero h0
    subst hxs
    have := AnyQ.slices_Reverse_empty Try.laysRq ad c w
    refine this.mono ?_
    rintro e w' ⟨rfl, rfl⟩
    exact ⟨rfl, St.one h⟩
  · obtain ⟨g, c', he, _, _⟩ := rowsA_cases h (by omega)
    injection he with e1 e2 e3
    subst e1 e3
    have hK := holdsK_of encT_len (by omega) h
    have := AnyQ.slices_Reverse Try.laysRq 3 Try.isAgg135 Try.sizeOf135 encT encT_len encT_one g 0 c xs.toArray w hK (by simp; omega)
    refine this.mono ?_
    rintro e w' ⟨rfl, m, rfl⟩
    have e5 : xs.toArray.reverse = xs.reverse.toArray := by simp
    rw [e5]
    exact ⟨rfl, rowsA_put encT_len (by omega) (by simp) m h⟩
end Go.Proofs.Ytijnhpaafhcndaa
end
section
namespace Go.Proofs.Ytijnhpaafhcndaa
set_option linter.unusedSimpArgs false
set_option linter.unusedVariables false
theorem rep_reverse (k : Nat) (l : List Nat) : (rep k l).reverse = rep k l.reverse := by
  induction k with
  | zero => simp [rep]
  | succ k ih =>
    rw [rep_succ, List.reverse_append, ih, rep_add k 1, rep_one]
def partsB (b : Bool) (ps : List Pt) : List Pt := if b then ps.reverse else ps
theorem partsB_len (b : Bool) (ps : List Pt) : (partsB b ps).length = ps.length := by cases b <;> simp [partsB]
theorem partsB_mem {b : Bool} {ps : List Pt} {t : Pt} (h : t ∈ partsB b ps) : t ∈ ps := by cases b <;> simpa [partsB] using h
def runP (S : Sto) (b : Bool) (ps : List Pt) : List Nat := (ps.map fun t => dirT b (S.ptTxt t)).flatten
theorem runP_nil (S : Sto) (b : Bool) : runP S b [] = [] := rfl
theorem runP_append (S : Sto) (b : Bool) (x y : List Pt) : runP S b (x ++ y) = runP S b x ++ runP S b y := by simp [runP]
theorem runP_all (S : Sto) (b : Bool) (ps : List Pt) : runP S b (partsB b ps) = dirT b (textP S ps) := by
  cases b with
  | false => rfl
  | true =>
    simp only [partsB, if_true, dirT]
    induction ps with
    | nil => rfl
    | cons t ps ih =>
      rw [List.reverse_cons, runP_append, ih]
      simp [textP, runP, dirT]
theorem runP_take (S : Sto) (b : Bool) {ps : List Pt} {j : Nat} {t : Pt} (h : ps[j]? = some t) : runP S b (ps.take (j + 1)) = runP S b (ps.take j) ++ dirT b (S.ptTxt t) := by
  rw [List.take_add_one, h, runP_append]
  simp [runP]
def PRun (m : Mc) (q0 : Nat) (l : List Nat) (q h : Nat) : Prop := q = m.ends q0 l ∧ h = capN (m.sum q0 l)
theorem PRun.nil (m : Mc) (q0 : Nat) : PRun m q0 [] q0 0 := ⟨rfl, rfl⟩
theorem PRun.app {m : Mc} {q0 : Nat} {l : List Nat} {q h : Nat} (r : PRun m q0 l q h) (l2 : List Nat) : PRun m q0 (l ++ l2) (m.ends q l2) (capN (h + m.sum q l2)) := by
  obtain ⟨rfl, rfl⟩ := r
  refine ⟨(m.ends_append q0 l l2).symm, ?_⟩
  rw [m.sum_append]
  unfold capN beyond; omega
theorem PRun.le {m : Mc} {q0 : Nat} {l : List Nat} {q h : Nat} (r : PRun m q0 l q h) : h ≤ beyond := by rw [r.2]; exact capN_le _
def BRun (m : Mc) (q0 : Nat) (l base : List Nat) (t j k q h : Nat) : Prop := k = t / 2 ^ j ∧ PRun m q0 (l ++ rep (t % 2 ^ j) base) q h
theorem BRun.first {m : Mc} {q0 : Nat} {l base : List Nat} {t q h : Nat} (r : PRun m q0 l q h) : BRun m q0 l base t 0 t q h := by
  refine ⟨by simp, ?_⟩
  rw [Nat.pow_zero, Nat.mod_one, rep_zero, List.append_nil]
  exact r
theorem bit_mod (t j : Nat) : t % 2 ^ (j + 1) = t % 2 ^ j + 2 ^ j * (t / 2 ^ j % 2) := by
  rw [Nat.pow_succ, Nat.mod_mul]
theorem BRun.on {m : Mc} {q0 : Nat} {l base : List Nat} {t j k q h : Nat} (r : BRun m q0 l base t j k q h) (hb : k % 2 = 1) : BRun m q0 l base t (j + 1) (k / 2) (m.ends q (rep (2 ^ j) base)) (capN (h + m.sum q (rep (2 ^ j) base))) := by
  obtain ⟨rfl, r⟩ := r
  refine ⟨by rw [Nat.pow_succ, Nat.div_div_eq_div_mul], ?_⟩
  rw [bit_mod, hb, Nat.mul_one, rep_add, ← List.append_assoc]
  exact r.app _
theorem BRun.off {m : Mc} {q0 : Nat} {l base : List Nat} {t j k q h : Nat} (r : BRun m q0 l base t j k q h) (hb : k % 2 = 0) : BRun m q0 l base t (j + 1) (k / 2) q h := by
  obtain ⟨rfl, r⟩ := r
  refine ⟨by rw [Nat.pow_succ, Nat.div_div_eq_div_mul], ?_⟩
  rw [bit_mod, hb, Nat.mul_zero, Nat.add_zero]
  exact r
theorem BRun.last {m : Mc} {q0 : Nat} {l base : List Nat} {t j k q h : Nat} (r : BRun m q0 l base t j k q h) (hk : k = 0) : PRun m q0 (l ++ rep t base) q h := by
  obtain ⟨rfl, r⟩ := r
  have : t % 2 ^ j = t := Nat.mod_eq_of_lt (by
    rcases Nat.lt_or_ge t (2 ^ j) with h | h
    · exact h
    · have := Nat.div_pos h (Nat.two_pow_pos j); omega)
  rwa [this] at r
theorem BRun.lt {m : Mc} {q0 : Nat} {l base : List Nat} {t j k q h n : Nat} (r : BRun m q0 l base t j k q h) (hk : 0 < k) (ht : t < 2 ^ n) : j < n := by
  obtain ⟨rfl, _⟩ := r
  rcases Nat.lt_or_ge j n with h | h
  · exact h
  · have h2 : 2 ^ n ≤ 2 ^ j := Nat.pow_le_pow_right (by omega) h
    rw [Nat.div_eq_of_lt (by omega)] at hk
    omega
end Go.Proofs.Ytijnhpaafhcndaa
end
section
namespace Go.Proofs.Ytijnhpaafhcndaa
open Go.RowKit Go.Maps
attribute [local go_sem] InGr
set_option maxHeartbeats 4000000
set_option maxRecDepth 100000
set_option linter.unusedSimpArgs false
set_option linter.unusedVariables false
theorem copies_look {S : Sto} {T T' : Tab} (hext : T.Ext T') (hT : TabOk S T') {i tid k : Nat} {x : En} (hi : i + 1 ≤ 1048577) (hkn : T'.Known (i + 1)) (hx : S.list[i]? = some (powerE x tid k)) :
    ∃ a1 n1 c1 a2 n2 c2 g o n c, ∃ cps : List (Value × Value), (∀ w, (mapA Try.prog 32 T.km (T'.es.map entV)).ho w → (Instr.lookup 123 (.map (some T.km)) (.int .i64 ((i + 1 : Nat) : Int)) false).run Try.prog w = .ok (.agg #[.slice a1 n1 c1, .slice a2 n2 c2, .slice (some ⟨g, o, none⟩) n c]) w) ∧ cps.length = n ∧ n ≤ 64 ∧ k < 2 ^ n ∧ RowIn T'.P encP 2 (.slice (some ⟨g, o, none⟩) n c) cps ∧ ∀ (j : Nat) (p : Value × Value), cps[j]? = some p → EffAt T'.P T.mc (dirT T.back (rep (2 ^ j) (S.txt tid))) p.1 p.2 := by
  obtain ⟨p1, p2, p3, p4, p5, p6⟩ := hext.same
  obtain ⟨⟨v1, v2, v3⟩, hv⟩ := hkn
  obtain ⟨i', x', h1, h2, h3⟩ := hT.ents _ hv
  have h1' : i + 1 = i' + 1 := h1
  obtain rfl : i = i' := by omega
  rw [hx] at h2
  cases h2
  obtain ⟨cps, r1, r2, r3, r4, r5⟩ := h3.copies rfl
  obtain ⟨cn, ok⟩ := hT.ok
  obtain ⟨g, o, c, g', o', c', e1, e2⟩ := h3.eff.shape ok.n1
  obtain ⟨gc, oc, cc, e3, r1'⟩ := r1.hasN rfl (by omega)
  refine ⟨some ⟨g, o, none⟩, T'.mc.n, c, some ⟨g', o', none⟩, T'.mc.n, c', gc, oc, cps.length, cc, cps, fun w h => ?_, rfl, r3, r4, r1', fun j p hp => ?_⟩
  · rw [← p3] at h ⊢
    have := look_known hT hi hv h false
    have f1 : v1 = _ := e1
    have f2 : v2 = _ := e2
    have f3 : v3 = _ := e3
    subst f1 f2 f3
    exact this
  · rw [← p5, ← p6]; exact r5 j p hp
theorem St.only4 {w0 w : World} {M : List Nat} {L R1 R2 R3 R4 : List As} {A B C D : As} (h : St w0 M L w) (h1 : Pick L A R1) (h2 : Pick R1 B R2) (h3 : Pick R2 C R3) (h4 : Pick R3 D R4) : St w0 M [A, B, C, D] w :=
  (h.perm (L' := [A, B, C, D] ++ R4) (h1.perm.trans ((h2.perm.trans ((h3.perm.trans ((h4.perm).cons _)).cons _)).cons _))).heads
theorem power_le {S : Sto} (hS : S.Ok) {i tid k : Nat} {x : En} (hx : S.list[i]? = some (powerE x tid k)) : k ≤ 1152921504606846976 := by
  generalize hy : powerE x tid k = y at hx
  have hm := maxT_eq
  cases hS.ents i y hx with
  | letter b hb => simp [powerE, letterE] at hy
  | pair l r y z hl hr hy' hz h => simp [powerE, pairE] at hy
  | power l k' y' hl hy' hk h =>
    have hp := (hS.good l y' hy').pos
    have e : k = k' := by simp [powerE] at hy; omega
    subst e
    have := Nat.le_mul_of_pos_left k hp
    omega
theorem capN_big {s : Nat} : (capN s ≤ 1152921504606846976 ↔ s ≤ 1152921504606846976) ∧ (s ≤ 1152921504606846976 → capN s = s) := by
  unfold capN beyond; omega
def PaRel (S : Sto) (T T' : Tab) (cs : Array Value) (M : List Nat) (w : World) (q0 : Nat) (ad : Option Addr) (c pl : Nat) (ps : List Pt) (v4 v11 v78 : Value) (wr : World) : Prop :=
  ∃ j q h : Nat, v4 = .int .i64 q ∧ v11 = .int .i64 h ∧ v78 = .int .i64 j ∧ j ≤ pl ∧ q < T.mc.n ∧ PRun T.mc q0 (runP S T.back (ps.take j)) q h ∧ St w M [blk T.p (.cells cs 125), poolA T'.P, mapA Try.prog 32 T.km (T'.es.map entV), rowsA encT 135 3 (.slice ad pl c) ps] wr
def BiRel (S : Sto) (T T' : Tab) (cs : Array Value) (M : List Nat) (w : World) (q0 : Nat) (ad : Option Addr) (c pl : Nat) (ps : List Pt) (l base : List Nat) (tt : Nat) (v4 v11 v21 v22 : Value) (wr : World) : Prop :=
  ∃ j k q h : Nat, v4 = .int .i64 q ∧ v11 = .int .i64 h ∧ v21 = .int .i64 j ∧ v22 = .int .i64 k ∧ j ≤ 65 ∧ k ≤ tt ∧ q < T.mc.n ∧ BRun T.mc q0 l base tt j k q h ∧ St w M [blk T.p (.cells cs 125), poolA T'.P, mapA Try.prog 32 T.km (T'.es.map entV), rowsA encT 135 3 (.slice ad pl c) ps] wr
def PartPost (S : Sto) (T : Tab) (q0 : Nat) (l : List Nat) (M : List Nat) (w : World) (e : Ending) (w' : World) : Prop :=
  ∃ T', e = .returned (if T.mc.sum q0 l ≤ 1152921504606846976 then .tuple #[.int .i64 (T.mc.ends q0 l : Nat), .int .i64 (T.mc.sum q0 l : Nat), .nilIface] else .tuple #[.int .i64 0, .int .i64 0, .iface 42 (.int .i64 2)]) ∧ T.Ext T' ∧ TabOk S T' ∧ St w M [tabA T'] w'
theorem part_c {S : Sto} {T : Tab} {lv : Value} {m id s n q : Nat} (hS : S.Ok) (hT : TabOk S T) (hid : id ≤ S.list.length) (hq : q < T.mc.n) (hf : s + n ≤ (S.txt id).length) (w : World) (h : ((tabA T).sep (stoA T.s lv m S)).ho w) :
    Calls Try.prog 40 #[.pointer (some ⟨T.p, 0, none⟩), .int .i64 id, .int .i64 s, .int .i64 n, .int .i64 q] w (PartPost S T q (dirT T.back (S.pcTxt ⟨id, s, n⟩)) (tabA T).fp w) := by
  have h0 := h
  rw [sep_ho] at h
  obtain ⟨h1, h2, hd⟩ := h
  have H := St.one h1
  have HK : Ks w (tabA T).fp [stoA T.s lv m S] := ⟨by simpa using h2, by simpa using fun b hb hm => hd b hm hb⟩
  have HC : Hid (∀ w, (tabA T).ho w → (stoA T.s lv m S).ho w → Calls Try.prog 71 #[.pointer (some ⟨T.p, 0, none⟩), .int .i64 id, .int .i64 q] w fun e w' => e = .returned .nilIface ∧ w' = w) := Lib.hid fun w a b => tcheck_c hT hid hq w a b
  have HL : Hid (∀ w, ((tabA T).sep (stoA T.s lv m S)).ho w → Calls Try.prog 72 #[.pointer (some ⟨T.p, 0, none⟩), .int .i64 id] w (fun e w' => ∃ T', e = .returned .nilIface ∧ T.Ext T' ∧ TabOk S T' ∧ (id = 0 ∨ T'.Known id) ∧ St w (tabA T).fp [tabA T'] w')) := Lib.hid fun w h => learn_c hS hT hid w h
  obtain ⟨a1, a2, a3, a4, a5, hw1⟩ := wlen_c (p := T.s) (m := m) (lv := lv) hS hid
  have HW1 := Lib.hid hw1
  have hmax := txt_max hS hid
  have HR := Lib.hid (fun w => range_ok s n (S.txt id).length hf hmax w)
  have HO : Hid (∀ T', TabOk S T' → (id = 0 ∨ T'.Known id) → ∀ w, (stoA T.s lv m S).ho w → Calls Try.prog 69 #[.pointer (some ⟨T.s, 0, none⟩), .int .i64 id, .int .i64 s, .int .i64 n] w fun e w' => ∃ ad c ps, e = .returned (.tuple #[.slice ad ps.length c, .nilIface]) ∧ textP S ps = S.pcTxt ⟨id, s, n⟩ ∧ (∀ t ∈ ps, PtOk S T'.Known t) ∧ ps.length ≤ 6 * S.list.length + 6 ∧ St w [] [rowsA encT 135 3 (.slice ad ps.length c) ps] w') := Lib.hid fun T' hT' hkn w h => of_c hS hT'.closed hid hkn hf w h
  obtain ⟨gc, oc, cc, gn, on, cn, ga, oa, ca, gh, oh, ch, hc⟩ := hT.cells
  have HCELLS := Lib.hid hc
  obtain ⟨cm, okm⟩ := hT.ok
  have HOKM := Lib.hid okm
  have hl1 := hS.len
  have hl2 := hS.most
  have HD := Lib.hid hd
  have HSO := Lib.hid hS
  have hq0 := hq
  have HQ := Lib.hid hq
  generalize hln : (S.txt id).length = ln at *
  generalize hgoal : S.pcTxt ⟨id, s, n⟩ = goal at *
  clear hc hT h0 h1 h2 hd hw1 okm hS hq hf hgoal hq0 hln
  have HRV := Lib.hid (show ∀ (ps : List Pt) ad c, ps.length ≤ 16777216 → ∀ w, (rowsA encT 135 3 (.slice ad ps.length c) ps).ho w → Calls Try.prog 70 #[.slice ad ps.length c] w fun e w' => e = .returned (.tuple #[]) ∧ St w (rowsA encT 135 3 (.slice ad ps.length c) ps).fp [rowsA encT 135 3 (.slice ad ps.length c) ps.reverse] w' from fun ps ad c hl w h => revT_c rfl hl w h)
  rcases hbk : T.back with _ | _
  · have HBK := Lib.hid hbk
    have HC2 : Hid (tabCells T = #[.pointer (some ⟨T.s, 0, none⟩), .int .i64 T.mc.start, .slice (some ⟨gc, oc, none⟩) 256 cc, .slice (some ⟨gn, on, none⟩) T.mc.n cn, .slice (some ⟨ga, oa, none⟩) T.mc.n ca, .slice (some ⟨gh, oh, none⟩) T.mc.n ch, .bool false, .map (some T.km)]) := Lib.hid (by rw [HCELLS.out, tabC, hbk])
    rw [← hbk]
    clear hbk
    go_enter Try.func40, Try.ntmps40
    go_wp2_with (first | refine sL ?_ | (refine sS ?_; clear H; intro _ H) | (refine sA ?_; clear H; intro _ _ H) | refine sF ?_ | (go_at_call 71; with_reducible refine Calls.mono (HC.out _ (H.get (A := tabA T) pk) (H.known HK pk)) ?_; rintro e wc ⟨rfl, hwc⟩; obtain rfl := hwc.symm; replace H := tabA_open H; rw [HC2.out] at H) | (go_at_call 30; with_reducible refine Calls.mono (HW1.out _ (H.known HK pk)) ?_; rintro e wc ⟨rfl, hb⟩; replace H := H.grew hb.below; clear hb) | (go_at_call 35; with_reducible refine Calls.mono (HR.out _) ?_; rintro e wc ⟨rfl, hwc⟩; obtain rfl := hwc.symm) | (go_at_call 72; replace H := tabA_shut_of (Tab.Ext.refl T) HC2.out H pk pk pk; with_reducible refine Calls.mono (HL.out _ (sep_mk (H.get (A := tabA T) pk) (H.known HK pk) HD.out)) ?_; rintro e wc ⟨T', rfl, hext, hT', hkn, hb⟩; replace H := H.pick (A := tabA T) pk; replace H := H.call hb; clear hb; simp only [List.cons_append, List.nil_append] at H; obtain ⟨p1, p2, p3, p4, p5, p6⟩ := hext.same; replace H := tabA_open H; rw [p1, p3, p4, HC2.out] at H; have HX := Lib.hid hext; have HT2 := Lib.hid hT'; have HKN := Lib.hid hkn; clear hext hT' hkn p1 p2 p3 p4 p5 p6) | (go_at_call 69; with_reducible refine Calls.mono (HO.out T' HT2.out HKN.out _ (H.known HK pk)) ?_; rintro e wc ⟨ad, c, ps, rfl, htx, hpts, hpl, hb⟩; replace H := H.call0 hb; clear hb; simp only [List.cons_append, List.nil_append] at H; have HTX := Lib.hid htx; have HPT := Lib.hid hpts; have hpsb : ps.length ≤ 7000000 := (by omega); clear htx hpts hpl) | (go_at_call 70; with_reducible refine Calls.mono (HRV.out ps ad c (by omega) _ (H.get (A := rowsA encT 135 3 (.slice ad ps.length c) ps) pk)) ?_; rintro e wc ⟨rfl, hb⟩; replace H := H.pick (A := rowsA encT 135 3 (.slice ad ps.length c) ps) pk; replace H := H.call hb; clear hb; simp only [List.cons_append, List.nil_append] at H))
    generalize hpl : ps.length = pl at *
    obtain ⟨lp, hlp⟩ : ∃ lp, lp = partsB false ps := ⟨_, rfl⟩
    rw [show ps = lp from hlp.symm] at H
    have HLEN := Lib.hid (show lp.length = pl from by rw [hlp, partsB_len, hpl])
    have HRUN := Lib.hid (show runP S T.back lp = dirT T.back goal from by rw [hlp, ← HTX.out, HBK.out]; exact runP_all S false ps)
    have HPS := Lib.hid (show ∀ t ∈ lp, PtOk S T'.Known t from fun t ht => HPT.out t (partsB_mem (hlp ▸ ht)))
    clear hlp hpl HTX HPT
    obtain ⟨cs, hcs⟩ : ∃ cs : Array Value, cs = #[.pointer (some ⟨T.s, 0, none⟩), .int .i64 T.mc.start, .slice (some ⟨gc, oc, none⟩) 256 cc, .slice (some ⟨gn, on, none⟩) T.mc.n cn, .slice (some ⟨ga, oa, none⟩) T.mc.n ca, .slice (some ⟨gh, oh, none⟩) T.mc.n ch, .bool false, .map (some T.km)] := ⟨_, rfl⟩
    rw [← hcs] at H
    go_loopw [4, 11, 78] (fun v4 v11 v78 wr => PaRel S T T' cs (tabA T).fp w q ad c pl lp v4 v11 v78 wr) (fun _ _ v78 _ => pl - (intOf v78).toNat)
    case atStart => exact ⟨0, q, 0, rfl, rfl, rfl, Nat.zero_le _, HQ.out, PRun.nil _ _, H.only4 (A := blk T.p (.cells cs 125)) (B := poolA T'.P) (C := mapA Try.prog 32 T.km (T'.es.map entV)) (D := rowsA encT 135 3 (.slice ad pl c) lp) pk pk pk pk⟩
    case round =>
      clear H
      obtain ⟨j, q1, h1, rfl, rfl, rfl, hj, hq1, hrun, H⟩ := hrel
      have hh1 := hrun.le
      unfold beyond at hh1
      have HRN := Lib.hid hrun
      have HQ1 := Lib.hid hq1
      have hn256 := HOKM.out.n256
      clear hrun
      by_cases hlt : j < pl
      · obtain ⟨⟨ti, tp, tt⟩, ht⟩ : ∃ t, lp[j]? = some t := ⟨_, List.getElem?_eq_getElem (by rw [HLEN.out]; exact hlt)⟩
        have HPO := Lib.hid (HPS.out _ (List.mem_of_getElem? ht))
        have HTK := Lib.hid (runP_take S T.back ht)
        have HLK := Lib.hid ht
        obtain ⟨gr, cr, hadr, _, _⟩ := rowsA_cases (H.get (A := rowsA encT 135 3 (.slice ad pl c) lp) pk) (by rw [HLEN.out]; omega)
        injection hadr with x1 x2 x3
        subst x1 x3
        clear ht x2
        have htid := HPO.out.le
        have htid1 := HPO.out.pos
        have htt := HPO.out.times
        simp only at htid htid1 htt
        by_cases h1t : tt = 1
        · obtain ⟨e1, n1, c1, e2, n2, c2, e3, n3, c3, hlk, hef⟩ := eff_look HX.out HT2.out (id := ti) (by omega) (.inr HPO.out.known)
          have hef' := hef (by omega)
          have hpt : S.ptTxt ⟨ti, tp, tt⟩ = S.txt ti := by rw [h1t]; exact rep_one _
          have hlt' : ∀ b ∈ dirT T.back (S.txt ti), b < 256 := fun b hb => S.txt_lt HSO.out htid b (by unfold dirT at hb; split at hb; simpa using hb; exact hb)
          have hqn := HOKM.out.ends_lt hq1 hlt'
          have HRC := Lib.hid (fun w hp => run_c HOKM.out hlt' hef' hq1 HRN.out.le w hp)
          have HNX := Lib.hid (show PRun T.mc q (runP S T.back (lp.take (j + 1))) (T.mc.ends q1 (dirT T.back (S.txt ti))) (capN (h1 + T.mc.sum q1 (dirT T.back (S.txt ti)))) from by rw [HTK.out, hpt]; exact HRN.out.app _)
          have HLO := Lib.hid hlk
          have hcn := HNX.out.le
          unfold beyond at hcn
          generalize T.mc.ends q1 (dirT T.back (S.txt ti)) = q2 at *
          generalize capN (h1 + T.mc.sum q1 (dirT T.back (S.txt ti))) = h2 at *
          have HQ2 := Lib.hid hqn
          subst h1t
          clear hlk hef hef' hpt hlt' hqn htt
          rw [hcs] at H
          go_wp2_with (first | refine sL ?_ | (refine sS ?_; clear H; intro _ H) | (refine sA ?_; clear H; intro _ _ H) | refine sF ?_ | ((with_reducible refine isLoad ?_); refine AtLoad.rngT (vs := [.int .i64 ti, .int .i64 tp, .int .i64 (1 : Nat)]) rfl rfl rfl (H.rngL (enc := encT) (xs := lp) pk encT_len HLK.out) rfl ?_; simp only [Act.put, puA, puB, puC]))
          refine wp_region_h H 16 [] [] (by kernel_rfl) (by kernel_rfl) ?_
          apply Exists.intro
          refine ⟨fun w1 hw1 HX => ?_, fun bs wr Hr => ?_⟩
          · refine sG ?_
            repeat (first | refine sQ ?_ | ((with_reducible refine isQLook ?_); refine QtLook.go (kt := 0) (et := 0) rfl rfl rfl _ (fun z => HLO.out _ ((HX z).get pk)) rfl ?_; simp only [Act.put, puA, puB, puC]) | ((with_reducible refine isQField ?_); refine QtField.rowT rfl rfl rfl rfl rfl rfl ?_; simp only [Act.put, puA, puB, puC]) | go_big_quiet_step ((go_at_call 73; with_reducible exact quiet_st_x (HRC.out _ ((HX _).get (A := poolA T'.P) pk)))) | go_big_quiet_step (fail))
            exact wpQuiet_nil rfl
          clear H
          have H := Hr
          clear Hr
          replace H := sH H; refine sT ?_
          go_wp2_with (first | refine sL ?_ | (refine sS ?_; clear H; intro _ H) | (refine sA ?_; clear H; intro _ _ H) | refine sF ?_)
          rw [← hcs] at H
          refine ⟨⟨j + 1, q2, h2, rfl, rfl, by go_num, by omega, HQ2.out, HNX.out, H.only4 (A := blk T.p (.cells cs 125)) (B := poolA T'.P) (C := mapA Try.prog 32 T.km (T'.es.map entV)) (D := rowsA encT 135 3 (.slice (some ⟨gr, 0, none⟩) pl c) lp) pk pk pk pk⟩, by simp [intOf]; omega⟩
        · obtain ⟨i, x, k, hp, hk, hx, hle⟩ : ∃ (i : Nat) (x : En) (k : Nat), tp = i + 1 ∧ T'.Known (i + 1) ∧ S.list[i]? = some (powerE x ti k) ∧ tt ≤ k := by rcases HPO.out.copies with h | h; exact absurd h h1t; exact h
          have hil := getElem_len hx
          have hkb : k ≤ 1152921504606846976 := power_le HSO.out hx
          obtain ⟨e1, n1, c1, e2, n2, c2, g5, o5, n5, c5, cps, hlk, hcl, hc64, hk2, hrow, hef⟩ := copies_look HX.out HT2.out (by omega) hk hx
          have hlk' : ∀ w, (mapA Try.prog 32 T.km (T'.es.map entV)).ho w → (Instr.lookup 123 (.map (some T.km)) (.int .i64 (tp : Int)) false).run Try.prog w = .ok (.agg #[.slice e1 n1 c1, .slice e2 n2 c2, .slice (some ⟨g5, o5, none⟩) n5 c5]) w := by rw [hp]; exact hlk
          have hpt : S.ptTxt ⟨ti, tp, tt⟩ = rep tt (S.txt ti) := rfl
          have HNX := Lib.hid (show runP S T.back (lp.take (j + 1)) = runP S T.back (lp.take j) ++ rep tt (dirT T.back (S.txt ti)) from by rw [HTK.out, hpt, dirT_rep])
          have hlt' : ∀ b ∈ dirT T.back (S.txt ti), b < 256 := fun b hb => S.txt_lt HSO.out htid b (by unfold dirT at hb; split at hb; simpa using hb; exact hb)
          have HLT := Lib.hid hlt'
          have HLO := Lib.hid hlk'
          have HROW := Lib.hid hrow
          have HEF := Lib.hid hef
          have HCL := Lib.hid hcl
          have HK2 := Lib.hid (show tt < 2 ^ n5 from by omega)
          have h1f : ((tt : Int) == 1) = false := by simp; omega
          have htb : tt ≤ 1152921504606846976 := by omega
          clear hlk hlk' hef hpt hlt' hrow hcl hk2 hp hx hk hil
          rw [hcs] at H
          go_wp2_with (first | refine sL ?_ | (refine sS ?_; clear H; intro _ H) | (refine sA ?_; clear H; intro _ _ H) | refine sF ?_ | ((with_reducible refine isLoad ?_); refine AtLoad.rngT (vs := [.int .i64 ti, .int .i64 tp, .int .i64 tt]) rfl rfl rfl (H.rngL (enc := encT) (xs := lp) pk encT_len HLK.out) rfl ?_; simp only [Act.put, puA, puB, puC]))
          refine wp_region_h H 9 [] [] (by kernel_rfl) (by kernel_rfl) ?_
          apply Exists.intro
          refine ⟨fun w1 hw1 HX => ?_, fun bs wr Hr => ?_⟩
          · refine sG ?_
            repeat (first | refine sQ ?_ | ((with_reducible refine isQLook ?_); refine QtLook.go (kt := 0) (et := 0) rfl rfl rfl _ (fun z => HLO.out _ ((HX z).get pk)) rfl ?_; simp only [Act.put, puA, puB, puC]) | ((with_reducible refine isQField ?_); refine QtField.cellT rfl rfl rfl rfl rfl rfl ?_; simp only [Act.put, puA, puB, puC]) | go_big_quiet_step (fail))
            exact wpQuiet_nil rfl
          clear H
          have H := Hr
          clear Hr
          replace H := sH H; refine sT ?_
          go_wp2_with (first | refine sL ?_ | (refine sS ?_; clear H; intro _ H) | (refine sA ?_; clear H; intro _ _ H) | refine sF ?_)
          refine wp_region_h H 4 [] [] (by kernel_rfl) (by kernel_rfl) ?_
          apply Exists.intro
          refine ⟨fun w1 hw1 HX => ?_, fun bs wr Hr => ?_⟩
          · refine sG ?_
            repeat (first | refine sQ ?_ | fail | go_big_quiet_step (fail))
            exact wpQuiet_nil rfl
          clear H
          have H := Hr
          clear Hr
          replace H := sH H; refine sT ?_
          go_wp2_with (first | refine sL ?_ | (refine sS ?_; clear H; intro _ H) | (refine sA ?_; clear H; intro _ _ H) | refine sF ?_)
          rw [← hcs] at H
          go_loopw [4, 11, 21, 22] (fun v4 v11 v21 v22 wr => BiRel S T T' cs (tabA T).fp w q (some ⟨gr, 0, none⟩) c pl lp (runP S T.back (lp.take j)) (dirT T.back (S.txt ti)) tt v4 v11 v21 v22 wr) (fun _ _ _ v22 _ => (intOf v22).toNat)
          case atStart => exact ⟨0, tt, q1, h1, rfl, rfl, rfl, rfl, by omega, Nat.le_refl _, HQ1.out, BRun.first HRN.out, H.only4 (A := blk T.p (.cells cs 125)) (B := poolA T'.P) (C := mapA Try.prog 32 T.km (T'.es.map entV)) (D := rowsA encT 135 3 (.slice (some ⟨gr, 0, none⟩) pl c) lp) pk pk pk pk⟩
          case round =>
            clear H
            obtain ⟨jb, kk, q3, h3, rfl, rfl, rfl, rfl, hjb, hkk, hq3, hbr, H⟩ := hrel
            have HBR := Lib.hid hbr
            have hh3 := hbr.2.le
            unfold beyond at hh3
            clear hbr
            rw [hcs] at H
            by_cases hz : 0 < kk
            · have hjn : jb < n5 := HBR.out.lt hz HK2.out
              have hand := and_one_i64 kk (by omega)
              by_cases hod : kk % 2 = 1
              · have hob : ((kk : Int) % 2 == 1) = true := by rw [odd_dec]; simpa using hod
                obtain ⟨⟨ev, hv⟩, hcp⟩ : ∃ p, cps[jb]? = some p := ⟨_, List.getElem?_eq_getElem (by rw [HCL.out]; exact hjn)⟩
                have hef1 := HEF.out jb _ hcp
                rw [dirT_rep] at hef1
                have hl9 : ∀ b ∈ rep (2 ^ jb) (dirT T.back (S.txt ti)), b < 256 := fun b hb => HLT.out b (rep_mem hb)
                have hqn := HOKM.out.ends_lt hq3 hl9
                have HRC := Lib.hid (fun w hp => run_c HOKM.out hl9 hef1 hq3 HBR.out.2.le w hp)
                have HBN := Lib.hid (HBR.out.on hod)
                have hcn := HBN.out.2.le
                unfold beyond at hcn
                generalize T.mc.ends q3 (rep (2 ^ jb) (dirT T.back (S.txt ti))) = q4 at *
                generalize capN (h3 + T.mc.sum q3 (rep (2 ^ jb) (dirT T.back (S.txt ti)))) = h4 at *
                have HQ4 := Lib.hid hqn
                have HCP := Lib.hid hcp
                clear hef1 hl9 hqn hod hcp
                go_wp2_with (first | refine sL ?_ | (refine sS ?_; clear H; intro _ H) | (refine sA ?_; clear H; intro _ _ H) | refine sF ?_ | ((with_reducible refine isLoad ?_); refine AtLoad.rngT (vs := [ev, hv]) rfl rfl rfl (HROW.out.rng (H.get (A := poolA T'.P) pk) encP_len HCP.out) rfl ?_; simp only [Act.put, puA, puB, puC]) | (go_at_call 73; with_reducible refine Calls.mono (HRC.out _ (H.get (A := poolA T'.P) pk)) ?_; rintro e wc ⟨rfl, hb⟩; replace H := H.grew hb.below; clear hb))
                rw [← hcs] at H
                refine ⟨⟨jb + 1, kk / 2, q4, h4, rfl, rfl, by go_num, by first | rfl | go_num, by omega, by omega, HQ4.out, HBN.out, H.only4 (A := blk T.p (.cells cs 125)) (B := poolA T'.P) (C := mapA Try.prog 32 T.km (T'.es.map entV)) (D := rowsA encT 135 3 (.slice (some ⟨gr, 0, none⟩) pl c) lp) pk pk pk pk⟩, by simp only [intOf]; omega⟩
              · have hob : ((kk : Int) % 2 == 1) = false := by rw [odd_dec]; simpa using hod
                have HBN := Lib.hid (HBR.out.off (by omega))
                have HQ4 := Lib.hid hq3
                clear hod
                go_wp2_with (first | refine sL ?_ | (refine sS ?_; clear H; intro _ H) | (refine sA ?_; clear H; intro _ _ H) | refine sF ?_)
                rw [← hcs] at H
                refine ⟨⟨jb + 1, kk / 2, q3, h3, rfl, rfl, by go_num, by first | rfl | go_num, by omega, by omega, HQ4.out, HBN.out, H.only4 (A := blk T.p (.cells cs 125)) (B := poolA T'.P) (C := mapA Try.prog 32 T.km (T'.es.map entV)) (D := rowsA encT 135 3 (.slice (some ⟨gr, 0, none⟩) pl c) lp) pk pk pk pk⟩, by simp only [intOf]; omega⟩
            · have hk0 : kk = 0 := by omega
              have HN2 := Lib.hid (HBR.out.last hk0)
              have HQ2 := Lib.hid hq3
              subst hk0
              go_wp2_with (first | refine sL ?_ | (refine sS ?_; clear H; intro _ H) | (refine sA ?_; clear H; intro _ _ H) | refine sF ?_)
              rw [← hcs] at H
              refine ⟨⟨j + 1, q3, h3, rfl, rfl, by go_num, by omega, HQ2.out, by rw [HNX.out]; exact HN2.out, H.only4 (A := blk T.p (.cells cs 125)) (B := poolA T'.P) (C := mapA Try.prog 32 T.km (T'.es.map entV)) (D := rowsA encT 135 3 (.slice (some ⟨gr, 0, none⟩) pl c) lp) pk pk pk pk⟩, by simp [intOf]; omega⟩
      · have hje : j = pl := by omega
        have hfin : PRun T.mc q (dirT T.back goal) q1 h1 := by have := HRN.out; rw [hje, ← HLEN.out, List.take_length, HRUN.out] at this; exact this
        have hq1' := hfin.1
        have hh1' := hfin.2
        have HF := Lib.hid hfin
        subst hje
        rw [hcs] at H
        by_cases hs : T.mc.sum q (dirT T.back goal) ≤ 1152921504606846976
        · have hh2 : h1 = T.mc.sum q (dirT T.back goal) := by rw [hh1']; exact capN_big.2 hs
          have d1 : decide (1152921504606846976 < h1) = false := by simp; omega
          have d2 : decide ((1152921504606846976 : Int) < (h1 : Nat)) = false := by simp; omega
          have HQ2 := Lib.hid hq1'
          have HH2 := Lib.hid hh2
          have HS2 := Lib.hid hs
          clear hfin hq1' hh1' hh2 hs
          go_wp2_with (first | refine sL ?_ | (refine sS ?_; clear H; intro _ H) | (refine sA ?_; clear H; intro _ _ H) | refine sF ?_)
          go_ret3
          have H3 := tabA_shut_of HX.out HC2.out H pk pk pk
          exact ⟨T', by rw [if_pos HS2.out, ← HQ2.out, ← HH2.out]; rfl, HX.out, HT2.out, H3.onlyHead⟩
        · have hh2 : 1152921504606846976 < h1 := by rw [hh1']; have := (capN_big (s := T.mc.sum q (dirT T.back goal))).1; omega
          have d1 : decide (1152921504606846976 < h1) = true := by simp; omega
          have d2 : decide ((1152921504606846976 : Int) < (h1 : Nat)) = true := by simp; omega
          have HQ2 := Lib.hid hq1'
          have HH2 := Lib.hid hh2
          have HS2 := Lib.hid hs
          clear hfin hq1' hh1' hh2 hs
          go_wp2_with (first | refine sL ?_ | (refine sS ?_; clear H; intro _ H) | (refine sA ?_; clear H; intro _ _ H) | refine sF ?_)
          go_ret3
          have H3 := tabA_shut_of HX.out HC2.out H pk pk pk
          exact ⟨T', by rw [if_neg HS2.out]; rfl, HX.out, HT2.out, H3.onlyHead⟩
  · have HBK := Lib.hid hbk
    have HC2 : Hid (tabCells T = #[.pointer (some ⟨T.s, 0, none⟩), .int .i64 T.mc.start, .slice (some ⟨gc, oc, none⟩) 256 cc, .slice (some ⟨gn, on, none⟩) T.mc.n cn, .slice (some ⟨ga, oa, none⟩) T.mc.n ca, .slice (some ⟨gh, oh, none⟩) T.mc.n ch, .bool true, .map (some T.km)]) := Lib.hid (by rw [HCELLS.out, tabC, hbk])
    rw [← hbk]
    clear hbk
    go_enter Try.func40, Try.ntmps40
    go_wp2_with (first | refine sL ?_ | (refine sS ?_; clear H; intro _ H) | (refine sA ?_; clear H; intro _ _ H) | refine sF ?_ | (go_at_call 71; with_reducible refine Calls.mono (HC.out _ (H.get (A := tabA T) pk) (H.known HK pk)) ?_; rintro e wc ⟨rfl, hwc⟩; obtain rfl := hwc.symm; replace H := tabA_open H; rw [HC2.out] at H) | (go_at_call 30; with_reducible refine Calls.mono (HW1.out _ (H.known HK pk)) ?_; rintro e wc ⟨rfl, hb⟩; replace H := H.grew hb.below; clear hb) | (go_at_call 35; with_reducible refine Calls.mono (HR.out _) ?_; rintro e wc ⟨rfl, hwc⟩; obtain rfl := hwc.symm) | (go_at_call 72; replace H := tabA_shut_of (Tab.Ext.refl T) HC2.out H pk pk pk; with_reducible refine Calls.mono (HL.out _ (sep_mk (H.get (A := tabA T) pk) (H.known HK pk) HD.out)) ?_; rintro e wc ⟨T', rfl, hext, hT', hkn, hb⟩; replace H := H.pick (A := tabA T) pk; replace H := H.call hb; clear hb; simp only [List.cons_append, List.nil_append] at H; obtain ⟨p1, p2, p3, p4, p5, p6⟩ := hext.same; replace H := tabA_open H; rw [p1, p3, p4, HC2.out] at H; have HX := Lib.hid hext; have HT2 := Lib.hid hT'; have HKN := Lib.hid hkn; clear hext hT' hkn p1 p2 p3 p4 p5 p6) | (go_at_call 69; with_reducible refine Calls.mono (HO.out T' HT2.out HKN.out _ (H.known HK pk)) ?_; rintro e wc ⟨ad, c, ps, rfl, htx, hpts, hpl, hb⟩; replace H := H.call0 hb; clear hb; simp only [List.cons_append, List.nil_append] at H; have HTX := Lib.hid htx; have HPT := Lib.hid hpts; have hpsb : ps.length ≤ 7000000 := (by omega); clear htx hpts hpl) | (go_at_call 70; with_reducible refine Calls.mono (HRV.out ps ad c (by omega) _ (H.get (A := rowsA encT 135 3 (.slice ad ps.length c) ps) pk)) ?_; rintro e wc ⟨rfl, hb⟩; replace H := H.pick (A := rowsA encT 135 3 (.slice ad ps.length c) ps) pk; replace H := H.call hb; clear hb; simp only [List.cons_append, List.nil_append] at H))
    generalize hpl : ps.length = pl at *
    obtain ⟨lp, hlp⟩ : ∃ lp, lp = partsB true ps := ⟨_, rfl⟩
    rw [show ps.reverse = lp from hlp.symm] at H
    have HLEN := Lib.hid (show lp.length = pl from by rw [hlp, partsB_len, hpl])
    have HRUN := Lib.hid (show runP S T.back lp = dirT T.back goal from by rw [hlp, ← HTX.out, HBK.out]; exact runP_all S true ps)
    have HPS := Lib.hid (show ∀ t ∈ lp, PtOk S T'.Known t from fun t ht => HPT.out t (partsB_mem (hlp ▸ ht)))
    clear hlp hpl HTX HPT
    obtain ⟨cs, hcs⟩ : ∃ cs : Array Value, cs = #[.pointer (some ⟨T.s, 0, none⟩), .int .i64 T.mc.start, .slice (some ⟨gc, oc, none⟩) 256 cc, .slice (some ⟨gn, on, none⟩) T.mc.n cn, .slice (some ⟨ga, oa, none⟩) T.mc.n ca, .slice (some ⟨gh, oh, none⟩) T.mc.n ch, .bool true, .map (some T.km)] := ⟨_, rfl⟩
    rw [← hcs] at H
    go_loopw [4, 11, 78] (fun v4 v11 v78 wr => PaRel S T T' cs (tabA T).fp w q ad c pl lp v4 v11 v78 wr) (fun _ _ v78 _ => pl - (intOf v78).toNat)
    case atStart => exact ⟨0, q, 0, rfl, rfl, rfl, Nat.zero_le _, HQ.out, PRun.nil _ _, H.only4 (A := blk T.p (.cells cs 125)) (B := poolA T'.P) (C := mapA Try.prog 32 T.km (T'.es.map entV)) (D := rowsA encT 135 3 (.slice ad pl c) lp) pk pk pk pk⟩
    case round =>
      clear H
      obtain ⟨j, q1, h1, rfl, rfl, rfl, hj, hq1, hrun, H⟩ := hrel
      have hh1 := hrun.le
      unfold beyond at hh1
      have HRN := Lib.hid hrun
      have HQ1 := Lib.hid hq1
      have hn256 := HOKM.out.n256
      clear hrun
      by_cases hlt : j < pl
      · obtain ⟨⟨ti, tp, tt⟩, ht⟩ : ∃ t, lp[j]? = some t := ⟨_, List.getElem?_eq_getElem (by rw [HLEN.out]; exact hlt)⟩
        have HPO := Lib.hid (HPS.out _ (List.mem_of_getElem? ht))
        have HTK := Lib.hid (runP_take S T.back ht)
        have HLK := Lib.hid ht
        obtain ⟨gr, cr, hadr, _, _⟩ := rowsA_cases (H.get (A := rowsA encT 135 3 (.slice ad pl c) lp) pk) (by rw [HLEN.out]; omega)
        injection hadr with x1 x2 x3
        subst x1 x3
        clear ht x2
        have htid := HPO.out.le
        have htid1 := HPO.out.pos
        have htt := HPO.out.times
        simp only at htid htid1 htt
        by_cases h1t : tt = 1
        · obtain ⟨e1, n1, c1, e2, n2, c2, e3, n3, c3, hlk, hef⟩ := eff_look HX.out HT2.out (id := ti) (by omega) (.inr HPO.out.known)
          have hef' := hef (by omega)
          have hpt : S.ptTxt ⟨ti, tp, tt⟩ = S.txt ti := by rw [h1t]; exact rep_one _
          have hlt' : ∀ b ∈ dirT T.back (S.txt ti), b < 256 := fun b hb => S.txt_lt HSO.out htid b (by unfold dirT at hb; split at hb; simpa using hb; exact hb)
          have hqn := HOKM.out.ends_lt hq1 hlt'
          have HRC := Lib.hid (fun w hp => run_c HOKM.out hlt' hef' hq1 HRN.out.le w hp)
          have HNX := Lib.hid (show PRun T.mc q (runP S T.back (lp.take (j + 1))) (T.mc.ends q1 (dirT T.back (S.txt ti))) (capN (h1 + T.mc.sum q1 (dirT T.back (S.txt ti)))) from by rw [HTK.out, hpt]; exact HRN.out.app _)
          have HLO := Lib.hid hlk
          have hcn := HNX.out.le
          unfold beyond at hcn
          generalize T.mc.ends q1 (dirT T.back (S.txt ti)) = q2 at *
          generalize capN (h1 + T.mc.sum q1 (dirT T.back (S.txt ti))) = h2 at *
          have HQ2 := Lib.hid hqn
          subst h1t
          clear hlk hef hef' hpt hlt' hqn htt
          rw [hcs] at H
          go_wp2_with (first | refine sL ?_ | (refine sS ?_; clear H; intro _ H) | (refine sA ?_; clear H; intro _ _ H) | refine sF ?_ | ((with_reducible refine isLoad ?_); refine AtLoad.rngT (vs := [.int .i64 ti, .int .i64 tp, .int .i64 (1 : Nat)]) rfl rfl rfl (H.rngL (enc := encT) (xs := lp) pk encT_len HLK.out) rfl ?_; simp only [Act.put, puA, puB, puC]))
          refine wp_region_h H 16 [] [] (by kernel_rfl) (by kernel_rfl) ?_
          apply Exists.intro
          refine ⟨fun w1 hw1 HX => ?_, fun bs wr Hr => ?_⟩
          · refine sG ?_
            repeat (first | refine sQ ?_ | ((with_reducible refine isQLook ?_); refine QtLook.go (kt := 0) (et := 0) rfl rfl rfl _ (fun z => HLO.out _ ((HX z).get pk)) rfl ?_; simp only [Act.put, puA, puB, puC]) | ((with_reducible refine isQField ?_); refine QtField.rowT rfl rfl rfl rfl rfl rfl ?_; simp only [Act.put, puA, puB, puC]) | go_big_quiet_step ((go_at_call 73; with_reducible exact quiet_st_x (HRC.out _ ((HX _).get (A := poolA T'.P) pk)))) | go_big_quiet_step (fail))
            exact wpQuiet_nil rfl
          clear H
          have H := Hr
          clear Hr
          replace H := sH H; refine sT ?_
          go_wp2_with (first | refine sL ?_ | (refine sS ?_; clear H; intro _ H) | (refine sA ?_; clear H; intro _ _ H) | refine sF ?_)
          rw [← hcs] at H
          refine ⟨⟨j + 1, q2, h2, rfl, rfl, by go_num, by omega, HQ2.out, HNX.out, H.only4 (A := blk T.p (.cells cs 125)) (B := poolA T'.P) (C := mapA Try.prog 32 T.km (T'.es.map entV)) (D := rowsA encT 135 3 (.slice (some ⟨gr, 0, none⟩) pl c) lp) pk pk pk pk⟩, by simp [intOf]; omega⟩
        · obtain ⟨i, x, k, hp, hk, hx, hle⟩ : ∃ (i : Nat) (x : En) (k : Nat), tp = i + 1 ∧ T'.Known (i + 1) ∧ S.list[i]? = some (powerE x ti k) ∧ tt ≤ k := by rcases HPO.out.copies with h | h; exact absurd h h1t; exact h
          have hil := getElem_len hx
          have hkb : k ≤ 1152921504606846976 := power_le HSO.out hx
          obtain ⟨e1, n1, c1, e2, n2, c2, g5, o5, n5, c5, cps, hlk, hcl, hc64, hk2, hrow, hef⟩ := copies_look HX.out HT2.out (by omega) hk hx
          have hlk' : ∀ w, (mapA Try.prog 32 T.km (T'.es.map entV)).ho w → (Instr.lookup 123 (.map (some T.km)) (.int .i64 (tp : Int)) false).run Try.prog w = .ok (.agg #[.slice e1 n1 c1, .slice e2 n2 c2, .slice (some ⟨g5, o5, none⟩) n5 c5]) w := by rw [hp]; exact hlk
          have hpt : S.ptTxt ⟨ti, tp, tt⟩ = rep tt (S.txt ti) := rfl
          have HNX := Lib.hid (show runP S T.back (lp.take (j + 1)) = runP S T.back (lp.take j) ++ rep tt (dirT T.back (S.txt ti)) from by rw [HTK.out, hpt, dirT_rep])
          have hlt' : ∀ b ∈ dirT T.back (S.txt ti), b < 256 := fun b hb => S.txt_lt HSO.out htid b (by unfold dirT at hb; split at hb; simpa using hb; exact hb)
          have HLT := Lib.hid hlt'
          have HLO := Lib.hid hlk'
          have HROW := Lib.hid hrow
          have HEF := Lib.hid hef
          have HCL := Lib.hid hcl
          have HK2 := Lib.hid (show tt < 2 ^ n5 from by omega)
          have h1f : ((tt : Int) == 1) = false := by simp; omega
          have htb : tt ≤ 1152921504606846976 := by omega
          clear hlk hlk' hef hpt hlt' hrow hcl hk2 hp hx hk hil
          rw [hcs] at H
          go_wp2_with (first | refine sL ?_ | (refine sS ?_; clear H; intro _ H) | (refine sA ?_; clear H; intro _ _ H) | refine sF ?_ | ((with_reducible refine isLoad ?_); refine AtLoad.rngT (vs := [.int .i64 ti, .int .i64 tp, .int .i64 tt]) rfl rfl rfl (H.rngL (enc := encT) (xs := lp) pk encT_len HLK.out) rfl ?_; simp only [Act.put, puA, puB, puC]))
          refine wp_region_h H 9 [] [] (by kernel_rfl) (by kernel_rfl) ?_
          apply Exists.intro
          refine ⟨fun w1 hw1 HX => ?_, fun bs wr Hr => ?_⟩
          · refine sG ?_
            repeat (first | refine sQ ?_ | ((with_reducible refine isQLook ?_); refine QtLook.go (kt := 0) (et := 0) rfl rfl rfl _ (fun z => HLO.out _ ((HX z).get pk)) rfl ?_; simp only [Act.put, puA, puB, puC]) | ((with_reducible refine isQField ?_); refine QtField.cellT rfl rfl rfl rfl rfl rfl ?_; simp only [Act.put, puA, puB, puC]) | go_big_quiet_step (fail))
            exact wpQuiet_nil rfl
          clear H
          have H := Hr
          clear Hr
          replace H := sH H; refine sT ?_
          go_wp2_with (first | refine sL ?_ | (refine sS ?_; clear H; intro _ H) | (refine sA ?_; clear H; intro _ _ H) | refine sF ?_)
          refine wp_region_h H 4 [] [] (by kernel_rfl) (by kernel_rfl) ?_
          apply Exists.intro
          refine ⟨fun w1 hw1 HX => ?_, fun bs wr Hr => ?_⟩
          · refine sG ?_
            repeat (first | refine sQ ?_ | fail | go_big_quiet_step (fail))
            exact wpQuiet_nil rfl
          clear H
          have H := Hr
          clear Hr
          replace H := sH H; refine sT ?_
          go_wp2_with (first | refine sL ?_ | (refine sS ?_; clear H; intro _ H) | (refine sA ?_; clear H; intro _ _ H) | refine sF ?_)
          rw [← hcs] at H
          go_loopw [4, 11, 21, 22] (fun v4 v11 v21 v22 wr => BiRel S T T' cs (tabA T).fp w q (some ⟨gr, 0, none⟩) c pl lp (runP S T.back (lp.take j)) (dirT T.back (S.txt ti)) tt v4 v11 v21 v22 wr) (fun _ _ _ v22 _ => (intOf v22).toNat)
          case atStart => exact ⟨0, tt, q1, h1, rfl, rfl, rfl, rfl, by omega, Nat.le_refl _, HQ1.out, BRun.first HRN.out, H.only4 (A := blk T.p (.cells cs 125)) (B := poolA T'.P) (C := mapA Try.prog 32 T.km (T'.es.map entV)) (D := rowsA encT 135 3 (.slice (some ⟨gr, 0, none⟩) pl c) lp) pk pk pk pk⟩
          case round =>
            clear H
            obtain ⟨jb, kk, q3, h3, rfl, rfl, rfl, rfl, hjb, hkk, hq3, hbr, H⟩ := hrel
            have HBR := Lib.hid hbr
            have hh3 := hbr.2.le
            unfold beyond at hh3
            clear hbr
            rw [hcs] at H
            by_cases hz : 0 < kk
            · have hjn : jb < n5 := HBR.out.lt hz HK2.out
              have hand := and_one_i64 kk (by omega)
              by_cases hod : kk % 2 = 1
              · have hob : ((kk : Int) % 2 == 1) = true := by rw [odd_dec]; simpa using hod
                obtain ⟨⟨ev, hv⟩, hcp⟩ : ∃ p, cps[jb]? = some p := ⟨_, List.getElem?_eq_getElem (by rw [HCL.out]; exact hjn)⟩
                have hef1 := HEF.out jb _ hcp
                rw [dirT_rep] at hef1
                have hl9 : ∀ b ∈ rep (2 ^ jb) (dirT T.back (S.txt ti)), b < 256 := fun b hb => HLT.out b (rep_mem hb)
                have hqn := HOKM.out.ends_lt hq3 hl9
                have HRC := Lib.hid (fun w hp => run_c HOKM.out hl9 hef1 hq3 HBR.out.2.le w hp)
                have HBN := Lib.hid (HBR.out.on hod)
                have hcn := HBN.out.2.le
                unfold beyond at hcn
                generalize T.mc.ends q3 (rep (2 ^ jb) (dirT T.back (S.txt ti))) = q4 at *
                generalize capN (h3 + T.mc.sum q3 (rep (2 ^ jb) (dirT T.back (S.txt ti)))) = h4 at *
                have HQ4 := Lib.hid hqn
                have HCP := Lib.hid hcp
                clear hef1 hl9 hqn hod hcp
                go_wp2_with (first | refine sL ?_ | (refine sS ?_; clear H; intro _ H) | (refine sA ?_; clear H; intro _ _ H) | refine sF ?_ | ((with_reducible refine isLoad ?_); refine AtLoad.rngT (vs := [ev, hv]) rfl rfl rfl (HROW.out.rng (H.get (A := poolA T'.P) pk) encP_len HCP.out) rfl ?_; simp only [Act.put, puA, puB, puC]) | (go_at_call 73; with_reducible refine Calls.mono (HRC.out _ (H.get (A := poolA T'.P) pk)) ?_; rintro e wc ⟨rfl, hb⟩; replace H := H.grew hb.below; clear hb))
                rw [← hcs] at H
                refine ⟨⟨jb + 1, kk / 2, q4, h4, rfl, rfl, by go_num, by first | rfl | go_num, by omega, by omega, HQ4.out, HBN.out, H.only4 (A := blk T.p (.cells cs 125)) (B := poolA T'.P) (C := mapA Try.prog 32 T.km (T'.es.map entV)) (D := rowsA encT 135 3 (.slice (some ⟨gr, 0, none⟩) pl c) lp) pk pk pk pk⟩, by simp only [intOf]; omega⟩
              · have hob : ((kk : Int) % 2 == 1) = false := by rw [odd_dec]; simpa using hod
                have HBN := Lib.hid (HBR.out.off (by omega))
                have HQ4 := Lib.hid hq3
                clear hod
                go_wp2_with (first | refine sL ?_ | (refine sS ?_; clear H; intro _ H) | (refine sA ?_; clear H; intro _ _ H) | refine sF ?_)
                rw [← hcs] at H
                refine ⟨⟨jb + 1, kk / 2, q3, h3, rfl, rfl, by go_num, by first | rfl | go_num, by omega, by omega, HQ4.out, HBN.out, H.only4 (A := blk T.p (.cells cs 125)) (B := poolA T'.P) (C := mapA Try.prog 32 T.km (T'.es.map entV)) (D := rowsA encT 135 3 (.slice (some ⟨gr, 0, none⟩) pl c) lp) pk pk pk pk⟩, by simp only [intOf]; omega⟩
            · have hk0 : kk = 0 := by omega
              have HN2 := Lib.hid (HBR.out.last hk0)
              have HQ2 := Lib.hid hq3
              subst hk0
              go_wp2_with (first | refine sL ?_ | (refine sS ?_; clear H; intro _ H) | (refine sA ?_; clear H; intro _ _ H) | refine sF ?_)
              rw [← hcs] at H
              refine ⟨⟨j + 1, q3, h3, rfl, rfl, by go_num, by omega, HQ2.out, by rw [HNX.out]; exact HN2.out, H.only4 (A := blk T.p (.cells cs 125)) (B := poolA T'.P) (C := mapA Try.prog 32 T.km (T'.es.map entV)) (D := rowsA encT 135 3 (.slice (some ⟨gr, 0, none⟩) pl c) lp) pk pk pk pk⟩, by simp [intOf]; omega⟩
      · have hje : j = pl := by omega
        have hfin : PRun T.mc q (dirT T.back goal) q1 h1 := by have := HRN.out; rw [hje, ← HLEN.out, List.take_length, HRUN.out] at this; exact this
        have hq1' := hfin.1
        have hh1' := hfin.2
        have HF := Lib.hid hfin
        subst hje
        rw [hcs] at H
        by_cases hs : T.mc.sum q (dirT T.back goal) ≤ 1152921504606846976
        · have hh2 : h1 = T.mc.sum q (dirT T.back goal) := by rw [hh1']; exact capN_big.2 hs
          have d1 : decide (1152921504606846976 < h1) = false := by simp; omega
          have d2 : decide ((1152921504606846976 : Int) < (h1 : Nat)) = false := by simp; omega
          have HQ2 := Lib.hid hq1'
          have HH2 := Lib.hid hh2
          have HS2 := Lib.hid hs
          clear hfin hq1' hh1' hh2 hs
          go_wp2_with (first | refine sL ?_ | (refine sS ?_; clear H; intro _ H) | (refine sA ?_; clear H; intro _ _ H) | refine sF ?_)
          go_ret3
          have H3 := tabA_shut_of HX.out HC2.out H pk pk pk
          exact ⟨T', by rw [if_pos HS2.out, ← HQ2.out, ← HH2.out]; rfl, HX.out, HT2.out, H3.onlyHead⟩
        · have hh2 : 1152921504606846976 < h1 := by rw [hh1']; have := (capN_big (s := T.mc.sum q (dirT T.back goal))).1; omega
          have d1 : decide (1152921504606846976 < h1) = true := by simp; omega
          have d2 : decide ((1152921504606846976 : Int) < (h1 : Nat)) = true := by simp; omega
          have HQ2 := Lib.hid hq1'
          have HH2 := Lib.hid hh2
          have HS2 := Lib.hid hs
          clear hfin hq1' hh1' hh2 hs
          go_wp2_with (first | refine sL ?_ | (refine sS ?_; clear H; intro _ H) | (refine sA ?_; clear H; intro _ _ H) | refine sF ?_)
          go_ret3
          have H3 := tabA_shut_of HX.out HC2.out H pk pk pk
          exact ⟨T', by rw [if_neg HS2.out]; rfl, HX.out, HT2.out, H3.onlyHead⟩
end Go.Proofs.Ytijnhpaafhcndaa
end
section
namespace Go.Proofs.Ytijnhpaafhcndaa
open Go.RowKit Go.Maps
attribute [local go_sem] InGr
set_option maxHeartbeats 4000000
set_option maxRecDepth 100000
set_option linter.unusedSimpArgs false
set_option linter.unusedVariables false
theorem closed_all (S : Sto) : S.Closed fun _ => True := fun _ _ _ _ => ⟨fun _ => ⟨trivial, trivial⟩, fun _ => trivial⟩
def SPartsPost (S : Sto) (b : Bool) (goal : List Nat) (w : World) (e : Ending) (w' : World) : Prop :=
  ∃ ad c lp, e = .returned (.slice ad lp.length c) ∧ runP S b lp = dirT b goal ∧ (∀ t ∈ lp, PtOk S (fun _ => True) t) ∧ lp.length ≤ 6 * S.list.length + 6 ∧ St w [] [rowsA encT 135 3 (.slice ad lp.length c) lp] w'
theorem sparts_c {S : Sto} {T : Tab} {lv : Value} {m id s n : Nat} (hS : S.Ok) (hT : TabOk S T) (hid : id ≤ S.list.length) (hf : s + n ≤ (S.txt id).length) (w : World) (h1 : (tabA T).ho w) (h2 : (stoA T.s lv m S).ho w) :
    Calls Try.prog 38 #[.pointer (some ⟨T.p, 0, none⟩), .int .i64 id, .int .i64 s, .int .i64 n] w (SPartsPost S T.back (S.pcTxt ⟨id, s, n⟩) w) := by
  have H := St.nil w []
  have HK : Ks w [] [tabA T, stoA T.s lv m S] := ⟨fun A hA => by simp at hA; rcases hA with rfl | rfl; exact h1; exact h2, fun A hA b hb => by simp⟩
  have HST : Hid (∀ w, (tabA T).ho w → Calls Try.prog 44 #[.pointer (some ⟨T.p, 0, none⟩)] w fun e w' => e = .returned (.pointer (some ⟨T.s, 0, none⟩)) ∧ w' = w) := Lib.hid fun w h => store_c hT w h
  have HO : Hid (∀ w, (stoA T.s lv m S).ho w → Calls Try.prog 69 #[.pointer (some ⟨T.s, 0, none⟩), .int .i64 id, .int .i64 s, .int .i64 n] w fun e w' => ∃ ad c ps, e = .returned (.tuple #[.slice ad ps.length c, .nilIface]) ∧ textP S ps = S.pcTxt ⟨id, s, n⟩ ∧ (∀ t ∈ ps, PtOk S (fun _ => True) t) ∧ ps.length ≤ 6 * S.list.length + 6 ∧ St w [] [rowsA encT 135 3 (.slice ad ps.length c) ps] w') := Lib.hid fun w h => of_c hS (closed_all S) hid (.inr trivial) hf w h
  have HRV := Lib.hid (show ∀ (ps : List Pt) ad c, ps.length ≤ 16777216 → ∀ w, (rowsA encT 135 3 (.slice ad ps.length c) ps).ho w → Calls Try.prog 70 #[.slice ad ps.length c] w fun e w' => e = .returned (.tuple #[]) ∧ St w (rowsA encT 135 3 (.slice ad ps.length c) ps).fp [rowsA encT 135 3 (.slice ad ps.length c) ps.reverse] w' from fun ps ad c hl w h => revT_c rfl hl w h)
  have hl1 := hS.len
  have hl2 := hS.most
  have HBA : Hid (∀ w, (tabA T).ho w → Calls Try.prog 65 #[.pointer (some ⟨T.p, 0, none⟩)] w fun e w' => e = .returned (.bool T.back) ∧ w' = w) := Lib.hid fun w h => back_c hT w h
  clear hT hS h1 h2 hf
  rcases hbk : T.back with _ | _
  · have HBK := Lib.hid hbk
    have HBA2 : Hid (∀ w, (tabA T).ho w → Calls Try.prog 65 #[.pointer (some ⟨T.p, 0, none⟩)] w fun e w' => e = .returned (.bool false) ∧ w' = w) := Lib.hid (by rw [← hbk]; exact HBA.out)
    clear hbk
    go_enter Try.func38, Try.ntmps38
    go_wp2_with (first | (go_at_call 44; with_reducible refine Calls.mono (HST.out _ (H.known HK pk)) ?_; rintro e wc ⟨rfl, hwc⟩; obtain rfl := hwc.symm) | (go_at_call 65; with_reducible refine Calls.mono (HBA2.out _ (H.known HK pk)) ?_; rintro e wc ⟨rfl, hwc⟩; obtain rfl := hwc.symm) | (go_at_call 69; with_reducible refine Calls.mono (HO.out _ (H.known HK pk)) ?_; rintro e wc ⟨ad, c, ps, rfl, htx, hpts, hpl, hb⟩; replace H := H.call0 hb; clear hb; simp only [List.cons_append, List.nil_append] at H; have HTX := Lib.hid htx; have HPT := Lib.hid hpts; have HPL := Lib.hid hpl; clear htx hpts hpl))
    go_ret
    exact ⟨ad, c, ps, rfl, by rw [← HTX.out]; exact runP_all S false ps, HPT.out, HPL.out, (H.pick (A := rowsA encT 135 3 (.slice ad ps.length c) ps) pk).onlyHead⟩
  · have HBK := Lib.hid hbk
    have HBA2 : Hid (∀ w, (tabA T).ho w → Calls Try.prog 65 #[.pointer (some ⟨T.p, 0, none⟩)] w fun e w' => e = .returned (.bool true) ∧ w' = w) := Lib.hid (by rw [← hbk]; exact HBA.out)
    clear hbk
    go_enter Try.func38, Try.ntmps38
    go_wp2_with (first | (go_at_call 44; with_reducible refine Calls.mono (HST.out _ (H.known HK pk)) ?_; rintro e wc ⟨rfl, hwc⟩; obtain rfl := hwc.symm) | (go_at_call 65; with_reducible refine Calls.mono (HBA2.out _ (H.known HK pk)) ?_; rintro e wc ⟨rfl, hwc⟩; obtain rfl := hwc.symm) | (go_at_call 69; with_reducible refine Calls.mono (HO.out _ (H.known HK pk)) ?_; rintro e wc ⟨ad, c, ps, rfl, htx, hpts, hpl, hb⟩; replace H := H.call0 hb; clear hb; simp only [List.cons_append, List.nil_append] at H; have HTX := Lib.hid htx; have HPT := Lib.hid hpts; have HPL := Lib.hid hpl; have hpsb : ps.length ≤ 16777216 := (by omega); clear htx hpts hpl) | (go_at_call 70; with_reducible refine Calls.mono (HRV.out ps ad c hpsb _ (H.get (A := rowsA encT 135 3 (.slice ad ps.length c) ps) pk)) ?_; rintro e wc ⟨rfl, hb⟩; replace H := H.pick (A := rowsA encT 135 3 (.slice ad ps.length c) ps) pk; replace H := H.call hb; clear hb; simp only [List.cons_append, List.nil_append] at H))
    go_ret
    have hlr : ps.reverse.length = ps.length := List.length_reverse
    refine ⟨ad, c, ps.reverse, by rw [hlr]; rfl, by rw [← HTX.out]; exact runP_all S true ps, fun t ht => HPT.out t (List.mem_reverse.1 ht), by rw [hlr]; exact HPL.out, ?_⟩
    rw [hlr]
    exact (H.pick (A := rowsA encT 135 3 (.slice ad ps.length c) ps.reverse) pk).onlyHead
end Go.Proofs.Ytijnhpaafhcndaa
end
section
namespace Go.Proofs.Ytijnhpaafhcndaa
open Go.RowKit Go.Maps
attribute [local go_sem] InGr
set_option maxHeartbeats 4000000
set_option maxRecDepth 100000
set_option linter.unusedSimpArgs false
set_option linter.unusedVariables false
def enc16 (x : Nat) : List Value := [.int .i16 x]
theorem enc16_len (x : Nat) : (enc16 x).length = 1 := rfl
theorem St.only5 {w0 w : World} {M : List Nat} {L R1 R2 R3 R4 R5 : List As} {A B C D E : As} (h : St w0 M L w) (h1 : Pick L A R1) (h2 : Pick R1 B R2) (h3 : Pick R2 C R3) (h4 : Pick R3 D R4) (h5 : Pick R4 E R5) : St w0 M [A, B, C, D, E] w :=
  (h.perm (L' := [A, B, C, D, E] ++ R5) (h1.perm.trans ((h2.perm.trans ((h3.perm.trans ((h4.perm.trans ((h5.perm).cons _)).cons _)).cons _)).cons _))).heads
theorem St.sepK {w0 w : World} {M : List Nat} {L R K R' : List As} {A B : As} (h : St w0 M L w) (k : Ks w0 M K) (hp : Pick L A R) (hq : Pick K B R') : (A.sep B).ho w := by
  rw [sep_ho]
  refine ⟨h.get hp, h.known k hq, fun b hb hm => ?_⟩
  rcases h.own A hp.mem b hb with h' | h'
  · have := B.lt w0 (k.ho B hq.mem) b hm; omega
  · exact k.apart B hq.mem b hm h'
theorem flat_zeros (n : Nat) : flatG enc16 (List.replicate n 0) = List.replicate n (.int .i16 0) := by
  induction n with
  | zero => rfl
  | succ n ih => rw [List.replicate_succ, List.replicate_succ, ← ih]; rfl
def stepT (S : Sto) (T : Tab) (id : Nat) : Nat → Nat := fun q => T.mc.ends q (dirT T.back (S.txt id))
theorem stepT_ext {S : Sto} {T T' : Tab} (h : T.Ext T') (id : Nat) : stepT S T' id = stepT S T id := by
  obtain ⟨_, _, _, _, h1, h2⟩ := h.same
  unfold stepT; rw [h1, h2]
theorem stepT_lt {S : Sto} {T : Tab} {id : Nat} (hS : S.Ok) (hT : TabOk S T) (hid : id ≤ S.list.length) : ∀ q, q < T.mc.n → stepT S T id q < T.mc.n := fun q hq => by
  obtain ⟨c, ok⟩ := hT.ok
  exact ok.ends_lt hq fun b hb => S.txt_lt hS hid b (by unfold dirT at hb; split at hb; simpa using hb; exact hb)
def FoRel (S : Sto) (T : Tab) (id q0 times : Nat) (b8 b9 b10 : Nat) (M : List Nat) (w : World) (k : Nat) (v2 : Value) (wr : World) : Prop :=
  ∃ T' ad c xs sn, v2 = .int .i64 (itr (stepT S T id) xs.length q0 : Nat) ∧ k = sn.count 0 ∧ Way (stepT S T id) q0 xs sn ∧ T.Ext T' ∧ TabOk S T' ∧
    St w M [tabA T', rowsA encI 3 1 (.slice ad xs.length c) xs, rowsA enc16 153 1 (.slice (some ⟨b9, 0, none⟩) 256 256) sn, blk b10 (.cells #[.slice ad xs.length c, .int .i64 0] 137), blk b8 (.cells #[.slice none 0 0, .int .i64 0] 137)] wr
def FoPost (S : Sto) (T : Tab) (id q0 times : Nat) (M : List Nat) (w : World) (e : Ending) (w' : World) : Prop :=
  ∃ T' ad c xs tail, e = .returned (.agg #[.slice ad xs.length c, .int .i64 (tail : Nat)]) ∧ Orb (stepT S T id) q0 times xs tail ∧ T.Ext T' ∧ TabOk S T' ∧ St w M [tabA T', rowsA encI 3 1 (.slice ad xs.length c) xs] w'
theorem follow_c {S : Sto} {T : Tab} {lv : Value} {m id q times : Nat} (hS : S.Ok) (hT : TabOk S T) (hid : id ≤ S.list.length) (hq : q < T.mc.n) (ht : times ≤ 1152921504606846976) (w : World) (h : ((tabA T).sep (stoA T.s lv m S)).ho w) :
    Calls Try.prog 67 #[.pointer (some ⟨T.p, 0, none⟩), .int .i64 id, .int .i64 q, .int .i64 times] w (FoPost S T id q times (tabA T).fp w) := by
  have h0 := h
  rw [sep_ho] at h
  obtain ⟨h1, h2, hd⟩ := h
  have H := St.one h1
  have HK : Ks w (tabA T).fp [stoA T.s lv m S] := ⟨by simpa using h2, by simpa using fun b hb hm => hd b hm hb⟩
  have HE : Hid (∀ T', T.Ext T' → TabOk S T' → ∀ q, q < T.mc.n → ∀ w, ((tabA T').sep (stoA T.s lv m S)).ho w → Calls Try.prog 46 #[.pointer (some ⟨T.p, 0, none⟩), .int .i64 id, .int .i64 q] w (fun e w' => ∃ T'', e = .returned (.int .i64 (stepT S T id q : Nat)) ∧ T.Ext T'' ∧ TabOk S T'' ∧ St w (tabA T').fp [tabA T''] w')) := Lib.hid fun T' hx hT' q hq w h => by
    obtain ⟨x1, x2, x3, x4, x5, x6⟩ := hx.same
    have hc := send_c (lv := lv) (m := m) hS hT' hid (q := q) (by rw [x5]; exact hq) w (by rw [x2]; exact h)
    rw [x1] at hc
    with_reducible refine Calls.mono hc ?_
    rintro e w' ⟨T'', he, hx', hT'', hs⟩
    exact ⟨T'', by rw [he, x5, x6]; rfl, hx.trans hx', hT'', hs⟩
  have HLT : Hid (∀ k, itr (stepT S T id) k q < T.mc.n) := Lib.hid fun k => itr_lt (stepT_lt hS hT hid) hq
  have hn256 : T.mc.n ≤ 256 := by obtain ⟨c, ok⟩ := hT.ok; exact ok.n256
  have HTO := Lib.hid hT
  have HD := Lib.hid hd
  clear hT h0 h1 h2 hd hS hq
  go_enter Try.func67, Try.ntmps67
  go_wp2_with (first | refine sL ?_ | (refine sS ?_; clear H; intro _ H) | (refine sA ?_; clear H; intro _ _ H))
  rename_i b8 _ b9 _ b10 _ _ _
  replace H := H.pick (A := blk b9 (.cells (Array.replicate 256 (.int .i16 0)) 153)) pk
  replace H := H.conv (A' := rowsA enc16 153 1 (.slice (some ⟨b9, 0, none⟩) 256 256) (List.replicate 256 0)) (by rw [rowsA_fp', blk_fp]; rfl) fun hb => by
    rw [blk_ho] at hb
    have := rowsA_of_blk (enc := enc16) (k := 1) (xs := List.replicate 256 0) hb (by rw [List.length_replicate]; simp [maxLen]) (by rw [flat_zeros]; simp) enc16_len
    rwa [List.length_replicate] at this
  replace H := H.empty (A := rowsA encI 3 1 (.slice none 0 0) []) (rowsA_nil _) (by rw [rowsA_fp']; rfl)
  go_loopg [2] 256 (fun k v2 wr => FoRel S T id q times b8 b9 b10 (tabA T).fp w k v2 wr)
  case atStart => exact ⟨T, none, 0, [], List.replicate 256 0, rfl, by rw [List.count_replicate_self], Way.start _ _, .refl T, HTO.out, H.only5 (A := tabA T) (B := rowsA encI 3 1 (.slice none 0 0) []) (C := rowsA enc16 153 1 (.slice (some ⟨b9, 0, none⟩) 256 256) (List.replicate 256 0)) (D := blk b10 (.cells #[.slice none 0 0, .int .i64 0] 137)) (E := blk b8 (.cells #[.slice none 0 0, .int .i64 0] 137)) pk pk pk pk pk⟩
  case round =>
    clear H
    obtain ⟨T', ad, c, xs, sn, rfl, hk, hway, hext, hT', H⟩ := hrel
    have hxl := hway.len
    have hq1 := HLT.out xs.length
    have HWAY := Lib.hid hway
    have HEX := Lib.hid hext
    have HT2 := Lib.hid hT'
    have HK0 := Lib.hid hk
    have HQ := Lib.hid hq1
    generalize hqq : itr (stepT S T id) xs.length q = q1 at *
    have HQQ := Lib.hid hqq
    clear hway hext hT' hk hqq
    by_cases hle : xs.length ≤ times
    · obtain ⟨v, hv⟩ : ∃ v, sn[q1]? = some v := ⟨_, List.getElem?_eq_getElem (by rw [HWAY.out.size]; omega)⟩
      have HV := Lib.hid hv
      clear hv
      rcases Nat.eq_zero_or_pos v with h0 | h0
      · subst h0
        go_wp2_with (first | refine sL ?_ | (refine sS ?_; clear H; intro _ H) | (refine sA ?_; clear H; intro _ _ H) | ((with_reducible refine isLoad ?_); refine AtLoad.cel rfl rfl rfl rfl (rowsA_cell1 (H.get (A := rowsA enc16 153 1 (.slice (some ⟨b9, 0, none⟩) 256 256) sn) pk) enc16_len HV.out rfl) ?_; simp only [Act.put, puA, puB, puC]) | ((with_reducible refine isSlice ?_); refine AtSlice.one H rfl rfl rfl rfl rfl rfl rfl rfl rfl ?_; clear H; intro b _ H; simp only [Act.put, puA, puB, puC]) | ((with_reducible refine isAppend ?_); refine AtAppend.go (enc := encI) H rfl rfl rfl rfl rfl (by decide) (by decide) rfl pk rfl (H.at pk) [q1] rfl (by simp [flatG, encI]) encI_len encI_one (by simp; omega) ?_; clear H; intro ad9 cp9 _ H; simp only [Act.put, puA, puB, puC]) | ((with_reducible refine isStore ?_); refine AtStore.rowA (enc := enc16) (n := 256) (c := 256) H rfl rfl rfl rfl rfl rfl pk (xs.length + 1) (by first | rfl | (simp only [enc16]; go_num)) enc16_len ?bd ?_; (case bd => rw [HWAY.out.size]; omega); clear H; intro _ H; simp only [Act.put, puA, puB, puC]) | (go_at_call 46; with_reducible refine Calls.mono (HE.out T' HEX.out HT2.out q1 HQ.out _ (H.sepK HK (A := tabA T') (B := stoA T.s lv m S) pk pk)) ?_; rintro e wc ⟨T2, rfl, hext2, hT2, hb⟩; replace H := H.pick (A := tabA T') pk; replace H := H.call hb; clear hb; simp only [List.cons_append, List.nil_append] at H; have HX3 := Lib.hid hext2; have HT3 := Lib.hid hT2; clear hext2 hT2))
        obtain ⟨hw2, hc2⟩ := HWAY.out.next HQQ.out.symm (by omega) HV.out
        have hl1 : (xs ++ [q1]).length = xs.length + 1 := by simp
        go_roundg ((sn.set q1 (xs.length + 1)).count 0)
        case measure => rw [HK0.out]; exact hc2
        case rel =>
          refine ⟨T2, ad9, cp9, xs ++ [q1], sn.set q1 (xs.length + 1), ?_, rfl, hw2, HX3.out, HT3.out, ?_⟩
          · rw [hl1, itr_succ, HQQ.out]
          · rw [hl1]
            exact H.only5 (A := tabA T2) (B := rowsA encI 3 1 (.slice ad9 (xs.length + 1) cp9) (xs ++ [q1])) (C := rowsA enc16 153 1 (.slice (some ⟨b9, 0, none⟩) 256 256) (sn.set q1 (xs.length + 1))) (D := blk b10 (.cells #[.slice ad9 (xs.length + 1) cp9, .int .i64 0] 137)) (E := blk b8 (.cells #[.slice none 0 0, .int .i64 0] 137)) pk pk pk pk pk
      · obtain ⟨v', rfl⟩ : ∃ v', v = v' + 1 := ⟨v - 1, by omega⟩
        have horb : Orb (stepT S T id) q times xs v' := HWAY.out.met HQQ.out.symm HV.out
        have HORB := Lib.hid horb
        have hv' : v' < 256 := by
          rcases horb.ends with h | h
          · omega
          · omega
        clear horb h0
        go_wp2_with (first | refine sL ?_ | (refine sS ?_; clear H; intro _ H) | (refine sA ?_; clear H; intro _ _ H) | ((with_reducible refine isLoad ?_); refine AtLoad.cel rfl rfl rfl rfl (rowsA_cell1 (H.get (A := rowsA enc16 153 1 (.slice (some ⟨b9, 0, none⟩) 256 256) sn) pk) enc16_len HV.out rfl) ?_; simp only [Act.put, puA, puB, puC]))
        refine bodyPost_ret (res_row rfl H rfl pk rfl) rfl ?_
        exact ⟨T', ad, c, xs, v', rfl, HORB.out, HEX.out, HT2.out, (H.pick2 (A := tabA T') (B := rowsA encI 3 1 (.slice ad xs.length c) xs) pk pk).onlyTwo⟩
    · have horb : Orb (stepT S T id) q times xs xs.length := HWAY.out.full (by omega)
      have HORB := Lib.hid horb
      clear horb
      go_wp2_with (first | refine sL ?_ | (refine sS ?_; clear H; intro _ H) | (refine sA ?_; clear H; intro _ _ H))
      refine bodyPost_ret (res_row rfl H rfl pk rfl) rfl ?_
      exact ⟨T', ad, c, xs, xs.length, rfl, HORB.out, HEX.out, HT2.out, (H.pick2 (A := tabA T') (B := rowsA encI 3 1 (.slice ad xs.length c) xs) pk pk).onlyTwo⟩
theorem at_orb {f : Nat → Nat} {q times tail cs : Nat} {xs : List Nat} {ad : Option Addr} {c : Nat} (h : Orb f q times xs tail) (hc : cs ≤ times) (ht : times ≤ 1152921504606846976) (w : World) (hr : (rowsA encI 3 1 (.slice ad xs.length c) xs).ho w) :
    Calls Try.prog 68 #[.agg #[.slice ad xs.length c, .int .i64 (tail : Nat)], .int .i64 cs] w fun e w' => e = .returned (.int .i64 (itr f cs q : Nat)) ∧ St w [] [] w' := by
  have H := St.nil w []
  have HK := Ks.one hr
  have hp := h.pos
  have hl := h.le
  obtain ⟨g, c', hs, hlc, hcm⟩ := rowsA_cases hr hp
  unfold maxLen at hcm
  injection hs with e1 e2 e3
  subst e1 e3
  clear e2
  have HORB := Lib.hid h
  clear h hr
  by_cases hlt : cs < xs.length
  · have HG := Lib.hid (HORB.out.at_low hlt)
    generalize itr f cs q = r at *
    go_enter Try.func68, Try.ntmps68
    go_wp2_with (first | refine sL ?_ | (refine sB ?_; clear H; intro _ _ H) | ((with_reducible refine isLoad ?_); refine AtLoad.cel rfl rfl rfl rfl (rowsA_cell1 (H.known HK (A := rowsA encI 3 1 (.slice (some ⟨g, 0, none⟩) xs.length c) xs) pk) encI_len HG.out rfl) ?_; simp only [Act.put, puA, puB, puC]))
    go_ret
    exact ⟨rfl, H.nix⟩
  · obtain ⟨t1, t2, t3⟩ := HORB.out.at_high hlt hc
    have HG := Lib.hid t3
    have hm := Nat.mod_lt (cs - tail) (show 0 < xs.length - tail by omega)
    have i1 : (cs : Int) - tail = ((cs - tail : Nat) : Int) := by omega
    have i2 : (xs.length : Int) - tail = ((xs.length - tail : Nat) : Int) := by omega
    have hz : ((xs.length - tail : Nat) : Int) ≠ 0 := by omega
    have i3 : ((cs - tail : Nat) : Int).tmod ((xs.length - tail : Nat) : Int) = (((cs - tail) % (xs.length - tail) : Nat) : Int) := by simp [Int.tmod]
    have b1 : cs - tail ≤ 1152921504606846976 := by omega
    have b2 : xs.length - tail ≤ 256 := by omega
    have d0 : decide ((cs : Int) < xs.length) = false := by simp; omega
    have d1 : decide (cs < xs.length) = false := by simp; omega
    generalize itr f cs q = r at *
    generalize hr : (cs - tail) % (xs.length - tail) = r2 at *
    generalize hx1 : cs - tail = x1 at *
    generalize hx2 : xs.length - tail = x2 at *
    have HI1 := Lib.hid i1
    have HI2 := Lib.hid i2
    have HI3 := Lib.hid i3
    have hb3 : tail + r2 < xs.length := by omega
    clear hr hx1 hx2 i1 i2 i3
    go_enter Try.func68, Try.ntmps68
    go_wp2_with (first | refine sL ?_ | (refine sB ?_; clear H; intro _ _ H))
    clear t3
    have i1 := HI1.out
    have i2 := HI2.out
    have i3 := HI3.out
    refine wp_region_h H 18 [] [] (by kernel_rfl) (by kernel_rfl) ?_
    apply Exists.intro
    refine ⟨fun w1 hw1 HX => ?_, fun bs wr Hr => ?_⟩
    · refine sG ?_
      repeat (first | refine sQ ?_ | ((with_reducible refine isQLoad ?_); refine QtLoad.cel rfl rfl rfl rfl (fun y => rowsA_cell1 ((HX y).known HK (A := rowsA encI 3 1 (.slice (some ⟨g, 0, none⟩) xs.length c) xs) pk) encI_len HG.out rfl) ?_; simp only [Act.put, puA, puB, puC]) | go_big_quiet_step (fail))
      exact wpQuiet_nil rfl
    clear H
    have H := Hr
    clear Hr
    replace H := sH H; refine sT ?_
    go_wp2_with (first | refine sL ?_ | (refine sB ?_; clear H; intro _ _ H))
    go_ret
    exact ⟨rfl, H.nix⟩
end Go.Proofs.Ytijnhpaafhcndaa
end
section
namespace Go.Proofs.Ytijnhpaafhcndaa
set_option linter.unusedSimpArgs false
set_option linter.unusedVariables false
open Go.RowKit
structure GS where
  D : List Nat
  R : Value → List Value → Prop
def gAt (Ss : List GS) (k : Nat) : GS := Ss.getD k ⟨[], fun _ _ => True⟩
def gFact (Ss : List GS) (vals : Nat → Value) (k : Nat) : Prop := (gAt Ss k).R (vals k) ((gAt Ss k).D.map vals)
def cAt (Cs : List ((Nat → Value) → World → Prop)) (s : Nat) (vals : Nat → Value) (w : World) : Prop := Cs.getD s (fun _ _ => True) vals w
def upV (vals : Nat → Value) (k : Nat) (v : Value) : Nat → Value := fun i => if i = k then v else vals i
theorem upV_self (vals : Nat → Value) (k : Nat) (v : Value) : upV vals k v k = v := by simp [upV]
theorem upV_ne (vals : Nat → Value) {k i : Nat} (v : Value) (h : i ≠ k) : upV vals k v i = vals i := by simp [upV, h]
def feasB (ops : Array Oper) (Bs : List Nat) (k s : Nat) : Bool := Bs.zipIdx.all fun p => (!reachB ops ops.size k p.1 || decide (p.2 < s)) && (!reachB ops ops.size p.1 k || decide (s ≤ p.2)) && (decide (p.1 ≠ k) || decide (s = p.2))
def sgB (ops : Array Oper) (m : Nat) (Ss : List GS) (Bs : List Nat) (SL : List (List Nat)) : Bool :=
  growB ops m && ((List.range m).all fun k => (gAt Ss k).D.all fun i => decide (i < m) && reachB ops ops.size k i) && (Bs.all fun b => decide (b < m)) &&
  ((List.range Bs.length).all fun j => (List.range j).all fun i => reachB ops ops.size (Bs.getD j 0) (Bs.getD i 0)) &&
  ((List.range m).all fun k => (List.range (Bs.length + 1)).all fun s => !feasB ops Bs k s || (SL.getD k []).contains s)
theorem feas_spec {ops : Array Oper} {Bs : List Nat} {k s : Nat} (h : ∀ i b, Bs[i]? = some b → (reachB ops ops.size k b = true → i < s) ∧ (reachB ops ops.size b k = true → s ≤ i) ∧ (b = k → s = i)) : feasB ops Bs k s = true := by
  unfold feasB
  rw [List.all_eq_true]
  rintro ⟨b, i⟩ hp
  have hb : Bs[i]? = some b := by
    have := List.mem_zipIdx hp
    simp at this
    rw [List.getElem?_eq_some_iff]
    exact ⟨this.1, this.2.symm⟩
  obtain ⟨h1, h2, h3⟩ := h i b hb
  simp only [Bool.and_eq_true, Bool.or_eq_true, Bool.not_eq_true', decide_eq_true_eq]
  refine ⟨⟨?_, ?_⟩, ?_⟩
  · cases hr : reachB ops ops.size k b with
    | false => exact .inl rfl
    | true => exact .inr (h1 hr)
  · cases hr : reachB ops ops.size b k with
    | false => exact .inl rfl
    | true => exact .inr (h2 hr)
  · by_cases e : b = k
    · exact .inr (h3 e)
    · exact .inl e
section
variable {P : Program} {ops : Array Oper}
theorem wpAny_sg {m : Nat} {Ss : List GS} {Bs : List Nat} {SL : List (List Nat)} {Cs : List ((Nat → Value) → World → Prop)} (hB : sgB ops m Ss Bs SL = true) {Q : Exit → Act → World → Prop} (a0 : Act)
    (step : ∀ k o, k < m → ops[k]? = some o → ∀ s, s ∈ SL.getD k [] → ∀ vals w, (∀ i ∈ (gAt Ss k).D, gFact Ss vals i) → cAt Cs s vals w →
      StStep P ops o (putL ops vals (depsOf ops k) a0) w fun v w' => (gAt Ss k).R v ((gAt Ss k).D.map vals) ∧ cAt Cs (if Bs.contains k then s + 1 else s) (upV vals k v) w')
    (fin : ∀ vals w, (∀ i, i < m → gFact Ss vals i) → cAt Cs Bs.length vals w → wpAny P .any ops Q (ops.size - m) (flags ops.size m) (putL ops vals (List.range m) a0) w) :
    ∀ (d : Nat) (order : List Nat) (listed : Array Bool) (vals : Nat → Value) (s : Nat) (w : World), d + order.length = m → order.Nodup → (∀ i ∈ order, i < m) → listed.size = ops.size →
      (∀ j, j < ops.size → listed[j]? = some (decide (j ∈ order))) → s ≤ Bs.length → (∀ i b, Bs[i]? = some b → (b ∈ order ↔ i < s)) → cAt Cs s vals w → (∀ i ∈ order, gFact Ss vals i) →
      (∀ k ∈ order, ∀ o, ops[k]? = some o → ∀ e ∈ o.after, Region.binds .any e = true → e.on ∈ order) →
      wpAny P .any ops Q (ops.size - order.length) listed (putL ops vals order a0) w := by
  simp only [sgB, Bool.and_eq_true] at hB
  obtain ⟨⟨⟨⟨hB1, hBD⟩, hBm⟩, hBc⟩, hBf⟩ := hB
  have hok : GrowOk ops m [] := growOk_of hB1
  have hSD : ∀ k, k < m → ∀ i ∈ (gAt Ss k).D, reachB ops ops.size k i = true := fun k hk i hi => by
    have := List.all_eq_true.1 (List.all_eq_true.1 hBD k (List.mem_range.2 hk)) i hi
    simp only [Bool.and_eq_true] at this
    exact this.2
  have hbm : ∀ (i b : Nat), Bs[i]? = some b → b < m := fun i b hb => by simpa using List.all_eq_true.1 hBm b (List.mem_of_getElem? hb)
  have hchain : ∀ (i j b c : Nat), i < j → Bs[i]? = some b → Bs[j]? = some c → reachB ops ops.size c b = true := fun i j b c hij hb hc => by
    have hj : j < Bs.length := (List.getElem?_eq_some_iff.1 hc).1
    have := List.all_eq_true.1 (List.all_eq_true.1 hBc j (List.mem_range.2 hj)) i (List.mem_range.2 hij)
    simpa [List.getD_eq_getElem?_getD, hb, hc] using this
  have hfeas : ∀ k s, k < m → s ≤ Bs.length → feasB ops Bs k s = true → s ∈ SL.getD k [] := fun k s hk hs h => by
    have := List.all_eq_true.1 (List.all_eq_true.1 hBf k (List.mem_range.2 hk)) s (List.mem_range.2 (by omega))
    simpa [h] using this
  intro d
  induction d with
  | zero =>
    intro order listed vals s w hd hn hlt hsz hl hs hst hg hR hC
    have hlen : order.length = m := by omega
    have hall := (length_le_of hn hlt).2 hlen
    have e1 : listed = flags ops.size m := by
      apply Array.ext_getElem?
      intro j
      by_cases hj : j < ops.size
      · rw [hl j hj, flags_get _ _ _ hj]
        congr 1
        have : (j ∈ order) ↔ j < m := ⟨hlt j, hall j⟩
        simp [this]
      · rw [Array.getElem?_eq_none (by omega), Array.getElem?_eq_none (by rw [flags_size]; omega)]
    have e2 : putL ops vals order a0 = putL ops vals (List.range m) a0 := by
      have ht : (putL ops vals order a0).tmps = (putL ops vals (List.range m) a0).tmps := by
        apply Array.ext_getElem?
        intro t
        exact putL_same vals t (fun i j => hok.uniq i j t) _ _ _ fun i _ => by rw [List.mem_range]; exact ⟨hlt i, hall i⟩
      have hdf : (putL ops vals order a0).defers = (putL ops vals (List.range m) a0).defers := by rw [putL_defers, putL_defers]
      generalize putL ops vals order a0 = x at *
      generalize putL ops vals (List.range m) a0 = y at *
      cases x; cases y; simp only at ht hdf; subst ht hdf; rfl
    rw [e1, e2, hlen]
    have hsl : s = Bs.length := by
      rcases Nat.lt_or_ge s Bs.length with h | h
      · obtain ⟨b, hb⟩ : ∃ b, Bs[s]? = some b := ⟨_, List.getElem?_eq_getElem h⟩
        have := (hst s b hb).1 (hall b (hbm s b hb))
        omega
      · omega
    rw [hsl] at hg
    exact fin vals w (fun i hi => hR i (hall i hi)) hg
  | succ d ih =>
    intro order listed vals s w hd hn hlt hsz hl hs hst hg hR hC
    have hm : m ≤ ops.size := hok.le
    obtain ⟨f, hf⟩ : ∃ f, ops.size - order.length = f + 1 := ⟨ops.size - order.length - 1, by omega⟩
    rw [hf]
    have hex : ∃ i, i < m ∧ i ∉ order := Classical.byContradiction fun h => by
      have : ∀ i, i < m → i ∈ order := fun i hi => Classical.byContradiction fun h' => h ⟨i, hi, h'⟩
      have := le_length_of this
      omega
    have hT : ∀ j, listed.getD j false = true → j ∈ order := fun j hj => by
      by_cases hj2 : j < ops.size
      · rw [Array.getD_eq_getD_getElem?, hl j hj2] at hj
        simpa using hj
      · rw [Array.getD_eq_getD_getElem?, Array.getElem?_eq_none (by omega)] at hj
        simp at hj
    have hF : ∀ j, j < ops.size → listed.getD j true = false → j ∉ order := fun j hj2 hj => by
      rw [Array.getD_eq_getD_getElem?, hl j hj2] at hj
      simpa using hj
    refine ⟨fun h0 => ?_, fun j hj => ?_⟩
    · exfalso
      obtain ⟨i, hi, hno⟩ := hex
      have : ∀ i, i < m → i ∉ order → False := fun i => by
        induction i using Nat.strongRecOn with
        | _ i ihi =>
          intro hi hno
          obtain ⟨o, ho⟩ : ∃ o, ops[i]? = some o := ⟨ops[i], by simp⟩
          have hr : i ∈ Region.ready .any ops listed := mem_ready.2 ⟨by rw [Array.getD_eq_getD_getElem?, hl i (by omega)]; simp [hno], o, ho, fun e he hb => by
            have hlt' := hok.back i o ho e he hb
            by_cases hin : e.on ∈ order
            · rw [Array.getD_eq_getD_getElem?, hl _ (by omega)]; simp [hin]
            · exact (ihi e.on hlt' (by omega) hin).elim⟩
          rw [h0] at hr
          cases hr
      exact this i hi hno
    · obtain ⟨hun, o, ho, hall⟩ := mem_ready.1 hj
      have hjn : j < ops.size := (Array.getElem?_eq_some_iff.1 ho).1
      have hjo : j ∉ order := hF j hjn hun
      have hjm : j < m := by
        rcases Nat.lt_or_ge j m with h | h
        · exact h
        · obtain ⟨i, hi, hno⟩ := hex
          exact absurd (reach_in hC ops.size j i o ho (fun e he hb => hT e.on (hall e he hb)) (hok.tail j o ho h i (by omega) (by simp))) hno
      have hreach : ∀ i, reachB ops ops.size j i = true → i ∈ order := fun i h => reach_in hC ops.size j i o ho (fun e he hb => hT e.on (hall e he hb)) h
      have hreach' : ∀ k ∈ order, ∀ i, reachB ops ops.size k i = true → i ∈ order := fun k hk i h => by
        have hkm := hlt k hk
        obtain ⟨ok, hok'⟩ : ∃ ok, ops[k]? = some ok := ⟨ops[k], by simp⟩
        exact reach_in hC ops.size k i ok hok' (hC k hk ok hok') h
      have hdeps : ∀ i ∈ depsOf ops j, i ∈ order := fun i hi => by
        obtain ⟨e, he, hb, hon⟩ := hok.deps j o ho i hi
        exact hT i (by rw [← hon]; exact hall e he hb)
      obtain ⟨hex1, hw1⟩ := exec_same hok ho vals order a0 hdeps (no_wait hC hjo)
      have hinD : ∀ i ∈ (gAt Ss j).D, i ∈ order := fun i hi => hreach i (hSD j hjm i hi)
      have hDj : ∀ i ∈ (gAt Ss j).D, i ≠ j := fun i hi e => hjo (e ▸ hinD i hi)
      have hfe0 : feasB ops Bs j s = true := feas_spec fun i b hb => by
        refine ⟨fun h => (hst i b hb).1 (hreach b h), fun h => ?_, fun h => ?_⟩
        · rcases Nat.lt_or_ge i s with hi | hi
          · exact absurd (hreach' b ((hst i b hb).2 hi) j h) hjo
          · exact hi
        · subst h
          rcases Nat.lt_trichotomy i s with hi | hi | hi
          · exact absurd ((hst i b hb).2 hi) hjo
          · exact hi.symm
          · have hil : i < Bs.length := (List.getElem?_eq_some_iff.1 hb).1
            obtain ⟨c, hc⟩ : ∃ c, Bs[s]? = some c := ⟨_, List.getElem?_eq_getElem (by omega)⟩
            have := (hst s c hc).1 (hreach c (hchain s i c b hi hc hb))
            omega
      have hfe : s ∈ SL.getD j [] := hfeas j s hjm hs hfe0
      have hstep := step j o hjm ho s hfe vals w (fun i hi => hR i (hinD i hi)) hg
      have next : ∀ v w', (gAt Ss j).R v ((gAt Ss j).D.map vals) → cAt Cs (if Bs.contains j then s + 1 else s) (upV vals j v) w' →
          wpAny P .any ops Q f (listed.setIfInBounds j true) ((putL ops vals order a0).put o.dst v) w' := fun v w' hRv hst' => by
        have hne : ∀ i ∈ order, upV vals j v i = vals i := fun i hi => upV_ne vals v fun e => hjo (e ▸ hi)
        have hmapD : ∀ k, k = j ∨ k ∈ order → (gAt Ss k).D.map (upV vals j v) = (gAt Ss k).D.map vals := fun k hk => List.map_congr_left fun i hi => by
          rcases hk with rfl | hk
          · exact hne i (hinD i hi)
          · exact hne i (hreach' k hk i (hSD k (hlt k hk) i hi))
        have hp : (putL ops vals order a0).put o.dst v = putL ops (upV vals j v) (order ++ [j]) a0 := by
          rw [putL_snoc, putL_congr order a0 hne]
          simp [dstAt, ho, upV_self]
        rw [hp]
        have hf' : f = ops.size - (order ++ [j]).length := by simp; omega
        rw [hf']
        have hnew : (if Bs.contains j then s + 1 else s) ≤ Bs.length ∧ ∀ i b, Bs[i]? = some b → (b ∈ order ++ [j] ↔ i < if Bs.contains j then s + 1 else s) := by
          by_cases hbj : j ∈ Bs
          · obtain ⟨t, ht⟩ := List.getElem?_of_mem hbj
            have hts : t = s := by
              have hfe2 := hfe0
              unfold feasB at hfe2
              rw [List.all_eq_true] at hfe2
              have := hfe2 (j, t) (by rw [List.mem_iff_getElem?]; exact ⟨t, by simp [List.getElem?_zipIdx, ht]⟩)
              simp only [Bool.and_eq_true, Bool.or_eq_true, decide_eq_true_eq] at this
              rcases this.2 with h | h
              · exact absurd rfl h
              · exact h.symm
            subst hts
            have htl : t < Bs.length := (List.getElem?_eq_some_iff.1 ht).1
            simp only [List.contains_eq_mem, hbj, decide_true, if_true]
            refine ⟨by omega, fun i b hb => ?_⟩
            rw [List.mem_append, hst i b hb]
            simp only [List.mem_singleton]
            constructor
            · rintro (h | h)
              · omega
              · subst h
                rcases Nat.lt_trichotomy i t with hi | hi | hi
                · omega
                · omega
                · have := hreach _ (hchain t i b b hi ht hb)
                  exact absurd this hjo
            · intro h
              rcases Nat.lt_or_ge i t with hi | hi
              · exact .inl hi
              · have : i = t := by omega
                subst this
                exact .inr (Option.some.inj (hb.symm.trans ht))
          · simp only [List.contains_eq_mem, hbj, decide_false, if_false, Bool.false_eq_true]
            refine ⟨hs, fun i b hb => ?_⟩
            rw [List.mem_append, hst i b hb]
            simp only [List.mem_singleton]
            exact ⟨fun h => by
              rcases h with h | h
              · exact h
              · subst h; exact absurd (List.mem_of_getElem? hb) hbj, .inl⟩
        refine ih (order ++ [j]) _ _ _ w' (by simp; omega) (List.nodup_append.2 ⟨hn, by simp, fun x hx y hy => by simp at hy; rintro rfl; exact hjo (hy ▸ hx)⟩)
          (fun i hi => ?_) (by simpa using hsz) (fun i hi => ?_) hnew.1 hnew.2 hst' (fun i hi => ?_) (fun k hk o' ho' e he hb => ?_)
        · simp at hi
          rcases hi with hi | hi
          · exact hlt i hi
          · omega
        · by_cases hij : i = j
          · subst hij
            rw [Array.getElem?_setIfInBounds_self]
            simp [show i < listed.size by omega]
          · rw [Array.getElem?_setIfInBounds_ne (Ne.symm hij), hl i hi]
            simp [hij]
        · simp at hi
          have : gFact Ss (upV vals j v) i = if i = j then (gAt Ss j).R v ((gAt Ss j).D.map vals) else gFact Ss vals i := by
            by_cases hij : i = j
            · subst hij
              unfold gFact
              rw [hmapD i (.inl rfl), upV_self]
              simp
            · rcases hi with hi | hi
              · unfold gFact
                rw [hmapD i (.inr hi), upV_ne vals v hij]
                simp [hij]
              · exact absurd hi hij
          rw [this]
          split
          · exact hRv
          · rename_i hij
            rcases hi with hi | hi
            · exact hR i hi
            · exact absurd hi hij
        · simp at hk ⊢
          rcases hk with hk | hk
          · exact .inl (hC k hk o' ho' e he hb)
          · subst hk
            obtain rfl : o' = o := Option.some.inj (ho'.symm.trans ho)
            exact .inl (hT e.on (hall e he hb))
      have hs := hstep
      unfold StStep at hs
      unfold wpOp
      simp only [ho]
      rw [hw1]
      split
      · rename_i hw
        rw [if_pos hw] at hs
        refine .inl ?_
        unfold stAt at hs
        unfold Oper.wp
        rw [hex1]
        generalize (execOp (putL ops vals (depsOf ops j) a0).eval o).run P w = r at hs
        cases r with
        | ok n w' =>
          cases n <;> simp only [stUpon] at hs <;> simp only [Oper.upon]
          case value u => exact next _ _ hs.1 hs.2
          case skip => exact next _ _ hs.1 hs.2
          case enter f args => exact hs.mono fun e w'' ⟨v, he, h1, h2⟩ => by subst he; exact next _ _ h1 h2
        | halt x w' => simp only [stUpon] at hs
      · rename_i hw
        rw [if_neg hw] at hs
        exact next _ _ hs.1 hs.2
theorem wp_region_sg {id : Nat} {Q : Exit → Act → World → Prop} {a : Act} {w : World} {l : List Oper} (m : Nat) (Ss : List GS) (Bs : List Nat) (SL : List (List Nat)) (Cs : List ((Nat → Value) → World → Prop)) (hm : P.follows .mixedOrders = true)
    (hB : (sgB l.toArray m Ss Bs SL && Region.seqB .any l.toArray (l.length - m) m (flags l.length m)) = true) (H : cAt Cs 0 (fun _ => undef) w.drew)
    (step : ∀ k o, k < m → l[k]? = some o → ∀ s, s ∈ SL.getD k [] → ∀ vals w, (∀ i ∈ (gAt Ss k).D, gFact Ss vals i) → cAt Cs s vals w →
      StStep P l.toArray o (putL l.toArray vals (depsOf l.toArray k) a) w fun v w' => (gAt Ss k).R v ((gAt Ss k).D.map vals) ∧ cAt Cs (if Bs.contains k then s + 1 else s) (upV vals k v) w')
    (fin : ∀ vals w, (∀ i, i < m → gFact Ss vals i) → cAt Cs Bs.length vals w → wpList P l.toArray Q (l.drop m) (putL l.toArray vals (List.range m) a) w) : (Code.region id l.toArray true).wp P Q a w := by
  simp only [Bool.and_eq_true] at hB
  have hB' := hB.1
  have hok : GrowOk l.toArray m [] := by
    simp only [sgB, Bool.and_eq_true] at hB'
    exact growOk_of hB'.1.1.1.1
  have hle : m ≤ l.length := by simpa using hok.le
  refine wp_region_any hm ?_
  have := wpAny_sg (P := P) (Q := Q) hB.1 a (fun k o hk ho => step k o hk (by simpa using ho)) (fun vals w' hR hst => by
    have := wpAny_of_seq (P := P) (md := .any) (Q' := Q) (l.drop m) m (flags l.length m) (putL l.toArray vals (List.range m) a) w' (fun j => by simp [List.getElem?_drop]) (by simpa using hB.2) (fin vals w' hR hst)
    simpa using this) m [] (Array.replicate l.length false) (fun _ => undef) 0 { w with drawn := w.drawn + 1 } (by simp) (by simp) (by simp) (by simp) (fun j hj => by
      have hj' : j < l.length := by simpa using hj
      simp [hj']) (by simp) (by simp) (by simpa using H) (by simp) (by simp)
  simpa [putL] using this
def GFacts (Ss : List GS) (vals : Nat → Value) : List Nat → Prop
  | [] => True
  | i :: is => gFact Ss vals i ∧ GFacts Ss vals is
theorem gfacts_of {Ss : List GS} {vals : Nat → Value} : ∀ {is : List Nat}, (∀ i ∈ is, gFact Ss vals i) → GFacts Ss vals is
  | [], _ => trivial
  | i :: is, h => ⟨h i (by simp), gfacts_of fun j hj => h j (by simp [hj])⟩
def GStep (P : Program) (ops : Array Oper) (a : Act) (Ss : List GS) (Cs : List ((Nat → Value) → World → Prop)) (k : Nat) (d : List (Nat × Tmp)) (g : GS) (o : Oper) (big : Bool) : List Nat → Prop
  | [] => True
  | s :: ss => (∀ vals w, GFacts Ss vals g.D → cAt Cs s vals w → StStep P ops o (putS d vals a) w fun v w' => g.R v (g.D.map vals) ∧ cAt Cs (if big then s + 1 else s) (upV vals k v) w') ∧ GStep P ops a Ss Cs k d g o big ss
theorem gstep_spec {a : Act} {Ss : List GS} {Cs : List ((Nat → Value) → World → Prop)} {k : Nat} {d : List (Nat × Tmp)} {g : GS} {o : Oper} {big : Bool} : ∀ {ss : List Nat}, GStep P ops a Ss Cs k d g o big ss → ∀ s ∈ ss, ∀ vals w, GFacts Ss vals g.D → cAt Cs s vals w → StStep P ops o (putS d vals a) w fun v w' => g.R v (g.D.map vals) ∧ cAt Cs (if big then s + 1 else s) (upV vals k v) w'
  | [], _, s, hs => by cases hs
  | s0 :: ss, h, s, hs => by
    rcases List.mem_cons.1 hs with rfl | hs
    · exact h.1
    · exact gstep_spec h.2 s hs
def GSteps (P : Program) (ops : Array Oper) (a : Act) (Ss0 : List GS) (Cs : List ((Nat → Value) → World → Prop)) (Bs : List Nat) : Nat → List (List (Nat × Tmp)) → List GS → List (List Nat) → List Oper → Prop
  | k, d :: DS, g :: Ss, ss :: SL, o :: rest => GStep P ops a Ss0 Cs k d g o (Bs.contains k) ss ∧ GSteps P ops a Ss0 Cs Bs (k + 1) DS Ss SL rest
  | _, _, _, _, [] => True
  | _, _, _, _, _ => False
theorem gsteps_spec {a : Act} {Ss0 : List GS} {Cs : List ((Nat → Value) → World → Prop)} {Bs : List Nat} : ∀ {l : List Oper} {k0 : Nat} {DS : List (List (Nat × Tmp))} {Ss : List GS} {SL : List (List Nat)}, GSteps P ops a Ss0 Cs Bs k0 DS Ss SL l → ∀ (k : Nat) (o : Oper), l[k]? = some o →
    ∃ d g ss, DS[k]? = some d ∧ Ss[k]? = some g ∧ SL[k]? = some ss ∧ GStep P ops a Ss0 Cs (k0 + k) d g o (Bs.contains (k0 + k)) ss
  | [], _, _, _, _, _, k, o, h => by simp at h
  | _ :: _, _, [], _, _, hs, _, _, _ => by simp [GSteps] at hs
  | _ :: _, _, _ :: _, [], _, hs, _, _, _ => by simp [GSteps] at hs
  | _ :: _, _, _ :: _, _ :: _, [], hs, _, _, _ => by simp [GSteps] at hs
  | o' :: rest, k0, d :: DS, g :: Ss, ss :: SL, hs, 0, o, h => by
    simp at h; subst h
    exact ⟨d, g, ss, rfl, rfl, rfl, hs.1⟩
  | o' :: rest, k0, d :: DS, g :: Ss, ss :: SL, hs, k + 1, o, h => by
    have := gsteps_spec hs.2 k o (by simpa using h)
    rw [show k0 + (k + 1) = k0 + 1 + k by omega]
    simpa using this
def sgxB (l : List Oper) (m : Nat) (Ss : List GS) (Bs : List Nat) (SL : List (List Nat)) (DS : List (List (Nat × Tmp))) (S : List (Nat × Tmp)) : Bool :=
  sgB l.toArray m Ss Bs SL && Region.seqB .any l.toArray (l.length - m) m (flags l.length m) && slotsB l.toArray S && decide (S.map (·.1) = (List.range m).filter fun i => (dstAt l.toArray i).isSome) &&
  DS.all (slotsB l.toArray) && decide (DS.map (fun d => d.map (·.1)) = (List.range m).map (depsOf l.toArray))
theorem wp_region_sgx {id : Nat} {Q : Exit → Act → World → Prop} {a : Act} {w : World} {l : List Oper} (m : Nat) (Ss : List GS) (Bs : List Nat) (SL : List (List Nat)) (Cs : List ((Nat → Value) → World → Prop)) (DS : List (List (Nat × Tmp))) (S : List (Nat × Tmp)) (hm : P.follows .mixedOrders = true)
    (hB : sgxB l m Ss Bs SL DS S = true) (H : cAt Cs 0 (fun _ => undef) w.drew) (step : GSteps P l.toArray a Ss Cs Bs 0 DS Ss SL (l.take m))
    (fin : ∀ vals w, GFacts Ss vals (List.range m) → cAt Cs Bs.length vals w → wpList P l.toArray Q (l.drop m) (putS S vals a) w) : (Code.region id l.toArray true).wp P Q a w := by
  simp only [sgxB, Bool.and_eq_true, decide_eq_true_eq] at hB
  obtain ⟨⟨⟨⟨⟨h1, h2⟩, h3⟩, h4⟩, h5⟩, h6⟩ := hB
  refine wp_region_sg m Ss Bs SL Cs hm (by rw [h1, h2]; rfl) H (fun k o hk ho s hs vals w hD hst => ?_) (fun vals w hR hst => ?_)
  · obtain ⟨d, g, ss, hd, hg, hss, hh⟩ := gsteps_spec step k o (by rw [List.getElem?_take, if_pos hk]; exact ho)
    have hdep : d.map (·.1) = depsOf l.toArray k := by
      have := congrArg (·[k]?) h6
      simp only [List.getElem?_map, hd, Option.map_some] at this
      rw [List.getElem?_range hk] at this
      simpa using this
    have hslots : slotsB l.toArray d = true := List.all_eq_true.1 h5 d (List.mem_of_getElem? hd)
    have hgk : gAt Ss k = g := by simp [gAt, List.getD, hg]
    have hsk : SL.getD k [] = ss := by simp [List.getD, hss]
    rw [Nat.zero_add] at hh
    have := gstep_spec hh s (hsk ▸ hs) vals w (gfacts_of (by rw [← hgk]; exact hD)) hst
    rw [putS_putL vals d a hslots, hdep] at this
    rw [hgk]
    exact this
  · have := fin vals w (gfacts_of fun i hi => hR i (List.mem_range.1 hi)) hst
    rwa [putS_putL vals S a h3, h4, ← putL_filter] at this
end
end Go.Proofs.Ytijnhpaafhcndaa
end
section
namespace Go.Proofs.Ytijnhpaafhcndaa
open Go.RowKit Go.Maps
attribute [local go_sem] InGr
set_option maxHeartbeats 4000000
set_option maxRecDepth 100000
set_option linter.unusedSimpArgs false
set_option linter.unusedVariables false
theorem St.apart2 {w0 w : World} {M : List Nat} {L R R' : List As} {A B : As} (h : St w0 M L w) (h1 : Pick L A R) (h2 : Pick R B R') : ∀ b ∈ A.fp, b ∉ B.fp := by
  have := (h.pick2 h1 h2).dis
  exact (List.pairwise_cons.1 this).1 B (by simp)
theorem itr_text {S : Sto} {T : Tab} (t : Pt) (q : Nat) : itr (stepT S T t.id) t.times q = T.mc.ends q (dirT T.back (S.ptTxt t)) := by
  unfold Sto.ptTxt stepT
  rw [dirT_rep, ends_rep]
theorem ptok_times {S : Sto} {K : Nat → Prop} (hS : S.Ok) {t : Pt} (h : PtOk S K t) : t.times ≤ 1152921504606846976 := by
  rcases h.copies with h | ⟨i, x, k, _, _, hx, hk⟩
  · omega
  · have := power_le hS hx; omega
def ThRel (S : Sto) (T : Tab) (q0 : Nat) (lp : List Pt) (M : List Nat) (w : World) (v2 v11 : Value) (wr : World) : Prop :=
  ∃ T' j, v2 = .int .i64 (T.mc.ends q0 (runP S T.back (lp.take j)) : Nat) ∧ v11 = .int .i64 (j : Nat) ∧ j ≤ lp.length ∧ T.Ext T' ∧ TabOk S T' ∧ St w M [tabA T'] wr
attribute [local go_sem] StStep stAt stUpon in
theorem through_c {S : Sto} {T : Tab} {lv : Value} {m q : Nat} {lp : List Pt} {ad : Option Addr} {c : Nat} (hS : S.Ok) (hT : TabOk S T) (hq : q < T.mc.n) (hlp : ∀ t ∈ lp, PtOk S (fun _ => True) t) (w : World) (h : ((tabA T).sep (stoA T.s lv m S)).ho w) (hr : (rowsA encT 135 3 (.slice ad lp.length c) lp).ho w) (hap : ∀ b ∈ (rowsA encT 135 3 (.slice ad lp.length c) lp).fp, b ∉ (tabA T).fp) :
    Calls Try.prog 37 #[.pointer (some ⟨T.p, 0, none⟩), .slice ad lp.length c, .int .i64 q] w (TabPost S T (.int .i64 (T.mc.ends q (runP S T.back lp) : Nat)) (tabA T).fp w) := by
  rw [sep_ho] at h
  obtain ⟨h1, h2, hd⟩ := h
  have H := St.one h1
  have HK : Ks w (tabA T).fp [stoA T.s lv m S, rowsA encT 135 3 (.slice ad lp.length c) lp] := ⟨by simp [h2, hr], by simpa using ⟨fun b hb hm => hd b hm hb, hap⟩⟩
  have HF : Hid (∀ T', T.Ext T' → TabOk S T' → ∀ id q times, id ≤ S.list.length → q < T.mc.n → times ≤ 1152921504606846976 → ∀ w, ((tabA T').sep (stoA T.s lv m S)).ho w → Calls Try.prog 67 #[.pointer (some ⟨T.p, 0, none⟩), .int .i64 (id : Nat), .int .i64 (q : Nat), .int .i64 (times : Nat)] w (fun e w' => ∃ T'' ad c xs tail, e = .returned (.agg #[.slice ad xs.length c, .int .i64 (tail : Nat)]) ∧ Orb (stepT S T id) q times xs tail ∧ T.Ext T'' ∧ TabOk S T'' ∧ St w (tabA T').fp [tabA T'', rowsA encI 3 1 (.slice ad xs.length c) xs] w')) := Lib.hid fun T' hx hT' id q times hid hq ht w h => by
    obtain ⟨x1, x2, x3, x4, x5, x6⟩ := hx.same
    have hc := follow_c (lv := lv) (m := m) hS hT' hid (q := q) (times := times) (by rw [x5]; exact hq) ht w (by rw [x2]; exact h)
    rw [x1] at hc
    with_reducible refine Calls.mono hc ?_
    rintro e w' ⟨T'', ad, c, xs, tail, he, ho, hx', hT'', hs⟩
    rw [stepT_ext hx] at ho
    exact ⟨T'', ad, c, xs, tail, he, ho, hx.trans hx', hT'', hs⟩
  obtain ⟨cm, okm⟩ := hT.ok
  have HLT : Hid (∀ t ∈ lp, ∀ q, q < T.mc.n → T.mc.ends q (dirT T.back (S.ptTxt t)) < T.mc.n) := Lib.hid fun t ht q hq => by
    rw [← itr_text]
    exact itr_lt (stepT_lt hS hT (hlp t ht).le) hq
  have HQL : Hid (∀ j, T.mc.ends q (runP S T.back (lp.take j)) < T.mc.n) := Lib.hid fun j => by
    refine okm.ends_lt hq fun b hb => ?_
    unfold runP at hb
    obtain ⟨l, hl, hb⟩ := List.mem_flatten.1 hb
    obtain ⟨t, ht, rfl⟩ := List.mem_map.1 hl
    have hb2 : b ∈ S.ptTxt t := by unfold dirT at hb; split at hb; simpa using hb; exact hb
    exact S.txt_lt hS (hlp t (List.mem_of_mem_take ht)).le b (rep_mem hb2)
  have HTI : Hid (∀ t ∈ lp, t.times ≤ 1152921504606846976) := Lib.hid fun t ht => ptok_times hS (hlp t ht)
  have HLE : Hid (∀ t ∈ lp, t.id ≤ S.list.length) := Lib.hid fun t ht => (hlp t ht).le
  have HTO := Lib.hid hT
  have hll := (show lp.length ≤ 9223372036854775807 from by
    have hsh := rowsA_shape hr
    obtain ⟨_, _, _, hm⟩ := hsh
    unfold maxLen at hm; omega)
  clear hT h1 h2 hd hS hq hlp hr hap okm
  go_enter Try.func37, Try.ntmps37
  go_wp2_with (first | refine sL ?_ | (refine sS ?_; clear H; intro _ H) | (refine sA ?_; clear H; intro _ _ H))
  go_loopw [2, 11] (fun v2 v11 wr => ThRel S T q lp (tabA T).fp w v2 v11 wr) (fun _ v11 _ => lp.length - (intOf v11).toNat)
  case atStart => exact ⟨T, 0, rfl, rfl, Nat.zero_le _, .refl T, HTO.out, H⟩
  case round =>
    clear H
    obtain ⟨T1, j, rfl, rfl, hj, hext, hT1, H⟩ := hrel
    have HEX := Lib.hid hext
    have HT1 := Lib.hid hT1
    have HQ1 := Lib.hid (HQL.out j)
    clear hext hT1
    by_cases hlt : j < lp.length
    · obtain ⟨⟨ti, tp, tt⟩, ht⟩ : ∃ t, lp[j]? = some t := ⟨_, List.getElem?_eq_getElem hlt⟩
      have htm := List.mem_of_getElem? ht
      have htid := HLE.out _ htm
      have htb := HTI.out _ htm
      have HTK := Lib.hid (runP_take S T.back ht)
      have HIT := Lib.hid (itr_text (S := S) (T := T) ⟨ti, tp, tt⟩ (T.mc.ends q (runP S T.back (lp.take j))))
      have HLK := Lib.hid ht
      obtain ⟨gr, cr, hadr, _, _⟩ := rowsA_cases (H.known HK (A := rowsA encT 135 3 (.slice ad lp.length c) lp) pk) (by omega)
      injection hadr with x1 x2 x3
      subst x1 x3
      simp only at htid htb
      clear ht x2 htm
      have HQQ := Lib.hid (rfl : T.mc.ends q (runP S T.back (lp.take j)) = T.mc.ends q (runP S T.back (lp.take j)))
      generalize hq1 : T.mc.ends q (runP S T.back (lp.take j)) = q1 at *
      have HQE := Lib.hid hq1
      clear hq1 HQQ
      go_wp2_with (first | refine sL ?_ | (refine sS ?_; clear H; intro _ H) | (refine sA ?_; clear H; intro _ _ H) | ((with_reducible refine isLoad ?_); refine AtLoad.rngT (vs := [.int .i64 ti, .int .i64 tp, .int .i64 tt]) rfl rfl rfl (rowsA_rng (H.known HK (A := rowsA encT 135 3 (.slice (some ⟨gr, 0, none⟩) lp.length c) lp) pk) encT_len HLK.out) rfl ?_; simp only [Act.put, puA, puB, puC]))
      rename_i b8 _ _
      replace H := (H.pick2 (A := tabA T1) (B := blk b8 (.cells #[.int .i64 ti, .int .i64 tp, .int .i64 tt] 135)) pk pk).onlyTwo
      refine wp_region_sgx 10 [⟨[], fun v _ => v = .pointer (some ⟨T.p, 0, none⟩)⟩, ⟨[], fun v _ => v = .pointer (some ⟨b8, 0, none⟩)⟩, ⟨[1], fun v _ => v = .int .i64 ti⟩, ⟨[], fun v _ => v = .int .i64 q1⟩, ⟨[], fun v _ => v = .pointer (some ⟨b8, 2, none⟩)⟩, ⟨[4], fun v _ => v = .int .i64 tt⟩, ⟨[0, 2, 3, 5], fun _ _ => True⟩, ⟨[], fun v _ => v = .pointer (some ⟨b8, 2, none⟩)⟩, ⟨[7], fun v _ => v = .int .i64 tt⟩, ⟨[8], fun v _ => v = .int .i64 (itr (stepT S T ti) tt q1 : Nat)⟩] [6] [[0], [0], [0], [0], [0], [0], [0], [0, 1], [0, 1], [1]] [fun _ wx => St w (tabA T).fp [tabA T1, blk b8 (.cells #[.int .i64 ti, .int .i64 tp, .int .i64 tt] 135)] wx, fun vals wx => ∃ T2 ad c xs tail, vals 6 = .agg #[.slice ad xs.length c, .int .i64 (tail : Nat)] ∧ Orb (stepT S T ti) q1 tt xs tail ∧ T.Ext T2 ∧ TabOk S T2 ∧ St w (tabA T).fp [tabA T2, rowsA encI 3 1 (.slice ad xs.length c) xs, blk b8 (.cells #[.int .i64 ti, .int .i64 tp, .int .i64 tt] 135)] wx]
        [[], [], [(1, 16)], [], [], [(4, 19)], [(0, 15), (2, 17), (3, 18), (5, 20)], [], [(7, 22)], [(6, 21), (8, 23)]] [(0, 15), (1, 16), (2, 17), (3, 18), (4, 19), (5, 20), (6, 21), (7, 22), (8, 23), (9, 24)] (by kernel_rfl) (by kernel_rfl) H.drew ⟨⟨?o0s0, trivial⟩, ⟨?o1s0, trivial⟩, ⟨?o2s0, trivial⟩, ⟨?o3s0, trivial⟩, ⟨?o4s0, trivial⟩, ⟨?o5s0, trivial⟩, ⟨?o6s0, trivial⟩, ⟨?o7s0, ?o7s1, trivial⟩, ⟨?o8s0, ?o8s1, trivial⟩, ⟨?o9s1, trivial⟩, trivial⟩ ?fin
      case o0s0 =>
        intro vals wx hd HC
        clear hd
        simp only [putS, List.foldl_nil]
        go_simp
        first | exact HC | exact ⟨rfl, HC⟩
      case o1s0 =>
        intro vals wx hd HC
        clear hd
        simp only [putS, List.foldl_nil]
        go_simp
        first | exact HC | exact ⟨rfl, HC⟩
      case o2s0 =>
        intro vals wx hd HC
        have h1 : vals 1 = .pointer (some ⟨b8, 0, none⟩) := hd.1
        clear hd
        have HC' := HC
        simp only [cAt, List.getD_cons_succ, List.getD_cons_zero] at HC'
        have H := HC'; clear HC'
        simp only [putS, List.foldl_nil, List.foldl_cons, Act.put, List.setIfInBounds_toArray, List.set_cons_zero, List.set_cons_succ, h1]
        first | refine StStep.cellT rfl rfl rfl gt rfl rfl ⟨rfl, HC⟩ | refine StStep.wholeT rfl rfl rfl gt rfl ⟨rfl, HC⟩
      case o3s0 =>
        intro vals wx hd HC
        clear hd
        simp only [putS, List.foldl_nil]
        go_simp
        first | exact HC | exact ⟨rfl, HC⟩
      case o4s0 =>
        intro vals wx hd HC
        clear hd
        simp only [putS, List.foldl_nil]
        go_simp
        first | exact HC | exact ⟨rfl, HC⟩
      case o5s0 =>
        intro vals wx hd HC
        have h4 : vals 4 = .pointer (some ⟨b8, 2, none⟩) := hd.1
        clear hd
        have HC' := HC
        simp only [cAt, List.getD_cons_succ, List.getD_cons_zero] at HC'
        have H := HC'; clear HC'
        simp only [putS, List.foldl_nil, List.foldl_cons, Act.put, List.setIfInBounds_toArray, List.set_cons_zero, List.set_cons_succ, h4]
        first | refine StStep.cellT rfl rfl rfl gt rfl rfl ⟨rfl, HC⟩ | refine StStep.wholeT rfl rfl rfl gt rfl ⟨rfl, HC⟩
      case o6s0 =>
        intro vals wx hd HC
        have h0 : vals 0 = .pointer (some ⟨T.p, 0, none⟩) := hd.1
        have h2 : vals 2 = .int .i64 ti := hd.2.1
        have h3 : vals 3 = .int .i64 q1 := hd.2.2.1
        have h5 : vals 5 = .int .i64 tt := hd.2.2.2.1
        clear hd
        have HC' := HC
        simp only [cAt, List.getD_cons_succ, List.getD_cons_zero] at HC'
        have H := HC'; clear HC'
        simp only [putS, List.foldl_nil, List.foldl_cons, Act.put, List.setIfInBounds_toArray, List.set_cons_zero, List.set_cons_succ, h0, h2, h3, h5]
        clear h0 h2 h3 h5 HC
        go_simp
        with_reducible refine Calls.mono (HF.out T1 HEX.out HT1.out ti q1 tt htid HQ1.out htb _ (H.sepK HK (A := tabA T1) (B := stoA T.s lv m S) pk pk)) ?_
        rintro e wc ⟨T2, ad2, c2, xs, tail, rfl, horb, hext2, hT2, hb⟩
        first | exact ⟨_, rfl, T2, ad2, c2, xs, tail, rfl, horb, hext2, hT2, H.call hb⟩ | exact ⟨_, rfl, trivial, T2, ad2, c2, xs, tail, rfl, horb, hext2, hT2, H.call hb⟩
      case o7s0 =>
        intro vals wx hd HC
        clear hd
        simp only [putS, List.foldl_nil]
        go_simp
        first | exact HC | exact ⟨rfl, HC⟩
      case o7s1 =>
        intro vals wx hd HC
        clear hd
        simp only [putS, List.foldl_nil]
        go_simp
        first | exact HC | exact ⟨rfl, HC⟩
      case o8s0 =>
        intro vals wx hd HC
        have h7 : vals 7 = .pointer (some ⟨b8, 2, none⟩) := hd.1
        clear hd
        have HC' := HC
        simp only [cAt, List.getD_cons_succ, List.getD_cons_zero] at HC'
        have H := HC'; clear HC'
        simp only [putS, List.foldl_nil, List.foldl_cons, Act.put, List.setIfInBounds_toArray, List.set_cons_zero, List.set_cons_succ, h7]
        first | refine StStep.cellT rfl rfl rfl gt rfl rfl ⟨rfl, HC⟩ | refine StStep.wholeT rfl rfl rfl gt rfl ⟨rfl, HC⟩
      case o8s1 =>
        intro vals wx hd HC
        have h7 : vals 7 = .pointer (some ⟨b8, 2, none⟩) := hd.1
        clear hd
        have HC' := HC
        simp only [cAt, List.getD_cons_succ, List.getD_cons_zero] at HC'
        obtain ⟨T2, ad2, c2, xs, tail, hv6, horb, hext2, hT2, H⟩ := HC'
        simp only [putS, List.foldl_nil, List.foldl_cons, Act.put, List.setIfInBounds_toArray, List.set_cons_zero, List.set_cons_succ, h7]
        first | refine StStep.cellT rfl rfl rfl gt rfl rfl ⟨rfl, HC⟩ | refine StStep.wholeT rfl rfl rfl gt rfl ⟨rfl, HC⟩
      case o9s1 =>
        intro vals wx hd HC
        have h8 : vals 8 = .int .i64 tt := hd.1
        clear hd
        have HC' := HC
        simp only [cAt, List.getD_cons_succ, List.getD_cons_zero] at HC'
        obtain ⟨T2, ad2, c2, xs, tail, hv6, horb, hext2, hT2, H⟩ := HC'
        simp only [putS, List.foldl_nil, List.foldl_cons, Act.put, List.setIfInBounds_toArray, List.set_cons_zero, List.set_cons_succ, h8]
        simp only [hv6]
        clear h8
        go_simp
        refine Calls.mono (at_orb horb (Nat.le_refl _) htb _ (H.get (A := rowsA encI 3 1 (.slice ad2 xs.length c2) xs) pk)) ?_
        rintro e wc ⟨rfl, hb⟩
        exact ⟨_, rfl, rfl, T2, ad2, c2, xs, tail, hv6, horb, hext2, hT2, H.grew hb.below⟩
      intro vals wx hd HC
      have h0 : vals 0 = .pointer (some ⟨T.p, 0, none⟩) := hd.1
      have h1 : vals 1 = .pointer (some ⟨b8, 0, none⟩) := hd.2.1
      have h2 : vals 2 = .int .i64 ti := hd.2.2.1
      have h3 : vals 3 = .int .i64 q1 := hd.2.2.2.1
      have h4 : vals 4 = .pointer (some ⟨b8, 2, none⟩) := hd.2.2.2.2.1
      have h5 : vals 5 = .int .i64 tt := hd.2.2.2.2.2.1
      have h7 : vals 7 = .pointer (some ⟨b8, 2, none⟩) := hd.2.2.2.2.2.2.2.1
      have h8 : vals 8 = .int .i64 tt := hd.2.2.2.2.2.2.2.2.1
      have h9 : vals 9 = .int .i64 (itr (stepT S T ti) tt q1 : Nat) := hd.2.2.2.2.2.2.2.2.2.1
      clear hd
      simp only [cAt, List.getD_cons_succ, List.getD_cons_zero, List.length_cons, List.length_nil] at HC
      obtain ⟨T2, ad2, c2, xs, tail, hv6, horb, hext2, hT2, H⟩ := HC
      simp only [putS, List.foldl_nil, List.foldl_cons, Act.put, List.setIfInBounds_toArray, List.set_cons_zero, List.set_cons_succ, List.drop_succ_cons, List.drop_zero, h0, h1, h2, h3, h4, h5, h7, h8, h9]
      clear h0 h1 h2 h3 h4 h5 h7 h8 h9
      go_wp2_with (first | refine sL ?_ | (refine sS ?_; clear H; intro _ H) | (refine sA ?_; clear H; intro _ _ H))
      have hnx : T.mc.ends q (runP S T.back (lp.take (j + 1))) = itr (stepT S T ti) tt q1 := by
        rw [HTK.out, Mc.ends_append, HQE.out]
        exact HIT.out.symm
      exact ⟨⟨T2, j + 1, by rw [hnx], by go_num, by omega, hext2, hT2, (H.pick (A := tabA T2) pk).onlyHead⟩, by simp [intOf]; omega⟩
    · have hje : j = lp.length := by omega
      subst hje
      have HQF := Lib.hid (show T.mc.ends q (runP S T.back (lp.take lp.length)) = T.mc.ends q (runP S T.back lp) from by rw [List.take_length])
      generalize T.mc.ends q (runP S T.back (lp.take lp.length)) = q1 at *
      go_wp2_with (first | refine sL ?_ | (refine sS ?_; clear H; intro _ H) | (refine sA ?_; clear H; intro _ _ H))
      go_ret
      exact ⟨T1, by rw [← HQF.out]; rfl, HEX.out, HT1.out, H⟩
end Go.Proofs.Ytijnhpaafhcndaa
end
section
namespace Go.Proofs.Ytijnhpaafhcndaa
set_option linter.unusedSimpArgs false
set_option linter.unusedVariables false
def Mc.hits (m : Mc) : Nat → List Nat → List Nat
  | _, [] => []
  | q, b :: l => m.wt (m.step q b) :: m.hits (m.step q b) l
namespace Mc
variable {m : Mc} {c : Nat}
theorem hits_len (q : Nat) (l : List Nat) : (m.hits q l).length = l.length := by
  induction l generalizing q with
  | nil => rfl
  | cons b l ih => simp [hits, ih]
theorem hits_append (q : Nat) (a b : List Nat) : m.hits q (a ++ b) = m.hits q a ++ m.hits (m.ends q a) b := by
  induction a generalizing q with
  | nil => simp [hits, ends]
  | cons x a ih => simp only [List.cons_append, hits, ih, ends_cons]
theorem hits_sum (q : Nat) (l : List Nat) : (m.hits q l).sum = m.sum q l := by
  induction l generalizing q with
  | nil => rfl
  | cons b l ih => simp [hits, sum, ih]
theorem hits_take (q : Nat) (l : List Nat) (k : Nat) : (m.hits q l).take k = m.hits q (l.take k) := by
  induction l generalizing q k with
  | nil => simp [hits]
  | cons b l ih => cases k with
    | zero => rfl
    | succ k => simp [hits, ih]
theorem hits_drop (q : Nat) (l : List Nat) (k : Nat) : (m.hits q l).drop k = m.hits (m.ends q (l.take k)) (l.drop k) := by
  induction l generalizing q k with
  | nil => simp [hits]
  | cons b l ih => cases k with
    | zero => rfl
    | succ k => simp only [hits, List.drop_succ_cons, List.take_succ_cons, ends_cons, ih]
theorem hits_range (q : Nat) (l : List Nat) (s n : Nat) : (((m.hits q l).drop s).take n).sum = m.sum (m.ends q (l.take s)) ((l.drop s).take n) := by
  rw [hits_drop, hits_take, hits_sum]
theorem Ok.hits_le (h : m.Ok c) {q : Nat} (hq : q < m.n) : ∀ {l : List Nat}, (∀ b ∈ l, b < 256) → ∀ x ∈ m.hits q l, x ≤ 1048576 := by
  intro l
  induction l generalizing q with
  | nil => intro _ x hx; simp [hits] at hx
  | cons b l ih =>
    intro hl x hx
    have hs := h.step_lt hq (hl b (by simp))
    simp only [hits, List.mem_cons] at hx
    rcases hx with rfl | hx
    · exact (h.wt_get hs).2
    · exact ih hs (fun y hy => hl y (by simp [hy])) x hx
theorem Ok.sum_le (h : m.Ok c) {q : Nat} (hq : q < m.n) : ∀ {l : List Nat}, (∀ b ∈ l, b < 256) → m.sum q l ≤ 1048576 * l.length := by
  intro l
  induction l generalizing q with
  | nil => intro _; simp [sum]
  | cons b l ih =>
    intro hl
    have hs := h.step_lt hq (hl b (by simp))
    have h1 := (h.wt_get hs).2
    have h2 := ih hs (fun y hy => hl y (by simp [hy]))
    simp only [sum, List.length_cons]
    omega
end Mc
theorem sum_two (m : Mc) (q : Nat) (t : List Nat) (s a b : Nat) :
    m.sum (m.ends q (t.take s)) ((t.drop s).take (a + b)) = m.sum (m.ends q (t.take s)) ((t.drop s).take a) + m.sum (m.ends q (t.take (s + a))) ((t.drop (s + a)).take b) := by
  rw [List.take_add, Mc.sum_append, List.drop_drop, ← Mc.ends_append, ← List.take_add]
end Go.Proofs.Ytijnhpaafhcndaa
end
section
namespace Go.Proofs.Ytijnhpaafhcndaa
open Go.RowKit Go.Maps
attribute [local go_sem] InGr
set_option maxHeartbeats 4000000
set_option maxRecDepth 100000
set_option linter.unusedSimpArgs false
set_option linter.unusedVariables false
theorem range_no (a b : Int) (n : Nat) (h : ¬ (0 ≤ a ∧ 0 ≤ b ∧ a + b ≤ n)) (hn : n ≤ 1152921504606846976) (w : World) :
    Calls Try.prog 35 #[.int .i64 a, .int .i64 b, .int .i64 n] w fun e w' => e = .returned (EV 1) ∧ w' = w := by
  have HV : Hid (Calls Try.prog 50 #[.int .i64 n] w fun e w' => e = .returned (.bool true) ∧ w' = w) := Lib.hid (valid_c n true (by symm; rw [decide_eq_true_eq]; omega) w)
  have H := St.nil w []
  have HK := Ks.nil w []
  by_cases h1 : a < 0
  · have d1 : decide (a < 0) = true := by simpa using h1
    clear h
    go_enter Try.func35, Try.ntmps35
    go_wp2_with (first | (go_at_call 50; with_reducible refine same (HV.out) ?_))
    go_ret
    exact ⟨rfl, rfl⟩
  · have d1 : decide (a < 0) = false := by simpa using h1
    by_cases h2 : b < 0
    · have d2 : decide (b < 0) = true := by simpa using h2
      clear h
      go_enter Try.func35, Try.ntmps35
      go_wp2_with (first | (go_at_call 50; with_reducible refine same (HV.out) ?_))
      go_ret
      exact ⟨rfl, rfl⟩
    · have d2 : decide (b < 0) = false := by simpa using h2
      by_cases h3 : (n : Int) < a
      · have d3 : decide ((n : Int) < a) = true := by simpa using h3
        clear h
        go_enter Try.func35, Try.ntmps35
        go_wp2_with (first | (go_at_call 50; with_reducible refine same (HV.out) ?_))
        go_ret
        exact ⟨rfl, rfl⟩
      · have d3 : decide ((n : Int) < a) = false := by simpa using h3
        have h4 : (n : Int) - a < b := by omega
        have d4 : decide ((n : Int) - a < b) = true := by simpa using h4
        have hw := IntWalk.i64_in ((n : Int) - a) (by omega)
        clear h
        go_enter Try.func35, Try.ntmps35
        go_wp2_with (first | (go_at_call 50; with_reducible refine same (HV.out) ?_))
        go_ret
        exact ⟨rfl, rfl⟩
def Sto.rsum (S : Sto) (mc : Mc) (id s n : Nat) : Nat := mc.sum (mc.ends mc.start ((S.txt id).take s)) (((S.txt id).drop s).take n)
def cntV (x : Nat) : Value := if x ≤ 1152921504606846976 then .tuple #[.int .i64 x, .nilIface] else .tuple #[.int .i64 0, .iface 42 (.int .i64 2)]
theorem cntV_in {x : Nat} (h : x ≤ 1152921504606846976) : cntV x = .tuple #[.int .i64 x, .nilIface] := by unfold cntV; rw [if_pos h]
theorem cntV_out {x : Nat} (h : ¬ x ≤ 1152921504606846976) : cntV x = .tuple #[.int .i64 0, .iface 42 (.int .i64 2)] := by unfold cntV; rw [if_neg h]
theorem count_no {S : Sto} {T : Tab} {lv : Value} {m id : Nat} {a b : Int} (hS : S.Ok) (hT : TabOk S T) (hb : T.back = false) (hid : id ≤ S.list.length) (hf : ¬ (0 ≤ a ∧ 0 ≤ b ∧ a + b ≤ (S.txt id).length)) (w : World) (h1 : (tabA T).ho w) (h2 : (stoA T.s lv m S).ho w) :
    Calls Try.prog 12 #[.pointer (some ⟨T.p, 0, none⟩), .int .i64 id, .int .i64 a, .int .i64 b] w fun e w' => e = .returned (.tuple #[.int .i64 0, EV 1]) ∧ St w [] [] w' := by
  have H := St.nil w []
  have HK : Ks w [] [tabA T, stoA T.s lv m S] := Ks.two h1 h2
  have HC : Hid (∀ w, (tabA T).ho w → (stoA T.s lv m S).ho w → Calls Try.prog 34 #[.pointer (some ⟨T.p, 0, none⟩), .int .i64 id] w fun e w' => e = .returned .nilIface ∧ w' = w) := Lib.hid fun w a b => lcheck_c hT hb hid w a b
  have HZ : Hid (∀ w, (tabA T).ho w → (stoA T.s lv m S).ho w → Calls Try.prog 36 #[.pointer (some ⟨T.p, 0, none⟩), .int .i64 id] w fun e w' => e = .returned (.int .i64 (S.txt id).length) ∧ St w [] [] w') := Lib.hid fun w a b => ssize_c hS hT hid w a b
  have hmax := txt_max hS hid
  have HR : Hid (∀ w, Calls Try.prog 35 #[.int .i64 a, .int .i64 b, .int .i64 (S.txt id).length] w fun e w' => e = .returned (.iface 42 (.int .i64 1)) ∧ w' = w) := Lib.hid (fun w => range_no a b (S.txt id).length hf hmax w)
  generalize hln : (S.txt id).length = ln at *
  clear hT hS h1 h2 hln hf
  go_enter Try.func12, Try.ntmps12
  go_wp2_with (first | refine sF ?_ | (go_at_call 34; with_reducible refine Calls.mono (HC.out _ (H.known HK pk) (H.known HK pk)) ?_; rintro e wc ⟨rfl, hwc⟩; obtain rfl := hwc.symm) | (go_at_call 36; with_reducible refine Calls.mono (HZ.out _ (H.known HK pk) (H.known HK pk)) ?_; rintro e wc ⟨rfl, hb⟩; replace H := H.grew hb.below; clear hb) | (go_at_call 35; with_reducible refine Calls.mono (HR.out _) ?_; rintro e wc ⟨rfl, hwc⟩; obtain rfl := hwc.symm))
  go_ret2
  exact ⟨rfl, H.nix⟩
theorem count_c {S : Sto} {T : Tab} {lv : Value} {m id s n : Nat} (hS : S.Ok) (hT : TabOk S T) (hb : T.back = false) (hid : id ≤ S.list.length) (hf : s + n ≤ (S.txt id).length) (w : World) (h : ((tabA T).sep (stoA T.s lv m S)).ho w) :
    Calls Try.prog 12 #[.pointer (some ⟨T.p, 0, none⟩), .int .i64 id, .int .i64 s, .int .i64 n] w (TabPost S T (cntV (S.rsum T.mc id s n)) (tabA T).fp w) := by
  rw [sep_ho] at h
  obtain ⟨h1, h2, hd⟩ := h
  have H := St.one h1
  have HK : Ks w (tabA T).fp [stoA T.s lv m S] := ⟨by simpa using h2, by simpa using fun b hb hm => hd b hm hb⟩
  have HC : Hid (∀ w, (tabA T).ho w → (stoA T.s lv m S).ho w → Calls Try.prog 34 #[.pointer (some ⟨T.p, 0, none⟩), .int .i64 id] w fun e w' => e = .returned .nilIface ∧ w' = w) := Lib.hid fun w a b => lcheck_c hT hb hid w a b
  have HZ : Hid (∀ w, (tabA T).ho w → (stoA T.s lv m S).ho w → Calls Try.prog 36 #[.pointer (some ⟨T.p, 0, none⟩), .int .i64 id] w fun e w' => e = .returned (.int .i64 (S.txt id).length) ∧ St w [] [] w') := Lib.hid fun w a b => ssize_c hS hT hid w a b
  have hmax := txt_max hS hid
  have HR := Lib.hid (fun w => range_ok s n (S.txt id).length hf hmax w)
  obtain ⟨cm, okm⟩ := hT.ok
  have hst := okm.start
  have hqlt : T.mc.ends T.mc.start ((S.txt id).take s) < T.mc.n := okm.ends_lt hst fun b hb => S.txt_lt hS hid b (List.mem_of_mem_take hb)
  have HP : Hid (∀ w, (tabA T).ho w → (stoA T.s lv m S).ho w → Calls Try.prog 38 #[.pointer (some ⟨T.p, 0, none⟩), .int .i64 id, .int .i64 0, .int .i64 s] w (fun e w' => ∃ ad c lp, e = .returned (.slice ad lp.length c) ∧ runP S T.back lp = (S.txt id).take s ∧ (∀ t ∈ lp, PtOk S (fun _ => True) t) ∧ St w [] [rowsA encT 135 3 (.slice ad lp.length c) lp] w')) := Lib.hid fun w a b => by
    refine Calls.mono (sparts_c (s := 0) (n := s) hS hT hid (by omega) w a b) ?_
    rintro e w' ⟨ad, c, lp, he, hrun, hp, _, hs⟩
    refine ⟨ad, c, lp, he, ?_, hp, hs⟩
    rw [hrun, hb]
    simp [dirT, Sto.pcTxt]
  have HM : Hid (∀ w, (tabA T).ho w → Calls Try.prog 39 #[.pointer (some ⟨T.p, 0, none⟩)] w fun e w' => ∃ g1 o1 c1 g2 o2 c2 g3 o3 c3, e = .returned (.agg #[.int .i64 T.mc.start, .slice (some ⟨g1, o1, none⟩) 256 c1, .slice (some ⟨g2, o2, none⟩) T.mc.n c2, .slice (some ⟨g3, o3, none⟩) T.mc.n c3]) ∧ St w [] [] w') := Lib.hid fun w a => by
    refine Calls.mono (machine_c hT w a) ?_
    rintro e w' ⟨cv, nv, av, rvs, P, he, hm, hs⟩
    obtain ⟨g1, o1, c1, rfl, _⟩ := hm.cls.hasN okm.cls (by omega)
    obtain ⟨g2, o2, c2, rfl, _⟩ := hm.next.hasN hm.len okm.n1
    obtain ⟨g3, o3, c3, rfl, _⟩ := hm.acc.hasN okm.acc okm.n1
    exact ⟨g1, o1, c1, g2, o2, c2, g3, o3, c3, he, hs.nix⟩
  have HT : Hid (∀ lp ad c, (∀ t ∈ lp, PtOk S (fun _ => True) t) → runP S T.back lp = (S.txt id).take s → ∀ w, ((tabA T).sep (stoA T.s lv m S)).ho w → (rowsA encT 135 3 (.slice ad lp.length c) lp).ho w → (∀ b ∈ (rowsA encT 135 3 (.slice ad lp.length c) lp).fp, b ∉ (tabA T).fp) → Calls Try.prog 37 #[.pointer (some ⟨T.p, 0, none⟩), .slice ad lp.length c, .int .i64 T.mc.start] w (fun e w' => ∃ T', e = .returned (.int .i64 (T.mc.ends T.mc.start ((S.txt id).take s) : Nat)) ∧ T.Ext T' ∧ TabOk S T' ∧ St w (tabA T).fp [tabA T'] w')) := Lib.hid fun lp ad c hp hrun w a b hap => by
    rw [← hrun]
    exact through_c hS hT hst hp w a b hap
  have HPA : Hid (∀ T', T.Ext T' → TabOk S T' → ∀ w, ((tabA T').sep (stoA T.s lv m S)).ho w → Calls Try.prog 40 #[.pointer (some ⟨T.p, 0, none⟩), .int .i64 id, .int .i64 s, .int .i64 n, .int .i64 (T.mc.ends T.mc.start ((S.txt id).take s) : Nat)] w (fun e w' => ∃ T'' r, e = .returned (if S.rsum T.mc id s n ≤ 1152921504606846976 then .tuple #[.int .i64 (r : Nat), .int .i64 (S.rsum T.mc id s n : Nat), .nilIface] else .tuple #[.int .i64 0, .int .i64 0, .iface 42 (.int .i64 2)]) ∧ T.Ext T'' ∧ TabOk S T'' ∧ St w (tabA T').fp [tabA T''] w')) := Lib.hid fun T' hx hT' w h => by
    obtain ⟨x1, x2, x3, x4, x5, x6⟩ := hx.same
    have hc := part_c (lv := lv) (m := m) hS hT' hid (q := T.mc.ends T.mc.start ((S.txt id).take s)) (by rw [x5]; exact hqlt) hf w (by rw [x2]; exact h)
    rw [x1] at hc
    with_reducible refine Calls.mono hc ?_
    rintro e w' ⟨T'', he, hx', hT'', hs⟩
    rw [x5, x6, hb] at he
    exact ⟨T'', _, he, hx.trans hx', hT'', hs⟩
  clear hT h1 h2 hd hS hmax hf okm hst hqlt hb
  generalize hln : (S.txt id).length = ln at *
  generalize hq1 : T.mc.ends T.mc.start ((S.txt id).take s) = q1 at *
  generalize hsm : S.rsum T.mc id s n = sm at *
  clear hln hq1 hsm
  by_cases hsm : sm ≤ 1152921504606846976
  · simp only [if_pos hsm] at HPA
    rw [cntV_in hsm]
    clear hsm
    go_enter Try.func12, Try.ntmps12
    go_wp2_with (first | refine sF ?_ | (go_at_call 34; with_reducible refine Calls.mono (HC.out _ (H.get (A := tabA T) pk) (H.known HK pk)) ?_; rintro e wc ⟨rfl, hwc⟩; obtain rfl := hwc.symm) | (go_at_call 36; with_reducible refine Calls.mono (HZ.out _ (H.get (A := tabA T) pk) (H.known HK pk)) ?_; rintro e wc ⟨rfl, hb⟩; replace H := H.grew hb.below; clear hb) | (go_at_call 35; with_reducible refine Calls.mono (HR.out _) ?_; rintro e wc ⟨rfl, hwc⟩; obtain rfl := hwc.symm) | (go_at_call 38; with_reducible refine Calls.mono (HP.out _ (H.get (A := tabA T) pk) (H.known HK pk)) ?_; rintro e wc ⟨ad, c, lp, rfl, hrun, hpo, hb⟩; replace H := H.call0 hb; clear hb; simp only [List.cons_append, List.nil_append] at H; have HRUN := Lib.hid hrun; have HPO := Lib.hid hpo; clear hrun hpo) | (go_at_call 39; with_reducible refine Calls.mono (HM.out _ (H.get (A := tabA T) pk)) ?_; rintro e wc ⟨g1, o1, c1, g2, o2, c2, g3, o3, c3, rfl, hb⟩; replace H := H.grew hb.below; clear hb) | (go_at_call 37; with_reducible refine Calls.mono (HT.out lp ad c HPO.out HRUN.out _ (H.sepK HK (A := tabA T) (B := stoA T.s lv m S) pk pk) (H.get (A := rowsA encT 135 3 (.slice ad lp.length c) lp) pk) (H.apart2 (A := rowsA encT 135 3 (.slice ad lp.length c) lp) (B := tabA T) pk pk)) ?_; rintro e wc ⟨T1, rfl, hx1, hT1, hb⟩; replace H := H.pick (A := tabA T) pk; replace H := H.call hb; clear hb; simp only [List.cons_append, List.nil_append] at H; have HX1 := Lib.hid hx1; have HT1 := Lib.hid hT1; clear hx1 hT1) | (go_at_call 40; with_reducible refine Calls.mono (HPA.out T1 HX1.out HT1.out _ (H.sepK HK (A := tabA T1) (B := stoA T.s lv m S) pk pk)) ?_; rintro e wc ⟨T2, rr, rfl, hx2, hT2, hb⟩; replace H := H.pick (A := tabA T1) pk; replace H := H.call hb; clear hb; simp only [List.cons_append, List.nil_append] at H; have HX2 := Lib.hid hx2; have HT2 := Lib.hid hT2; clear hx2 hT2))
    go_ret2
    exact ⟨T2, rfl, HX2.out, HT2.out, (H.pick (A := tabA T2) pk).onlyHead⟩
  · simp only [if_neg hsm] at HPA
    rw [cntV_out hsm]
    clear hsm
    go_enter Try.func12, Try.ntmps12
    go_wp2_with (first | refine sF ?_ | (go_at_call 34; with_reducible refine Calls.mono (HC.out _ (H.get (A := tabA T) pk) (H.known HK pk)) ?_; rintro e wc ⟨rfl, hwc⟩; obtain rfl := hwc.symm) | (go_at_call 36; with_reducible refine Calls.mono (HZ.out _ (H.get (A := tabA T) pk) (H.known HK pk)) ?_; rintro e wc ⟨rfl, hb⟩; replace H := H.grew hb.below; clear hb) | (go_at_call 35; with_reducible refine Calls.mono (HR.out _) ?_; rintro e wc ⟨rfl, hwc⟩; obtain rfl := hwc.symm) | (go_at_call 38; with_reducible refine Calls.mono (HP.out _ (H.get (A := tabA T) pk) (H.known HK pk)) ?_; rintro e wc ⟨ad, c, lp, rfl, hrun, hpo, hb⟩; replace H := H.call0 hb; clear hb; simp only [List.cons_append, List.nil_append] at H; have HRUN := Lib.hid hrun; have HPO := Lib.hid hpo; clear hrun hpo) | (go_at_call 39; with_reducible refine Calls.mono (HM.out _ (H.get (A := tabA T) pk)) ?_; rintro e wc ⟨g1, o1, c1, g2, o2, c2, g3, o3, c3, rfl, hb⟩; replace H := H.grew hb.below; clear hb) | (go_at_call 37; with_reducible refine Calls.mono (HT.out lp ad c HPO.out HRUN.out _ (H.sepK HK (A := tabA T) (B := stoA T.s lv m S) pk pk) (H.get (A := rowsA encT 135 3 (.slice ad lp.length c) lp) pk) (H.apart2 (A := rowsA encT 135 3 (.slice ad lp.length c) lp) (B := tabA T) pk pk)) ?_; rintro e wc ⟨T1, rfl, hx1, hT1, hb⟩; replace H := H.pick (A := tabA T) pk; replace H := H.call hb; clear hb; simp only [List.cons_append, List.nil_append] at H; have HX1 := Lib.hid hx1; have HT1 := Lib.hid hT1; clear hx1 hT1) | (go_at_call 40; with_reducible refine Calls.mono (HPA.out T1 HX1.out HT1.out _ (H.sepK HK (A := tabA T1) (B := stoA T.s lv m S) pk pk)) ?_; rintro e wc ⟨T2, rr, rfl, hx2, hT2, hb⟩; replace H := H.pick (A := tabA T1) pk; replace H := H.call hb; clear hb; simp only [List.cons_append, List.nil_append] at H; have HX2 := Lib.hid hx2; have HT2 := Lib.hid hT2; clear hx2 hT2))
    go_ret2
    exact ⟨T2, rfl, HX2.out, HT2.out, (H.pick (A := tabA T2) pk).onlyHead⟩
end Go.Proofs.Ytijnhpaafhcndaa
end
section
namespace Go.Proofs.Ytijnhpaafhcndaa
open Go.RowKit Go.Maps
attribute [local go_sem] InGr
set_option maxHeartbeats 4000000
set_option maxRecDepth 100000
set_option linter.unusedSimpArgs false
set_option linter.unusedVariables false
theorem run_assert_int {P : Program} {t xT : TypeId} {k : IntKind} {v : Value} {w : World} (h : P.underlying t = some (.int k)) : (Instr.typeAssert (.iface t v) xT t true).run P w = .ok (.tuple #[v, .bool true]) w := by
  simp [Instr.typeAssert, run_underlying h, go_sem, Result.andThen]
theorem errno_under : Try.prog.underlying 42 = some (.int .i64) := by kernel_rfl
section
variable {ops : Array Oper} {Q : Exit → Act → World → Prop} {rest : List Oper} {a : Act} {w : World} {o1 : Oper} {dst : Option Tmp} {ty0 : TypeId} {pos : String} {aft : Array Edge} {gd : Option (Nat × Bool)}
def AtAssert (P : Program) (ops : Array Oper) (Q : Exit → Act → World → Prop) (o : Oper) (_ : Operand) (_ _ : TypeId) (_ : Bool) (rest : List Oper) (a : Act) (w : World) : Prop := wpList P ops Q (o :: rest) a w
theorem isAssert {P : Program} {t u : TypeId} {x : Operand} {ok : Bool} (h : AtAssert P ops Q ⟨dst, .typeAssert x t u ok, ty0, pos, aft, gd⟩ x t u ok rest a w) : wpList P ops Q (⟨dst, .typeAssert x t u ok, ty0, pos, aft, gd⟩ :: rest) a w := h
theorem AtAssert.errno {x : Operand} {xT : TypeId} {v : Value} (hw : Region.wanted o1 (yielded ops a.tmps) = true) (ho : o1.op = .typeAssert x xT 42 true) (hx : a.eval x = .iface 42 v)
    (h : wpList Try.prog ops Q rest (a.put o1.dst (.tuple #[v, .bool true])) w) : AtAssert Try.prog ops Q o1 x xT 42 true rest a w :=
  wpList_step fun _ hK => by
    rw [if_pos hw]
    unfold Oper.wp execOp
    simp only [ho, hx, Sem.run_bind, run_assert_int errno_under, Result.andThen_ok]
    exact hK _ _ h
end
theorem num_nil (w : World) : Calls Try.prog 41 #[.nilIface] w fun e w' => e = .returned (.int .i64 0) ∧ w' = w := by
  have H := St.nil w []
  have HK := Ks.nil w []
  go_enter Try.func41, Try.ntmps41
  go_wp2_with fail
  go_ret
  exact ⟨rfl, rfl⟩
theorem num_ev (n : Nat) (w : World) : Calls Try.prog 41 #[.iface 42 (.int .i64 n)] w fun e w' => e = .returned (.int .i64 n) ∧ w' = w := by
  have H := St.nil w []
  have HK := Ks.nil w []
  go_enter Try.func41, Try.ntmps41
  go_wp2_with (first | ((with_reducible refine isAssert ?_); refine AtAssert.errno rfl rfl rfl ?_; simp only [Act.put, puA, puB, puC]))
  go_ret
  exact ⟨rfl, rfl⟩
theorem is_nil (k : Nat) (hk : 0 < k) (w : World) : Calls Try.prog 13 #[.nilIface, .int .i64 k] w fun e w' => e = .returned (.bool false) ∧ w' = w := by
  have H := St.nil w []
  have HK := Ks.nil w []
  have HN := Lib.hid (fun w => num_nil w)
  have h0 : ((0 : Int) == (k : Int)) = false := by simp; omega
  go_enter Try.func13, Try.ntmps13
  go_wp2_with (first | (go_at_call 41; with_reducible refine same (HN.out _) ?_))
  go_ret
  exact ⟨rfl, rfl⟩
theorem is_ev (n k : Nat) (hk : 0 < k) (b : Bool) (hb : ((n : Int) == (k : Int)) = b) (w : World) : Calls Try.prog 13 #[.iface 42 (.int .i64 n), .int .i64 k] w fun e w' => e = .returned (.bool b) ∧ w' = w := by
  have H := St.nil w []
  have HK := Ks.nil w []
  have HN := Lib.hid (fun w => num_ev n w)
  have h0 : ((k : Int) == 0) = false := by simp; omega
  have h1 : ((k : Int) != 0) = true := by simp; omega
  cases b with
  | false =>
    go_enter Try.func13, Try.ntmps13
    go_wp2_with (first | (go_at_call 41; with_reducible refine same (HN.out _) ?_))
    go_ret
    exact ⟨rfl, rfl⟩
  | true =>
    go_enter Try.func13, Try.ntmps13
    go_wp2_with (first | (go_at_call 41; with_reducible refine same (HN.out _) ?_))
    go_ret
    exact ⟨rfl, rfl⟩
def encZ (x : Int) : List Value := [.int .i64 x]
theorem encZ_len (x : Int) : (encZ x).length = 1 := rfl
def In64 (xs : List Int) : Prop := ∀ x ∈ xs, -9223372036854775808 ≤ x ∧ x ≤ 9223372036854775807
def RowPost (r : List Int) (c n : Nat) (w : World) (e : Ending) (w' : World) : Prop := ∃ b, e = .returned (.bool b) ∧ (b = true ↔ (r.length = c ∧ ∀ z ∈ r, 0 ≤ z ∧ z < n)) ∧ St w [] [] w'
theorem row_c {P : PoolT} {rv : Value} {r : List Int} {c n : Nat} (hr : RowIn P encZ 1 rv r) (hc : c ≤ 256) (hn : n ≤ 8) (w : World) (hp : (poolA P).ho w) :
    Calls Try.prog 53 #[rv, .int .i64 c, .int .i64 n] w (RowPost r c n w) := by
  have H := St.nil w []
  have HK := Ks.one hp
  obtain ⟨ad, cp, rfl, hm⟩ := hr.shape
  unfold maxLen at hm
  have HR := Lib.hid hr
  by_cases hl : r.length = c
  · have h0 : ((r.length : Int) != (c : Int)) = false := by simp [hl]
    have h1 : ((r.length : Int) == (c : Int)) = true := by simp [hl]
    have HL := Lib.hid hl
    clear hr hp hl
    go_enter Try.func53, Try.ntmps53
    go_wp2_with (first | refine sL ?_)
    go_loopw [7] (fun v7 wr => ∃ k : Nat, v7 = .int .i64 k ∧ k ≤ c ∧ (∀ (j : Nat) (z : Int), j < k → r[j]? = some z → 0 ≤ z ∧ z < n) ∧ St w [] [] wr) (fun v7 _ => c - (intOf v7).toNat)
    case atStart => exact ⟨0, rfl, Nat.zero_le _, by intro j z hj; omega, H⟩
    case round =>
      clear H
      obtain ⟨k, rfl, hk, hall, H⟩ := hrel
      have HA := Lib.hid hall
      clear hall
      by_cases hlt : k < c
      · obtain ⟨z, hz⟩ : ∃ z, r[k]? = some z := ⟨_, List.getElem?_eq_getElem (by rw [HL.out]; exact hlt)⟩
        obtain ⟨g, o, c', he, hrow⟩ := HR.out.has (by rw [HL.out]; omega)
        injection he with e1 e2 e3
        subst e1
        have HZ := Lib.hid hz
        have hkl := getElem_len hz
        clear hz hrow e2 e3
        by_cases z0 : z < 0
        · have d0 : decide (z < 0) = true := by simpa using z0
          go_wp2_with (first | refine sL ?_ | ((with_reducible refine isLoad ?_); refine AtLoad.cel rfl rfl rfl rfl (HR.out.cell (H.known HK pk) encZ_len HZ.out rfl) ?_; simp only [Act.put, puA, puB, puC]))
          go_ret
          exact ⟨false, rfl, ⟨fun h => (by cases h), fun h => by have := h.2 z (List.mem_of_getElem? HZ.out); omega⟩, H⟩
        · have d0 : decide (z < 0) = false := by simpa using z0
          by_cases zn : (n : Int) ≤ z
          · have d1 : decide ((n : Int) ≤ z) = true := by simpa using zn
            go_wp2_with (first | refine sL ?_ | ((with_reducible refine isLoad ?_); refine AtLoad.cel rfl rfl rfl rfl (HR.out.cell (H.known HK pk) encZ_len HZ.out rfl) ?_; simp only [Act.put, puA, puB, puC]))
            go_ret
            exact ⟨false, rfl, ⟨fun h => (by cases h), fun h => by have := h.2 z (List.mem_of_getElem? HZ.out); omega⟩, H⟩
          · have d1 : decide ((n : Int) ≤ z) = false := by simpa using zn
            go_wp2_with (first | refine sL ?_ | ((with_reducible refine isLoad ?_); refine AtLoad.cel rfl rfl rfl rfl (HR.out.cell (H.known HK pk) encZ_len HZ.out rfl) ?_; simp only [Act.put, puA, puB, puC]))
            refine ⟨⟨k + 1, by go_num, by omega, fun j y hj hy => ?_, H⟩, by simp [intOf]; omega⟩
            rcases Nat.lt_or_ge j k with h | h
            · exact HA.out j y h hy
            · obtain rfl : j = k := by omega
              rw [HZ.out] at hy
              injection hy with hy
              subst hy
              omega
      · have hke : k = c := by omega
        subst hke
        go_wp2_with (first | refine sL ?_)
        go_ret
        refine ⟨true, rfl, ⟨fun _ => ⟨HL.out, fun z hz => ?_⟩, fun _ => rfl⟩, H⟩
        obtain ⟨j, hj⟩ := List.getElem?_of_mem hz
        exact HA.out j z (by have := getElem_len hj; rw [HL.out] at this; exact this) hj
  · have h0 : ((r.length : Int) != (c : Int)) = true := by simp; omega
    have h1 : ((r.length : Int) == (c : Int)) = false := by simp; omega
    have HL := Lib.hid hl
    clear hr hp hl
    go_enter Try.func53, Try.ntmps53
    go_wp2_with (first | refine sL ?_)
    go_ret
    exact ⟨false, rfl, ⟨fun h => (by cases h), fun h => absurd h.1 HL.out⟩, H⟩
end Go.Proofs.Ytijnhpaafhcndaa
end
