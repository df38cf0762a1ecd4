/-
  Part 8 of the texts behind the statements of this seat: walks and laws De, Df, Dg, Dh. Conditions: as each states.
-/
import Derived.Test.YtnnbeldbccejpaaDoorBa7
set_option linter.unusedSimpArgs false
set_option linter.unusedVariables false
set_option maxRecDepth 100000
set_option maxHeartbeats 80000000
namespace Go.Proofs.YtnnbeldbccejpaaDoor
section
open Go.RowKit Go.Maps
attribute [local go_sem] InGr
section
variable {ops : Array Oper} {Q : Exit → Act → World → Prop} {rest : List Oper} {a : Act} {w w0 : World} {M : List Nat} {L : List As} {o1 : Oper}
theorem AtSlice.lit {t e : TypeId} {n : Nat} {ps : Array (Nat × Operand)} (H : St w0 M L w) (hw : Region.wanted o1 (yielded ops a.tmps) = true) (ho : o1.op = .buildSlice t n ps) (hte : sliceO t = some e) {z : Value} {k bytes : Nat} {cs : Array Value} (hi : infoO e = some (z, k, bytes)) (hk : k = 1) (hz : z.cells.size = 1) (hn : ¬ n * 1 > 2 ^ 24) (hn0 : ¬ n * 1 = 0)
  (hf : Instr.fill (fun i => some (i * 1, 1)) ((Array.range (n * 1)).map (z.cells[· % z.cells.size]!)) (ps.map fun (i, x) => (i, a.eval x)).toList = some cs)
  (h : ∀ b w', St w0 M (blk b (.cells cs e) :: L) w' → wpList Tryd.prog ops Q rest (a.put o1.dst (.slice (some ⟨b, 0, none⟩) n n)) w') : AtSlice Tryd.prog ops Q o1 t n ps rest a w :=
 wpList_step fun _ hK => by
  rw [if_pos hw]
  obtain ⟨i, h2, h3, h4, h5⟩ := infoO_ok hi
  subst hk
  have hr := run_buildSlice (P := Tryd.prog) w t e n (ps.map fun (i, x) => (i, a.eval x)) cs i z (sliceO_ok hte) h2 h3 (by rw [h4]; exact hn) (by rw [h4]; exact hn0) (by rw [h4]; exact hf)
  unfold Oper.wp execOp
  simp only [ho, Sem.run_bind, hr, Result.andThen_ok, Sem.run_pure]
  exact hK _ _ (h _ _ (H.alloc _))
end
theorem St.freeze {g : Nat} {cs : Array Value} {e : TypeId} {w0 w : World} {M : List Nat} {L : List As} (h : St w0 M (blk g (.cells cs e) :: L) w) : St w0 M (blk g (.cells cs e (cs.size, cs.size + 1)) :: L) (w.freeze ⟨g, cs.size, none⟩ 1) := by
 have hg : w.heap[g]? = some (.cells cs e) := h.at Pick.here
 have hs : (w.freeze ⟨g, cs.size, none⟩ 1).heap.size = w.heap.size := by unfold World.freeze; simp
 have hlt : g < w.heap.size := (Array.getElem?_eq_some_iff.1 hg).1
 refine St.turn h (A' := blk g (.cells cs e (cs.size, cs.size + 1))) (fun b hb => ?_) rfl rfl rfl hs ?_ (by rw [blk_fp, blk_fp])
 ·have hne : g ≠ b := fun e' => hb (by simp [blk, e'])
  unfold World.freeze
  simp only [Nat.succ_ne_zero, if_false]
  rw [Array.getElem?_modify, if_neg hne]
 ·rw [blk_ho]
  unfold World.freeze
  simp only [Nat.succ_ne_zero, if_false]
  rw [Array.getElem?_modify, if_pos rfl, hg]
  rfl
theorem run_conv {t : TypeId} (hte : sliceO t = some 5) {g n c : Nat} {cs : Array Value} {e : TypeId} {w : World} (hg : w.heap[g]? = some (.cells cs e)) : (convert t t (.slice (some ⟨g, 0, none⟩) n c)).run Tryd.prog w = .ok (.slice (some ⟨g, 0, none⟩) n c) (w.freeze ⟨g, cs.size, none⟩ 1) := by
 have hu := run_underlying (P := Tryd.prog) (sliceO_ok hte)
 have hu5 : Tryd.prog.underlying 5 = some (.int .u8) := by kernel_rfl
 have hu6 := run_underlying (P := Tryd.prog) hu5
 simp [convert, hu, hu6, markStringish, shape, freeze, Sem.run, World.shape?, hg]
def AtConv (P : Program) (ops : Array Oper) (Q : Exit → Act → World → Prop) (o : Oper) (_ : TypeId) (_ : Operand) (rest : List Oper) (a : Act) (w : World) : Prop := wpList P ops Q (o :: rest) a w
section
variable {ops : Array Oper} {Q : Exit → Act → World → Prop} {rest : List Oper} {a : Act} {w w0 : World} {M : List Nat} {L R : List As} {o1 : Oper} {dst : Option Tmp} {ty0 : TypeId} {pos : String} {aft : Array Edge} {gd : Option (Nat × Bool)}
theorem isConv {P : Program} {t : TypeId} {x : Operand} (h : AtConv P ops Q ⟨dst, .convert t t x, ty0, pos, aft, gd⟩ t x rest a w) : wpList P ops Q (⟨dst, .convert t t x, ty0, pos, aft, gd⟩ :: rest) a w := h
theorem AtConv.bytes {t e : TypeId} {x : Operand} (H : St w0 M L w) (hw : Region.wanted o1 (yielded ops a.tmps) = true) (ho : o1.op = .convert t t x) (hte : sliceO t = some 5) {g n c : Nat} (hx : a.eval x = .slice (some ⟨g, 0, none⟩) n c) {cs : Array Value} (hp : Pick L (blk g (.cells cs e)) R)
  (h : ∀ w', St w0 M (blk g (.cells cs e (cs.size, cs.size + 1)) :: R) w' → wpList Tryd.prog ops Q rest (a.put o1.dst (.slice (some ⟨g, 0, none⟩) n c)) w') : AtConv Tryd.prog ops Q o1 t x rest a w :=
 wpList_step fun _ hK => by
  rw [if_pos hw]
  have H' := H.pick hp
  have hg : w.heap[g]? = some (.cells cs e) := H'.at Pick.here
  unfold Oper.wp execOp
  simp only [ho, hx, Sem.run_bind, run_conv hte hg, Result.andThen_ok, Sem.run_pure]
  exact hK _ _ (h _ H'.freeze)
end
theorem St.blk_poolF {e : TypeId} {g : Nat} {cs : Array Value} {fr : Nat × Nat} {w0 w : World} {M : List Nat} {R : List As} (h : St w0 M (blk g (.cells cs e fr) :: R) w) : St w0 M (poolA [(g, 0, cs.toList)] :: R) w :=
 h.conv (by rw [poolA_fp, blk_fp]; rfl) fun hb => by
  rw [blk_ho] at hb
  rw [poolA_ho]
  intro x hx
  simp only [List.mem_cons, List.not_mem_nil, or_false] at hx
  subst hx
  refine ⟨(Array.getElem?_eq_some_iff.1 hb).1, fun j u hj => ?_⟩
  rw [cell_of_row w g (0 + j) cs e fr hb]
  simpa using hj
theorem sto_nil_ok : Sto.Ok ⟨1048576, []⟩ := ⟨Nat.le_refl _, by simp, fun i j x y h => by simp at h, fun i x h => by simp at h⟩
theorem awake_c (w : World) (hde : deA.ho w) : Calls Tryd.prog 11 #[] w fun e w' => e = .returned (.bool true) ∧ St w [] [] w' := by
 have H := St.nil w []
 have HK : Ks w [] [deA] := Ks.one hde
 clear hde
 have HNW : Hid (∀ w, Calls Tryd.prog 10 #[.int .i64 1048576] w fun e w' => ∃ p m, e = .returned (.pointer (some ⟨p, 0, none⟩)) ∧ St w [] [stoA p (.slice none 0 0) m ⟨1048576, []⟩] w') := Lib.hid fun w => new_c 1048576 (Nat.le_refl _) 1048576 rfl w
 have HSN : Hid (∀ ps pm w, (stoA ps (.slice none 0 0) pm ⟨1048576, []⟩).ho w → Calls Tryd.prog 9 #[.pointer (some ⟨ps, 0, none⟩)] w fun e w' => ∃ X : Px, X.s = ps ∧ X.S = ⟨1048576, []⟩ ∧ PxOk X ∧ e = .returned (.pointer (some ⟨X.p, 0, none⟩)) ∧ St w (stoA ps (.slice none 0 0) pm ⟨1048576, []⟩).fp [pA X] w') := Lib.hid fun ps pm w h => snew_c sto_nil_ok w h
 go_enter Tryd.func11, Tryd.ntmps11
 go_wp2_with (first | refine sL ?_ | (refine sS ?_; clear H; intros; rename_i H) | (go_at_call 10; with_reducible refine Calls.mono (HNW.out _) ?_; rintro e9 wc ⟨ps, pm, rfl, hb⟩; replace H := H.call0 hb; clear hb; simp only [List.cons_append, List.nil_append] at H) | (go_at_call 9; with_reducible refine Calls.mono (HSN.out _ _ _ (H.get (A := stoA ps (.slice none 0 0) pm ⟨1048576, []⟩) pk)) ?_; rintro e9 wc ⟨X, hxs, hxS, hxo, rfl, hb⟩; have HXN := Lib.hid (And.intro hxS hxo); clear hxs hxS hxo; replace H := (H.pick (A := stoA ps (.slice none 0 0) pm ⟨1048576, []⟩) pk).call hb; clear hb; simp only [List.cons_append, List.nil_append] at H) | ((with_reducible refine isSlice ?_); refine AtSlice.lit H rfl rfl rfl (cs := #[.int .u8 97, .int .u8 98, .int .u8 99, .int .u8 100, .int .u8 101]) rfl rfl rfl (by decide) (by decide) (by kernel_rfl) ?_; clear H; intro b9 _ H; simp only [Act.put, puA, puB, puC]) | ((with_reducible refine isConv ?_); refine AtConv.bytes (e := 5) H rfl rfl rfl rfl pk ?_; clear H; intro _ H; simp only [Act.put, puA, puB, puC]))
 obtain ⟨P2, hP2⟩ : ∃ P2 : PoolT, P2 = [(b9, 0, [.int .u8 97, .int .u8 98, .int .u8 99, .int .u8 100, .int .u8 101])] := ⟨_, rfl⟩
 have H2 := St.blk_poolF (H.pick (A := blk b9 (.cells #[.int .u8 97, .int .u8 98, .int .u8 99, .int .u8 100, .int .u8 101] 5 (5, 5 + 1))) pk)
 simp only [← hP2] at H2
 have hr2 : RowIn P2 encT 1 (.slice (some ⟨b9, 0, none⟩) 5 5) [97, 98, 99, 100, 101] := ⟨_, _, rfl, by simp [maxLen], fun _ => ⟨b9, 0, rfl, by rw [hP2]; exact List.mem_cons_self⟩⟩
 clear H hP2
 have H := H2
 clear H2
 have ho1 := fun w h1 h2 => of_any (X := X) (P := P2) HXN.out.2 hr2 (by decide) (by decide) (by rw [HXN.out.1]; decide) w h1 h2
 have HO1 := Lib.hid ho1
 clear ho1
 go_at_call 12; with_reducible refine Calls.mono (HO1.out _ (H.sepK (A := pA X) HK pk pk) (H.sepO (A := pA X) pk pk)) ?_; rintro e9 wc ⟨X2, id2, rfl, y1, y2, y3, y4, hb⟩; have HY := Lib.hid (And.intro y1 (And.intro y2 (And.intro y3 y4))); clear y1 y2 y3 y4; replace H := (H.pick (A := pA X) pk).call hb; clear hb; simp only [List.cons_append, List.nil_append] at H
 go_wp2_with (first | refine sL ?_ | (refine sS ?_; clear H; intros; rename_i H) | ((with_reducible refine isSlice ?_); refine AtSlice.lit H rfl rfl rfl (cs := #[.int .u8 98, .int .u8 99, .int .u8 100]) rfl rfl rfl (by decide) (by decide) (by kernel_rfl) ?_; clear H; intro b9 _ H; simp only [Act.put, puA, puB, puC]) | ((with_reducible refine isConv ?_); refine AtConv.bytes (e := 5) H rfl rfl rfl rfl pk ?_; clear H; intro _ H; simp only [Act.put, puA, puB, puC]))
 have HM2 : Hid (X2.S.most = 1048576 ∧ X2.S.list.length ≤ 10) := Lib.hid ⟨by rw [HY.out.1.le.1, HXN.out.1], by have := HY.out.2.2.2; rw [HXN.out.1] at this; simpa using this⟩
 obtain ⟨P2, hP2⟩ : ∃ P2 : PoolT, P2 = [(b9, 0, [.int .u8 98, .int .u8 99, .int .u8 100])] := ⟨_, rfl⟩
 have H2 := St.blk_poolF (H.pick (A := blk b9 (.cells #[.int .u8 98, .int .u8 99, .int .u8 100] 5 (3, 3 + 1))) pk)
 simp only [← hP2] at H2
 have hr2 : RowIn P2 encT 1 (.slice (some ⟨b9, 0, none⟩) 3 3) [98, 99, 100] := ⟨_, _, rfl, by simp [maxLen], fun _ => ⟨b9, 0, rfl, by rw [hP2]; exact List.mem_cons_self⟩⟩
 clear H hP2
 have H := H2
 clear H2
 have ho2 := fun w h1 h2 => of_any (X := X2) (P := P2) HY.out.2.1 hr2 (by decide) (by decide) (by rw [HM2.out.1]; have := HM2.out.2; simp only [List.length_cons, List.length_nil]; omega) w h1 h2
 rw [HY.out.1.p] at ho2
 have HO2 := Lib.hid ho2
 clear ho2
 go_at_call 12; with_reducible refine Calls.mono (HO2.out _ (H.sepK (A := pA X2) HK pk pk) (H.sepO (A := pA X2) pk pk)) ?_; rintro e9 wc ⟨X3, id3, rfl, y1, y2, y3, y4, hb⟩; have HZ := Lib.hid (And.intro y1 (And.intro y2 (And.intro y3 y4))); clear y1 y2 y3 y4; replace H := (H.pick (A := pA X2) pk).call hb; clear hb; simp only [List.cons_append, List.nil_append] at H
 have hse := fun w h => Section_ok (X := X3) (x := id2) (from_ := 1) (n := 3) HZ.out.2.1 (HY.out.2.2.1.le HY.out.2.1.ok HZ.out.1.le) (by decide) (by decide) (by rw [HZ.out.1.le.1, HM2.out.1]; have h8 := HM2.out.2; have h7 := HZ.out.2.2.2; simp only [List.length_cons, List.length_nil, List.length_map] at h7 ⊢; omega) w h
 rw [(HY.out.1.trans HZ.out.1).p] at hse
 have HSE := Lib.hid hse
 clear hse
 go_wp2_with (first | refine sL ?_ | (refine sS ?_; clear H; intros; rename_i H) | fail)
 go_at_call 18; with_reducible refine Calls.mono (HSE.out _ (H.sepK (A := pA X3) HK pk pk)) ?_; rintro e9 wc ⟨X4, id4, rfl, y1, y2, y3, y4, hb⟩; have HW := Lib.hid (And.intro y1 (And.intro y2 (And.intro y3 y4))); clear y1 y2 y3 y4; replace H := (H.pick (A := pA X3) pk).call hb; clear hb; simp only [List.cons_append, List.nil_append] at H
 have hid : id3 = id4 := IdIs.uniq HW.out.2.1.ok (HZ.out.2.2.1.le HZ.out.2.1.ok HW.out.1.le) (by have := HW.out.2.2.1; exact this)
 have hi0 : ¬ id4 = 0 := fun e => by
  have := HW.out.2.2.1
  rcases this with ⟨q, _⟩ | ⟨T, q, _⟩
  ·simp at q
  ·have := q.1; omega
 subst hid
 have e1 : ((id3 : Int) == (id3 : Int)) = true := by simp
 have e2 : ((id3 : Int) != 0) = true := by simp; omega
 have e3 : ((id3 : Int) == 0) = false := by simp; omega
 clear hi0
 go_wp2_with (first | refine sL ?_ | (refine sS ?_; clear H; intros; rename_i H) | fail)
 go_ret
 exact ⟨rfl, H.nix⟩
end
section
open Go.RowKit Go.Maps
attribute [local go_sem] InGr
theorem parsed_c {P : PoolT} {text : List Nat} {v : Value} (hr : RowIn P encT 1 v text) (hb : ∀ x ∈ text, x < 256) (hlen : text.length ≤ 1000) (w : World) (hde : deA.ho w) (hp : (poolA P).ho w) :
  Calls Tryd.prog 4 #[v] w fun e w' => ∃ (X : Px) (id : Nat), e = .returned (.tuple #[.pointer (some ⟨X.p, 0, none⟩), .int .i64 id, .bool true]) ∧ PxOk X ∧ X.S.most = 1048576 ∧ IdIs X.S id (text.map Tr.leaf) ∧ X.S.list.length ≤ 2 * text.length ∧ St w [] [pA X] w' := by
 have H := St.nil w []
 have HK : Ks w [] [deA, poolA P] := Ks.two hde hp
 clear hde hp
 have HNW : Hid (∀ w, Calls Tryd.prog 10 #[.int .i64 1048576] w fun e w' => ∃ p m, e = .returned (.pointer (some ⟨p, 0, none⟩)) ∧ St w [] [stoA p (.slice none 0 0) m ⟨1048576, []⟩] w') := Lib.hid fun w => new_c 1048576 (Nat.le_refl _) 1048576 rfl w
 have HSN : Hid (∀ ps pm w, (stoA ps (.slice none 0 0) pm ⟨1048576, []⟩).ho w → Calls Tryd.prog 9 #[.pointer (some ⟨ps, 0, none⟩)] w fun e w' => ∃ X : Px, X.s = ps ∧ X.S = ⟨1048576, []⟩ ∧ PxOk X ∧ e = .returned (.pointer (some ⟨X.p, 0, none⟩)) ∧ St w (stoA ps (.slice none 0 0) pm ⟨1048576, []⟩).fp [pA X] w') := Lib.hid fun ps pm w h => snew_c sto_nil_ok w h
 have HAW : Hid (∀ w, deA.ho w → Calls Tryd.prog 11 #[] w fun e w' => e = .returned (.bool true) ∧ St w [] [] w') := Lib.hid fun w h => awake_c w h
 have HR := Lib.hid hr
 obtain ⟨ad, c, rfl, hmx⟩ := hr.shape
 have HB := Lib.hid (And.intro hb hlen)
 obtain ⟨n, hn⟩ : ∃ n, text.length = n := ⟨_, rfl⟩
 rcases Nat.eq_zero_or_pos text.length with h0 | h0
 ·have ht := List.eq_nil_of_length_eq_zero h0
  subst ht
  simp only [List.length_nil] at hn
  subst hn
  have HR0 : Hid (∀ b, RowIn [] encT 1 (.slice (some ⟨b, 0, none⟩) 0 0) []) := Lib.hid fun b => ⟨_, _, rfl, by simp, fun h => by simp at h⟩
  simp only [List.length_nil] at HR
  clear hr hb hlen hmx
  go_enter Tryd.func4, Tryd.ntmps4
  go_wp2_with (first | refine sL ?_ | (refine sS ?_; clear H; intros; rename_i H) | (go_at_call 10; with_reducible refine Calls.mono (HNW.out _) ?_; rintro e9 wc ⟨ps, pm, rfl, hb⟩; replace H := H.call0 hb; clear hb; simp only [List.cons_append, List.nil_append] at H) | (go_at_call 9; with_reducible refine Calls.mono (HSN.out _ _ _ (H.get (A := stoA ps (.slice none 0 0) pm ⟨1048576, []⟩) pk)) ?_; rintro e9 wc ⟨X, hxs, hxS, hxo, rfl, hb⟩; have HXN := Lib.hid (And.intro hxS hxo); clear hxs hxS hxo; replace H := (H.pick (A := stoA ps (.slice none 0 0) pm ⟨1048576, []⟩) pk).call hb; clear hb; simp only [List.cons_append, List.nil_append] at H) | (go_at_call 11; with_reducible refine Calls.mono (HAW.out _ (H.known HK (A := deA) pk)) ?_; rintro e9 wc ⟨rfl, hb⟩; replace H := H.grew hb.below; clear hb) | ((with_reducible refine isSlice ?_); refine AtSlice.zero encT H rfl rfl rfl rfl encT_len ?_; clear H; intro b9 _ H; simp only [Act.put, puA, puB, puC]) | ((with_reducible refine isAppend ?_); refine AtAppend.none rfl rfl rfl rfl rfl rfl ?_; simp only [Act.put, puA, puB, puC]))
  obtain ⟨P2, hr2, H2⟩ := St.to_pool (H.pick (A := rowsA encT 5 1 (.slice (some ⟨b9, 0, none⟩) 0 0) []) pk) encT_len
  clear H
  have H := H2
  clear H2
  have ho1 := fun w h1 h2 => of_any (X := X) (P := P2) HXN.out.2 hr2 HB.out.1 (by have := HB.out.2; (try simp only [List.length_nil]); omega) (by rw [HXN.out.1]; have := HB.out.2; (try simp only [List.length_nil]); omega) w h1 h2
  have HO1 := Lib.hid ho1
  clear ho1
  go_at_call 12; with_reducible refine Calls.mono (HO1.out _ (H.sepK (A := pA X) HK pk pk) (H.sepO (A := pA X) pk pk)) ?_; rintro e9 wc ⟨X2, id2, rfl, y1, y2, y3, y4, hb⟩; have HY := Lib.hid (And.intro y1 (And.intro y2 (And.intro y3 y4))); clear y1 y2 y3 y4; replace H := (H.pick (A := pA X) pk).call hb; clear hb; simp only [List.cons_append, List.nil_append] at H
  go_wp2_with (first | refine sL ?_ | (refine sS ?_; clear H; intros; rename_i H) | fail)
  refine wp_region_h H 7 [] [] (by kernel_rfl) (by kernel_rfl) ?_
  apply Exists.intro
  refine ⟨fun w1 hw1 HX => ?_, fun bs wr Hr => ?_⟩
  ·refine sG ?_
   repeat (first | go_big_quiet_skip | refine sQ ?_ | fail | go_big_quiet_step (fail))
   exact wpQuiet_nil rfl
  clear H
  have H := Hr
  clear Hr
  replace H := sH H; refine sT ?_
  go_wp2_with (first | refine sL ?_ | (refine sS ?_; clear H; intros; rename_i H) | fail)
  go_ret3
  exact ⟨X2, id2, by rw [HY.out.1.p]; rfl, HY.out.2.1, by rw [HY.out.1.le.1, HXN.out.1], HY.out.2.2.1, by have := HY.out.2.2.2; rw [HXN.out.1] at this; first | (simpa using this) | (rw [← HL.out.1]; simpa using this), H.picks (.cons (A := pA X2) pk .nil)⟩
 ·have HL : Hid (text.length = n ∧ n ≤ 65536 ∧ 0 < n) := Lib.hid ⟨hn, by omega, by omega⟩
  rw [hn] at HR ⊢
  clear hr hb hlen hmx h0 hn
  go_enter Tryd.func4, Tryd.ntmps4
  go_wp2_with (first | refine sL ?_ | (refine sS ?_; clear H; intros; rename_i H) | (go_at_call 10; with_reducible refine Calls.mono (HNW.out _) ?_; rintro e9 wc ⟨ps, pm, rfl, hb⟩; replace H := H.call0 hb; clear hb; simp only [List.cons_append, List.nil_append] at H) | (go_at_call 9; with_reducible refine Calls.mono (HSN.out _ _ _ (H.get (A := stoA ps (.slice none 0 0) pm ⟨1048576, []⟩) pk)) ?_; rintro e9 wc ⟨X, hxs, hxS, hxo, rfl, hb⟩; have HXN := Lib.hid (And.intro hxS hxo); clear hxs hxS hxo; replace H := (H.pick (A := stoA ps (.slice none 0 0) pm ⟨1048576, []⟩) pk).call hb; clear hb; simp only [List.cons_append, List.nil_append] at H) | (go_at_call 11; with_reducible refine Calls.mono (HAW.out _ (H.known HK (A := deA) pk)) ?_; rintro e9 wc ⟨rfl, hb⟩; replace H := H.grew hb.below; clear hb) | ((with_reducible refine isSlice ?_); refine AtSlice.zero encT H rfl rfl rfl rfl encT_len ?_; clear H; intro b9 _ H; simp only [Act.put, puA, puB, puC]) | ((with_reducible refine isAppend ?_); refine AtAppend.pool (enc := encT) (P := P) (ys := text) H rfl rfl rfl rfl rfl (by decide) (by decide) rfl pk rfl HR.out (H.known HK pk) encT_len encT_one' (by have := HL.out; simp; omega) (by have := HL.out; omega) ?_; clear H; intro ad9 cp9 _ H; simp only [Act.put, puA, puB, puC]))
  simp only [List.nil_append, List.length_nil, Nat.zero_add] at H
  obtain ⟨P2, hr2, H2⟩ := St.to_pool (H.pick (A := rowsA encT 5 1 (.slice ad9 text.length cp9) text) pk) encT_len
  clear H
  have H := H2
  clear H2
  have ho1 := fun w h1 h2 => of_any (X := X) (P := P2) HXN.out.2 hr2 HB.out.1 (by have := HB.out.2; (try simp only [List.length_nil]); omega) (by rw [HXN.out.1]; have := HB.out.2; (try simp only [List.length_nil]); omega) w h1 h2
  have HO1 := Lib.hid ho1
  clear ho1
  go_at_call 12; with_reducible refine Calls.mono (HO1.out _ (H.sepK (A := pA X) HK pk pk) (H.sepO (A := pA X) pk pk)) ?_; rintro e9 wc ⟨X2, id2, rfl, y1, y2, y3, y4, hb⟩; have HY := Lib.hid (And.intro y1 (And.intro y2 (And.intro y3 y4))); clear y1 y2 y3 y4; replace H := (H.pick (A := pA X) pk).call hb; clear hb; simp only [List.cons_append, List.nil_append] at H
  go_wp2_with (first | refine sL ?_ | (refine sS ?_; clear H; intros; rename_i H) | fail)
  refine wp_region_h H 7 [] [] (by kernel_rfl) (by kernel_rfl) ?_
  apply Exists.intro
  refine ⟨fun w1 hw1 HX => ?_, fun bs wr Hr => ?_⟩
  ·refine sG ?_
   repeat (first | go_big_quiet_skip | refine sQ ?_ | fail | go_big_quiet_step (fail))
   exact wpQuiet_nil rfl
  clear H
  have H := Hr
  clear Hr
  replace H := sH H; refine sT ?_
  go_wp2_with (first | refine sL ?_ | (refine sS ?_; clear H; intros; rename_i H) | fail)
  go_ret3
  exact ⟨X2, id2, by rw [HY.out.1.p]; rfl, HY.out.2.1, by rw [HY.out.1.le.1, HXN.out.1], HY.out.2.2.1, by have := HY.out.2.2.2; rw [HXN.out.1] at this; first | (simpa using this) | (rw [← HL.out.1]; simpa using this), H.picks (.cons (A := pA X2) pk .nil)⟩
def offV (a : Int) (n : Nat) : Int := if (bits BinOp.and IntKind.i64 a 7 == 0) = true then a else (bits BinOp.and IntKind.i64 (a / 8) 2305843009213693951).tmod ((n + 1 : Nat) : Int)
theorem offset_c (a : Int) (n : Nat) (hn : n ≤ 1000) (w : World) : Calls Tryd.prog 5 #[.int .i64 a, .int .i64 (n : Nat)] w fun e w' => e = .returned (.int .i64 (offV a n)) ∧ w' = w := by
 obtain ⟨n1, hn1⟩ : ∃ n1, n + 1 = n1 := ⟨_, rfl⟩
 have i1 : (n : Int) + 1 = (n1 : Nat) := by omega
 have i2 : ((n1 : Int) == 0) = false := by simp; omega
 have i3 : ¬ (n1 : Int) = 0 := by omega
 have i4 : ¬ n1 = 0 := by omega
 have i5 : n1 ≤ 1001 := by omega
 have HN1 := Lib.hid hn1
 clear hn1
 go_enter Tryd.func5, Tryd.ntmps5
 go_wp2_with (first | refine sL ?_ | (refine sS ?_; clear H; intros; rename_i H) | fail)
 all_goals go_ret
 ·rename_i h
  exact ⟨by rw [offV, if_pos h]; rfl, rfl⟩
 ·rename_i h
  exact ⟨by rw [offV, if_neg (by rw [h]; exact Bool.false_ne_true), HN1.out]; rfl, rfl⟩
end
section
open Go.RowKit Go.Maps
attribute [local go_sem] InGr
theorem run_assert_int {P : Program} {t xT : TypeId} {k : IntKind} {v : Value} {w : World} (h : P.underlying t = some (.int k)) : (Instr.typeAssert (.iface t v) xT t true).run P w = .ok (.tuple #[v, .bool true]) w := by
 simp [Instr.typeAssert, run_underlying h, go_sem, Result.andThen]
theorem errno_under : Tryd.prog.underlying 33 = some (.int .i64) := by kernel_rfl
section
variable {ops : Array Oper} {Q : Exit → Act → World → Prop} {rest : List Oper} {a : Act} {w : World} {o1 : Oper} {dst : Option Tmp} {ty0 : TypeId} {pos : String} {aft : Array Edge} {gd : Option (Nat × Bool)}
def AtAssert (P : Program) (ops : Array Oper) (Q : Exit → Act → World → Prop) (o : Oper) (_ : Operand) (_ _ : TypeId) (_ : Bool) (rest : List Oper) (a : Act) (w : World) : Prop := wpList P ops Q (o :: rest) a w
theorem isAssert {P : Program} {t u : TypeId} {x : Operand} {ok : Bool} (h : AtAssert P ops Q ⟨dst, .typeAssert x t u ok, ty0, pos, aft, gd⟩ x t u ok rest a w) : wpList P ops Q (⟨dst, .typeAssert x t u ok, ty0, pos, aft, gd⟩ :: rest) a w := h
theorem AtAssert.errno {x : Operand} {xT : TypeId} {v : Value} (hw : Region.wanted o1 (yielded ops a.tmps) = true) (ho : o1.op = .typeAssert x xT 33 true) (hx : a.eval x = .iface 33 v)
  (h : wpList Tryd.prog ops Q rest (a.put o1.dst (.tuple #[v, .bool true])) w) : AtAssert Tryd.prog ops Q o1 x xT 33 true rest a w :=
 wpList_step fun _ hK => by
  rw [if_pos hw]
  unfold Oper.wp execOp
  simp only [ho, hx, Sem.run_bind, run_assert_int errno_under, Result.andThen_ok]
  exact hK _ _ h
end
theorem num_ev (n : Nat) (w : World) : Calls Tryd.prog 15 #[.iface 33 (.int .i64 n)] w fun e w' => e = .returned (.int .i64 n) ∧ w' = w := by
 have H := St.nil w []
 have HK := Ks.nil w []
 go_enter Tryd.func15, Tryd.ntmps15
 go_wp2_with (first | refine sL ?_ | ((with_reducible refine isAssert ?_); refine AtAssert.errno rfl rfl rfl ?_; simp only [Act.put, puA, puB, puC]))
 go_ret
 exact ⟨rfl, rfl⟩
theorem is_ev (n k : Nat) (hk : 0 < k) (b : Bool) (hb : ((n : Int) == (k : Int)) = b) (w : World) : Calls Tryd.prog 7 #[.iface 33 (.int .i64 n), .int .i64 k] w fun e w' => e = .returned (.bool b) ∧ w' = w := by
 have H := St.nil w []
 have HK := Ks.nil w []
 have HN := Lib.hid (fun w => num_ev n w)
 have h0 : ((k : Int) == 0) = false := by simp; omega
 have h1 : ((k : Int) != 0) = true := by simp; omega
 cases b with
 |false =>
  go_enter Tryd.func7, Tryd.ntmps7
  go_wp2_with (first | refine sL ?_ | (go_at_call 15; with_reducible refine same (HN.out _) ?_))
  go_ret
  exact ⟨rfl, rfl⟩
 |true =>
  go_enter Tryd.func7, Tryd.ntmps7
  go_wp2_with (first | refine sL ?_ | (go_at_call 15; with_reducible refine same (HN.out _) ?_))
  go_ret
  exact ⟨rfl, rfl⟩
section
variable {ops : Array Oper} {Q : Exit → Act → World → Prop} {rest : List Oper} {a : Act} {w w0 : World} {M : List Nat} {L R : List As} {o1 : Oper} {dst : Option Tmp} {ty0 : TypeId} {pos : String} {aft : Array Edge} {gd : Option (Nat × Bool)} {Rr : Value → World → Prop}
def cutA (ad : Option Addr) (c l : Nat) : Option Addr := if c = l then ad else ad.map (·.add l)
theorem run_sl {t e : TypeId} (hte : sliceO t = some e) {z : Value} {bytes : Nat} (hi : infoO e = some (z, 1, bytes)) {ad : Option Addr} {n c : Nat} (lo hi' : Option Nat) {l h : Nat} (hl : lo.getD 0 = l) (hh : hi'.getD n = h) (h1 : l ≤ h) (h2 : h ≤ c) (w : World) :
  (Instr.sliceAt t (.slice ad n c) (lo.map fun x => .int .i64 (x : Nat)) (hi'.map fun x => .int .i64 (x : Nat)) none).run Tryd.prog w = .ok (.slice (cutA ad c l) (h - l) (c - l)) w := by
 obtain ⟨i, e2, e3, e4, e5⟩ := infoO_ok hi
 have hu := sliceO_ok hte
 have hb : (Instr.sliceBound (Value.int .i64 (h : Nat)) c .sliceAcap).run Tryd.prog w = .ok h w := by
  unfold Instr.sliceBound
  simp [asIntOf, h2]
 have hb2 : (Instr.sliceBound (Value.int .i64 (l : Nat)) h .sliceB).run Tryd.prog w = .ok l w := by
  unfold Instr.sliceBound
  simp [asIntOf, h1]
 unfold cutA
 cases lo with
 |none =>
  simp at hl
  subst hl
  cases hi' with
  |none =>
   simp at hh
   subst hh
   simp [Instr.sliceAt, Instr.slice, Instr.sliceBounds, run_underlying hu, sizeOf, typeInfo, e2, e4, Sem.run_bind, Result.andThen]
  |some x =>
   simp at hh
   subst hh
   simp [Instr.sliceAt, Instr.slice, Instr.sliceBounds, run_underlying hu, sizeOf, typeInfo, e2, e4, Sem.run_bind, Result.andThen, hb]
 |some y =>
  simp at hl
  subst hl
  cases hi' with
  |none =>
   simp at hh
   subst hh
   simp [Instr.sliceAt, Instr.slice, Instr.sliceBounds, run_underlying hu, sizeOf, typeInfo, e2, e4, Sem.run_bind, Result.andThen, hb2]
  |some x =>
   simp at hh
   subst hh
   simp [Instr.sliceAt, Instr.slice, Instr.sliceBounds, run_underlying hu, sizeOf, typeInfo, e2, e4, Sem.run_bind, Result.andThen, hb, hb2]
def AtSeg (P : Program) (ops : Array Oper) (Q : Exit → Act → World → Prop) (o : Oper) (_ : TypeId) (_ : Operand) (_ _ : Option Operand) (rest : List Oper) (a : Act) (w : World) : Prop := wpList P ops Q (o :: rest) a w
theorem isSeg {P : Program} {t : TypeId} {x : Operand} {y1 y2 : Option Operand} (h : AtSeg P ops Q ⟨dst, .slice t x y1 y2 none, ty0, pos, aft, gd⟩ t x y1 y2 rest a w) : wpList P ops Q (⟨dst, .slice t x y1 y2 none, ty0, pos, aft, gd⟩ :: rest) a w := h
theorem AtSeg.row {t e : TypeId} {x : Operand} {y1 y2 : Option Operand} (lo hi' : Option Nat) (hw : Region.wanted o1 (yielded ops a.tmps) = true) (ho : o1.op = .slice t x y1 y2 none) (hte : sliceO t = some e) {z : Value} {bytes : Nat} (hi : infoO e = some (z, 1, bytes)) {ad : Option Addr} {n c : Nat} (hx : a.eval x = .slice ad n c) (hy1 : y1.map a.eval = lo.map fun x => .int .i64 (x : Nat)) (hy2 : y2.map a.eval = hi'.map fun x => .int .i64 (x : Nat))
  {l h m cr : Nat} (hl : lo.getD 0 = l) (hh : hi'.getD n = h) (h1 : l ≤ h) (h2 : h ≤ c) (hm : h - l = m) (hcr : c - l = cr) {ad' : Option Addr} (had : cutA ad c l = ad')
  (h9 : wpList Tryd.prog ops Q rest (a.put o1.dst (.slice ad' m cr)) w) : AtSeg Tryd.prog ops Q o1 t x y1 y2 rest a w :=
 wpList_step fun _ hK => by
  rw [if_pos hw]
  unfold Oper.wp execOp
  simp only [ho, hx, hy1, hy2, Option.map_none, Sem.run_bind, run_sl hte hi lo hi' hl hh h1 h2, Result.andThen_ok, Sem.run_pure, had, hm, hcr]
  exact hK _ _ h9
end
theorem flatT_get (xs : List Nat) (i : Nat) : (flatG encT xs)[i]? = xs[i]?.map fun x => (.int .u8 (x : Nat) : Value) := by
 have : flatG encT xs = xs.map fun x => (.int .u8 (x : Nat) : Value) := by
  unfold flatG
  induction xs with
  |nil => rfl
  |cons x xs ih => rw [List.flatMap_cons, ih]; rfl
 rw [this, List.getElem?_map]
def TxtIn (P : PoolT) (v : Value) (xs : List Nat) : Prop := ∃ ad c, v = .slice ad xs.length c ∧ xs.length ≤ c ∧ RowIn P encT 1 v xs
theorem TxtIn.row {P : PoolT} {v : Value} {xs : List Nat} (h : TxtIn P v xs) : RowIn P encT 1 v xs := by obtain ⟨_, _, _, _, h⟩ := h; exact h
theorem TxtIn.cut {P : PoolT} {ad : Option Addr} {n c : Nat} {xs : List Nat} (h : TxtIn P (.slice ad n c) xs) (l m : Nat) (h2 : l + m ≤ xs.length) :
  n = xs.length ∧ n ≤ c ∧ ∃ (ad' : Option Addr) (P' : PoolT), cutA ad c l = ad' ∧ (∀ x ∈ P, x ∈ P') ∧ (∀ w, (poolA P).ho w → (poolA P').ho w) ∧ TxtIn P' (.slice ad' m (c - l)) ((xs.drop l).take m) := by
 obtain ⟨ad0, c0, e1, hc, ad1, c1, e2, hmx, hr⟩ := h
 injection e1 with q1 q2 q3
 subst q1 q2 q3
 injection e2 with q1 q2 q3
 subst q1 q3
 have hlen : ((xs.drop l).take m).length = m := by simp; omega
 refine ⟨rfl, hc, ?_⟩
 rcases Nat.eq_zero_or_pos m with rfl | hm
 ·exact ⟨_, P, rfl, fun x h => h, fun w h => h, ⟨_, _, by rw [hlen], by omega, _, _, by rw [hlen], by omega, fun h => by omega⟩⟩
 ·obtain ⟨g, o, rfl, hp⟩ := hr (by omega)
  have hcl : ¬ c = l := by omega
  have had : cutA (some ⟨g, o, none⟩) c l = some ⟨g, o + l, none⟩ := by
   unfold cutA Addr.add
   rw [if_neg hcl]
   by_cases h0 : l = 0
   ·subst h0; simp
   ·simp [h0]
  refine ⟨_, (g, o + l, flatG encT ((xs.drop l).take m)) :: P, had, fun x h => List.mem_cons_of_mem _ h, fun w h => ?_, ⟨_, _, by rw [hlen], by omega, _, _, by rw [hlen], by omega, fun _ => ⟨g, o + l, rfl, List.mem_cons_self⟩⟩⟩
  rw [poolA_ho] at h ⊢
  intro x hx
  rcases List.mem_cons.1 hx with rfl | hx
  ·refine ⟨(h _ hp).1, fun j u hj => ?_⟩
   have := (h _ hp).2 (l + j) u (by
    rw [flatT_get] at hj ⊢
    rw [List.getElem?_take] at hj
    split at hj
    ·rwa [List.getElem?_drop] at hj
    ·simp at hj)
   simpa [Nat.add_assoc] using this
  ·exact h x hx
theorem TxtIn.mono {P Q : PoolT} {v : Value} {xs : List Nat} (h : TxtIn P v xs) (hs : ∀ x ∈ P, x ∈ Q) : TxtIn Q v xs := by
 obtain ⟨ad, c, h1, h2, h3⟩ := h
 exact ⟨ad, c, h1, h2, h3.mono hs⟩
end
section
open Go.RowKit Go.Maps
attribute [local go_sem] InGr
section
variable {ops : Array Oper} {a : Act} {w w0 : World} {M : List Nat} {L R : List As} {o1 : Oper} {Rr : Value → World → Prop}
theorem run_append_nil {t e ty : TypeId} (hte : sliceO t = some e) {z : Value} {k bytes : Nat} (hi : infoO e = some (z, k, bytes)) {n c c' : Nat} {ad ad' : Option Addr} (hn : n ≤ c) {w : World} : (Builtin.append_ #[t, t] ty #[.slice ad n c, .slice ad' 0 c']).run Tryd.prog w = .ok (.slice ad n c) w := by
 obtain ⟨i, h2, h3, h4, h5⟩ := infoO_ok hi
 have hu := sliceO_ok hte
 cases ad with
 |none => cases ad' with
  |none => simp [Builtin.append_, run_underlying hu, sizeOf, typeInfo, h2, Builtin.lenOf, Builtin.firstCells, loadCells, loadCellsFrom, storeCells, hn]
  |some x => simp [Builtin.append_, run_underlying hu, sizeOf, typeInfo, h2, Builtin.lenOf, Builtin.firstCells, loadCells, loadCellsFrom, storeCells, hn]
 |some y => cases ad' with
  |none => simp [Builtin.append_, run_underlying hu, sizeOf, typeInfo, h2, Builtin.lenOf, Builtin.firstCells, loadCells, loadCellsFrom, storeCells, hn]
  |some x => simp [Builtin.append_, run_underlying hu, sizeOf, typeInfo, h2, Builtin.lenOf, Builtin.firstCells, loadCells, loadCellsFrom, storeCells, hn]
end
end
end Go.Proofs.YtnnbeldbccejpaaDoor
