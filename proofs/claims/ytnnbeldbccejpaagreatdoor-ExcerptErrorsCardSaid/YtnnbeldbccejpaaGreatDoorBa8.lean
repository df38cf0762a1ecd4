/-
  Part 8 of the texts behind the statements of this seat: walks and laws De, Df, Dg, Dh. Conditions: as each states.
-/
import Derived.Test.YtnnbeldbccejpaaGreatDoorBa7
set_option linter.unusedSimpArgs false
set_option linter.unusedVariables false
set_option maxRecDepth 100000
set_option maxHeartbeats 80000000
namespace Go.Proofs.YtnnbeldbccejpaaGreatDoor
section
open Go.RowKit Go.Maps
attribute [local go_sem] InGr
section
variable {ops : Array Oper} {Q : Exit → Act → World → Prop} {rest : List Oper} {a : Act} {w w0 : World} {M : List Nat} {L : List As} {o1 : Oper}
theorem AtSlice.lit {t e : TypeId} {n : Nat} {ps : Array (Nat × Operand)} (H : St w0 M L w) (hw : Region.wanted o1 (yielded ops a.tmps) = true) (ho : o1.op = .buildSlice t n ps) (hte : sliceO t = some e) {z : Value} {k bytes : Nat} {cs : Array Value} (hi : infoO e = some (z, k, bytes)) (hk : k = 1) (hz : z.cells.size = 1) (hn : ¬ n * 1 > 2 ^ 24) (hn0 : ¬ n * 1 = 0)
  (hf : Instr.fill (fun i => some (i * 1, 1)) ((Array.range (n * 1)).map (z.cells[· % z.cells.size]!)) (ps.map fun (i, x) => (i, a.eval x)).toList = some cs)
  (h : ∀ b w', St w0 M (blk b (.cells cs e) :: L) w' → wpList Tryz.prog ops Q rest (a.put o1.dst (.slice (some ⟨b, 0, none⟩) n n)) w') : AtSlice Tryz.prog ops Q o1 t n ps rest a w :=
 wpList_step fun _ hK => by
  rw [if_pos hw]
  obtain ⟨i, h2, h3, h4, h5⟩ := infoO_ok hi
  subst hk
  have hr := run_buildSlice (P := Tryz.prog) w t e n (ps.map fun (i, x) => (i, a.eval x)) cs i z (sliceO_ok hte) h2 h3 (by rw [h4]; exact hn) (by rw [h4]; exact hn0) (by rw [h4]; exact hf)
  unfold Oper.wp execOp
  simp only [ho, Sem.run_bind, hr, Result.andThen_ok, Sem.run_pure]
  exact hK _ _ (h _ _ (H.alloc _))
end
theorem St.freeze {g : Nat} {cs : Array Value} {e : TypeId} {w0 w : World} {M : List Nat} {L : List As} (h : St w0 M (blk g (.cells cs e) :: L) w) : St w0 M (blk g (.cells cs e (cs.size, cs.size + 1)) :: L) (w.freeze ⟨g, cs.size, none⟩ 1) := by
 have hg : w.heap[g]? = some (.cells cs e) := h.at Pick.here
 have hs : (w.freeze ⟨g, cs.size, none⟩ 1).heap.size = w.heap.size := by unfold World.freeze; simp
 have hlt : g < w.heap.size := (Array.getElem?_eq_some_iff.1 hg).1
 refine St.turn h (A' := blk g (.cells cs e (cs.size, cs.size + 1))) (fun b hb => ?_) rfl rfl rfl hs ?_ (by rw [blk_fp, blk_fp])
 ·have hne : g ≠ b := fun e' => hb (by simp [blk, e'])
  unfold World.freeze
  simp only [Nat.succ_ne_zero, if_false]
  rw [Array.getElem?_modify, if_neg hne]
 ·rw [blk_ho]
  unfold World.freeze
  simp only [Nat.succ_ne_zero, if_false]
  rw [Array.getElem?_modify, if_pos rfl, hg]
  rfl
theorem run_conv {t : TypeId} (hte : sliceO t = some 5) {g n c : Nat} {cs : Array Value} {e : TypeId} {w : World} (hg : w.heap[g]? = some (.cells cs e)) : (convert t t (.slice (some ⟨g, 0, none⟩) n c)).run Tryz.prog w = .ok (.slice (some ⟨g, 0, none⟩) n c) (w.freeze ⟨g, cs.size, none⟩ 1) := by
 have hu := run_underlying (P := Tryz.prog) (sliceO_ok hte)
 have hu5 : Tryz.prog.underlying 5 = some (.int .u8) := by kernel_rfl
 have hu6 := run_underlying (P := Tryz.prog) hu5
 simp [convert, hu, hu6, markStringish, shape, freeze, Sem.run, World.shape?, hg]
def AtConv (P : Program) (ops : Array Oper) (Q : Exit → Act → World → Prop) (o : Oper) (_ : TypeId) (_ : Operand) (rest : List Oper) (a : Act) (w : World) : Prop := wpList P ops Q (o :: rest) a w
section
variable {ops : Array Oper} {Q : Exit → Act → World → Prop} {rest : List Oper} {a : Act} {w w0 : World} {M : List Nat} {L R : List As} {o1 : Oper} {dst : Option Tmp} {ty0 : TypeId} {pos : String} {aft : Array Edge} {gd : Option (Nat × Bool)}
theorem isConv {P : Program} {t : TypeId} {x : Operand} (h : AtConv P ops Q ⟨dst, .convert t t x, ty0, pos, aft, gd⟩ t x rest a w) : wpList P ops Q (⟨dst, .convert t t x, ty0, pos, aft, gd⟩ :: rest) a w := h
theorem AtConv.bytes {t e : TypeId} {x : Operand} (H : St w0 M L w) (hw : Region.wanted o1 (yielded ops a.tmps) = true) (ho : o1.op = .convert t t x) (hte : sliceO t = some 5) {g n c : Nat} (hx : a.eval x = .slice (some ⟨g, 0, none⟩) n c) {cs : Array Value} (hp : Pick L (blk g (.cells cs e)) R)
  (h : ∀ w', St w0 M (blk g (.cells cs e (cs.size, cs.size + 1)) :: R) w' → wpList Tryz.prog ops Q rest (a.put o1.dst (.slice (some ⟨g, 0, none⟩) n c)) w') : AtConv Tryz.prog ops Q o1 t x rest a w :=
 wpList_step fun _ hK => by
  rw [if_pos hw]
  have H' := H.pick hp
  have hg : w.heap[g]? = some (.cells cs e) := H'.at Pick.here
  unfold Oper.wp execOp
  simp only [ho, hx, Sem.run_bind, run_conv hte hg, Result.andThen_ok, Sem.run_pure]
  exact hK _ _ (h _ H'.freeze)
end
theorem St.blk_poolF {e : TypeId} {g : Nat} {cs : Array Value} {fr : Nat × Nat} {w0 w : World} {M : List Nat} {R : List As} (h : St w0 M (blk g (.cells cs e fr) :: R) w) : St w0 M (poolA [(g, 0, cs.toList)] :: R) w :=
 h.conv (by rw [poolA_fp, blk_fp]; rfl) fun hb => by
  rw [blk_ho] at hb
  rw [poolA_ho]
  intro x hx
  simp only [List.mem_cons, List.not_mem_nil, or_false] at hx
  subst hx
  refine ⟨(Array.getElem?_eq_some_iff.1 hb).1, fun j u hj => ?_⟩
  rw [cell_of_row w g (0 + j) cs e fr hb]
  simpa using hj
theorem sto_nil_ok : Sto.Ok ⟨1048576, []⟩ := ⟨Nat.le_refl _, by simp, fun i j x y h => by simp at h, fun i x h => by simp at h⟩
theorem awake_c (w : World) (hde : deA.ho w) : Calls Tryz.prog 29 #[] w fun e w' => e = .returned (.bool true) ∧ St w [] [] w' := by
 have H := St.nil w []
 have HK : Ks w [] [deA] := Ks.one hde
 clear hde
 have HNW : Hid (∀ w, Calls Tryz.prog 28 #[.int .i64 1048576] w fun e w' => ∃ p m, e = .returned (.pointer (some ⟨p, 0, none⟩)) ∧ St w [] [stoA p (.slice none 0 0) m ⟨1048576, []⟩] w') := Lib.hid fun w => new_c 1048576 (Nat.le_refl _) 1048576 rfl w
 have HSN : Hid (∀ ps pm w, (stoA ps (.slice none 0 0) pm ⟨1048576, []⟩).ho w → Calls Tryz.prog 27 #[.pointer (some ⟨ps, 0, none⟩)] w fun e w' => ∃ X : Px, X.s = ps ∧ X.S = ⟨1048576, []⟩ ∧ PxOk X ∧ e = .returned (.pointer (some ⟨X.p, 0, none⟩)) ∧ St w (stoA ps (.slice none 0 0) pm ⟨1048576, []⟩).fp [pA X] w') := Lib.hid fun ps pm w h => snew_c sto_nil_ok w h
 go_enter Tryz.func29, Tryz.ntmps29
 go_wp2_with (first | refine sL ?_ | (refine sS ?_; clear H; intros; rename_i H) | (go_at_call 28; with_reducible refine Calls.mono (HNW.out _) ?_; rintro e9 wc ⟨ps, pm, rfl, hb⟩; replace H := H.call0 hb; clear hb; simp only [List.cons_append, List.nil_append] at H) | (go_at_call 27; with_reducible refine Calls.mono (HSN.out _ _ _ (H.get (A := stoA ps (.slice none 0 0) pm ⟨1048576, []⟩) pk)) ?_; rintro e9 wc ⟨X, hxs, hxS, hxo, rfl, hb⟩; have HXN := Lib.hid (And.intro hxS hxo); clear hxs hxS hxo; replace H := (H.pick (A := stoA ps (.slice none 0 0) pm ⟨1048576, []⟩) pk).call hb; clear hb; simp only [List.cons_append, List.nil_append] at H) | ((with_reducible refine isSlice ?_); refine AtSlice.lit H rfl rfl rfl (cs := #[.int .u8 97, .int .u8 98, .int .u8 99, .int .u8 100, .int .u8 101]) rfl rfl rfl (by decide) (by decide) (by kernel_rfl) ?_; clear H; intro b9 _ H; simp only [Act.put, puA, puB, puC]) | ((with_reducible refine isConv ?_); refine AtConv.bytes (e := 5) H rfl rfl rfl rfl pk ?_; clear H; intro _ H; simp only [Act.put, puA, puB, puC]))
 obtain ⟨P2, hP2⟩ : ∃ P2 : PoolT, P2 = [(b9, 0, [.int .u8 97, .int .u8 98, .int .u8 99, .int .u8 100, .int .u8 101])] := ⟨_, rfl⟩
 have H2 := St.blk_poolF (H.pick (A := blk b9 (.cells #[.int .u8 97, .int .u8 98, .int .u8 99, .int .u8 100, .int .u8 101] 5 (5, 5 + 1))) pk)
 simp only [← hP2] at H2
 have hr2 : RowIn P2 encT 1 (.slice (some ⟨b9, 0, none⟩) 5 5) [97, 98, 99, 100, 101] := ⟨_, _, rfl, by simp [maxLen], fun _ => ⟨b9, 0, rfl, by rw [hP2]; exact List.mem_cons_self⟩⟩
 clear H hP2
 have H := H2
 clear H2
 have ho1 := fun w h1 h2 => of_any (X := X) (P := P2) HXN.out.2 hr2 (by decide) (by decide) (by rw [HXN.out.1]; decide) w h1 h2
 have HO1 := Lib.hid ho1
 clear ho1
 go_at_call 16; with_reducible refine Calls.mono (HO1.out _ (H.sepK (A := pA X) HK pk pk) (H.sepO (A := pA X) pk pk)) ?_; rintro e9 wc ⟨X2, id2, rfl, y1, y2, y3, y4, hb⟩; have HY := Lib.hid (And.intro y1 (And.intro y2 (And.intro y3 y4))); clear y1 y2 y3 y4; replace H := (H.pick (A := pA X) pk).call hb; clear hb; simp only [List.cons_append, List.nil_append] at H
 go_wp2_with (first | refine sL ?_ | (refine sS ?_; clear H; intros; rename_i H) | ((with_reducible refine isSlice ?_); refine AtSlice.lit H rfl rfl rfl (cs := #[.int .u8 98, .int .u8 99, .int .u8 100]) rfl rfl rfl (by decide) (by decide) (by kernel_rfl) ?_; clear H; intro b9 _ H; simp only [Act.put, puA, puB, puC]) | ((with_reducible refine isConv ?_); refine AtConv.bytes (e := 5) H rfl rfl rfl rfl pk ?_; clear H; intro _ H; simp only [Act.put, puA, puB, puC]))
 have HM2 : Hid (X2.S.most = 1048576 ∧ X2.S.list.length ≤ 10) := Lib.hid ⟨by rw [HY.out.1.le.1, HXN.out.1], by have := HY.out.2.2.2; rw [HXN.out.1] at this; simpa using this⟩
 obtain ⟨P2, hP2⟩ : ∃ P2 : PoolT, P2 = [(b9, 0, [.int .u8 98, .int .u8 99, .int .u8 100])] := ⟨_, rfl⟩
 have H2 := St.blk_poolF (H.pick (A := blk b9 (.cells #[.int .u8 98, .int .u8 99, .int .u8 100] 5 (3, 3 + 1))) pk)
 simp only [← hP2] at H2
 have hr2 : RowIn P2 encT 1 (.slice (some ⟨b9, 0, none⟩) 3 3) [98, 99, 100] := ⟨_, _, rfl, by simp [maxLen], fun _ => ⟨b9, 0, rfl, by rw [hP2]; exact List.mem_cons_self⟩⟩
 clear H hP2
 have H := H2
 clear H2
 have ho2 := fun w h1 h2 => of_any (X := X2) (P := P2) HY.out.2.1 hr2 (by decide) (by decide) (by rw [HM2.out.1]; have := HM2.out.2; simp only [List.length_cons, List.length_nil]; omega) w h1 h2
 rw [HY.out.1.p] at ho2
 have HO2 := Lib.hid ho2
 clear ho2
 go_at_call 16; with_reducible refine Calls.mono (HO2.out _ (H.sepK (A := pA X2) HK pk pk) (H.sepO (A := pA X2) pk pk)) ?_; rintro e9 wc ⟨X3, id3, rfl, y1, y2, y3, y4, hb⟩; have HZ := Lib.hid (And.intro y1 (And.intro y2 (And.intro y3 y4))); clear y1 y2 y3 y4; replace H := (H.pick (A := pA X2) pk).call hb; clear hb; simp only [List.cons_append, List.nil_append] at H
 have hse := fun w h => Section_ok (X := X3) (x := id2) (from_ := 1) (n := 3) HZ.out.2.1 (HY.out.2.2.1.le HY.out.2.1.ok HZ.out.1.le) (by decide) (by decide) (by rw [HZ.out.1.le.1, HM2.out.1]; have h8 := HM2.out.2; have h7 := HZ.out.2.2.2; simp only [List.length_cons, List.length_nil, List.length_map] at h7 ⊢; omega) w h
 rw [(HY.out.1.trans HZ.out.1).p] at hse
 have HSE := Lib.hid hse
 clear hse
 go_wp2_with (first | refine sL ?_ | (refine sS ?_; clear H; intros; rename_i H) | fail)
 go_at_call 10; with_reducible refine Calls.mono (HSE.out _ (H.sepK (A := pA X3) HK pk pk)) ?_; rintro e9 wc ⟨X4, id4, rfl, y1, y2, y3, y4, hb⟩; have HW := Lib.hid (And.intro y1 (And.intro y2 (And.intro y3 y4))); clear y1 y2 y3 y4; replace H := (H.pick (A := pA X3) pk).call hb; clear hb; simp only [List.cons_append, List.nil_append] at H
 have hid : id3 = id4 := IdIs.uniq HW.out.2.1.ok (HZ.out.2.2.1.le HZ.out.2.1.ok HW.out.1.le) (by have := HW.out.2.2.1; exact this)
 have hi0 : ¬ id4 = 0 := fun e => by
  have := HW.out.2.2.1
  rcases this with ⟨q, _⟩ | ⟨T, q, _⟩
  ·simp at q
  ·have := q.1; omega
 subst hid
 have e1 : ((id3 : Int) == (id3 : Int)) = true := by simp
 have e2 : ((id3 : Int) != 0) = true := by simp; omega
 have e3 : ((id3 : Int) == 0) = false := by simp; omega
 clear hi0
 go_wp2_with (first | refine sL ?_ | (refine sS ?_; clear H; intros; rename_i H) | fail)
 go_ret
 exact ⟨rfl, H.nix⟩
end
section
open Go.RowKit Go.Maps
attribute [local go_sem] InGr
theorem parsed_c {P : PoolT} {text : List Nat} {v : Value} (hr : RowIn P encT 1 v text) (hb : ∀ x ∈ text, x < 256) (hlen : text.length ≤ 1000) (w : World) (hde : deA.ho w) (hp : (poolA P).ho w) :
  Calls Tryz.prog 8 #[v] w fun e w' => ∃ (X : Px) (id : Nat), e = .returned (.tuple #[.pointer (some ⟨X.p, 0, none⟩), .int .i64 id, .bool true]) ∧ PxOk X ∧ X.S.most = 1048576 ∧ IdIs X.S id (text.map Tr.leaf) ∧ X.S.list.length ≤ 2 * text.length ∧ St w [] [pA X] w' := by
 have H := St.nil w []
 have HK : Ks w [] [deA, poolA P] := Ks.two hde hp
 clear hde hp
 have HNW : Hid (∀ w, Calls Tryz.prog 28 #[.int .i64 1048576] w fun e w' => ∃ p m, e = .returned (.pointer (some ⟨p, 0, none⟩)) ∧ St w [] [stoA p (.slice none 0 0) m ⟨1048576, []⟩] w') := Lib.hid fun w => new_c 1048576 (Nat.le_refl _) 1048576 rfl w
 have HSN : Hid (∀ ps pm w, (stoA ps (.slice none 0 0) pm ⟨1048576, []⟩).ho w → Calls Tryz.prog 27 #[.pointer (some ⟨ps, 0, none⟩)] w fun e w' => ∃ X : Px, X.s = ps ∧ X.S = ⟨1048576, []⟩ ∧ PxOk X ∧ e = .returned (.pointer (some ⟨X.p, 0, none⟩)) ∧ St w (stoA ps (.slice none 0 0) pm ⟨1048576, []⟩).fp [pA X] w') := Lib.hid fun ps pm w h => snew_c sto_nil_ok w h
 have HAW : Hid (∀ w, deA.ho w → Calls Tryz.prog 29 #[] w fun e w' => e = .returned (.bool true) ∧ St w [] [] w') := Lib.hid fun w h => awake_c w h
 have HR := Lib.hid hr
 obtain ⟨ad, c, rfl, hmx⟩ := hr.shape
 have HB := Lib.hid (And.intro hb hlen)
 obtain ⟨n, hn⟩ : ∃ n, text.length = n := ⟨_, rfl⟩
 rcases Nat.eq_zero_or_pos text.length with h0 | h0
 ·have ht := List.eq_nil_of_length_eq_zero h0
  subst ht
  simp only [List.length_nil] at hn
  subst hn
  have HR0 : Hid (∀ b, RowIn [] encT 1 (.slice (some ⟨b, 0, none⟩) 0 0) []) := Lib.hid fun b => ⟨_, _, rfl, by simp, fun h => by simp at h⟩
  simp only [List.length_nil] at HR
  clear hr hb hlen hmx
  go_enter Tryz.func8, Tryz.ntmps8
  go_wp2_with (first | refine sL ?_ | (refine sS ?_; clear H; intros; rename_i H) | (go_at_call 28; with_reducible refine Calls.mono (HNW.out _) ?_; rintro e9 wc ⟨ps, pm, rfl, hb⟩; replace H := H.call0 hb; clear hb; simp only [List.cons_append, List.nil_append] at H) | (go_at_call 27; with_reducible refine Calls.mono (HSN.out _ _ _ (H.get (A := stoA ps (.slice none 0 0) pm ⟨1048576, []⟩) pk)) ?_; rintro e9 wc ⟨X, hxs, hxS, hxo, rfl, hb⟩; have HXN := Lib.hid (And.intro hxS hxo); clear hxs hxS hxo; replace H := (H.pick (A := stoA ps (.slice none 0 0) pm ⟨1048576, []⟩) pk).call hb; clear hb; simp only [List.cons_append, List.nil_append] at H) | (go_at_call 29; with_reducible refine Calls.mono (HAW.out _ (H.known HK (A := deA) pk)) ?_; rintro e9 wc ⟨rfl, hb⟩; replace H := H.grew hb.below; clear hb) | ((with_reducible refine isSlice ?_); refine AtSlice.zero encT H rfl rfl rfl rfl encT_len ?_; clear H; intro b9 _ H; simp only [Act.put, puA, puB, puC]) | ((with_reducible refine isAppend ?_); refine AtAppend.none rfl rfl rfl rfl rfl rfl ?_; simp only [Act.put, puA, puB, puC]))
  obtain ⟨P2, hr2, H2⟩ := St.to_pool (H.pick (A := rowsA encT 5 1 (.slice (some ⟨b9, 0, none⟩) 0 0) []) pk) encT_len
  clear H
  have H := H2
  clear H2
  have ho1 := fun w h1 h2 => of_any (X := X) (P := P2) HXN.out.2 hr2 HB.out.1 (by have := HB.out.2; (try simp only [List.length_nil]); omega) (by rw [HXN.out.1]; have := HB.out.2; (try simp only [List.length_nil]); omega) w h1 h2
  have HO1 := Lib.hid ho1
  clear ho1
  go_at_call 16; with_reducible refine Calls.mono (HO1.out _ (H.sepK (A := pA X) HK pk pk) (H.sepO (A := pA X) pk pk)) ?_; rintro e9 wc ⟨X2, id2, rfl, y1, y2, y3, y4, hb⟩; have HY := Lib.hid (And.intro y1 (And.intro y2 (And.intro y3 y4))); clear y1 y2 y3 y4; replace H := (H.pick (A := pA X) pk).call hb; clear hb; simp only [List.cons_append, List.nil_append] at H
  go_wp2_with (first | refine sL ?_ | (refine sS ?_; clear H; intros; rename_i H) | fail)
  refine wp_region_h H 7 [] [] (by kernel_rfl) (by kernel_rfl) ?_
  apply Exists.intro
  refine ⟨fun w1 hw1 HX => ?_, fun bs wr Hr => ?_⟩
  ·refine sG ?_
   repeat (first | go_big_quiet_skip | refine sQ ?_ | fail | go_big_quiet_step (fail))
   exact wpQuiet_nil rfl
  clear H
  have H := Hr
  clear Hr
  replace H := sH H; refine sT ?_
  go_wp2_with (first | refine sL ?_ | (refine sS ?_; clear H; intros; rename_i H) | fail)
  go_ret3
  exact ⟨X2, id2, by rw [HY.out.1.p]; rfl, HY.out.2.1, by rw [HY.out.1.le.1, HXN.out.1], HY.out.2.2.1, by have := HY.out.2.2.2; rw [HXN.out.1] at this; first | (simpa using this) | (rw [← HL.out.1]; simpa using this), H.picks (.cons (A := pA X2) pk .nil)⟩
 ·have HL : Hid (text.length = n ∧ n ≤ 65536 ∧ 0 < n) := Lib.hid ⟨hn, by omega, by omega⟩
  rw [hn] at HR ⊢
  clear hr hb hlen hmx h0 hn
  go_enter Tryz.func8, Tryz.ntmps8
  go_wp2_with (first | refine sL ?_ | (refine sS ?_; clear H; intros; rename_i H) | (go_at_call 28; with_reducible refine Calls.mono (HNW.out _) ?_; rintro e9 wc ⟨ps, pm, rfl, hb⟩; replace H := H.call0 hb; clear hb; simp only [List.cons_append, List.nil_append] at H) | (go_at_call 27; with_reducible refine Calls.mono (HSN.out _ _ _ (H.get (A := stoA ps (.slice none 0 0) pm ⟨1048576, []⟩) pk)) ?_; rintro e9 wc ⟨X, hxs, hxS, hxo, rfl, hb⟩; have HXN := Lib.hid (And.intro hxS hxo); clear hxs hxS hxo; replace H := (H.pick (A := stoA ps (.slice none 0 0) pm ⟨1048576, []⟩) pk).call hb; clear hb; simp only [List.cons_append, List.nil_append] at H) | (go_at_call 29; with_reducible refine Calls.mono (HAW.out _ (H.known HK (A := deA) pk)) ?_; rintro e9 wc ⟨rfl, hb⟩; replace H := H.grew hb.below; clear hb) | ((with_reducible refine isSlice ?_); refine AtSlice.zero encT H rfl rfl rfl rfl encT_len ?_; clear H; intro b9 _ H; simp only [Act.put, puA, puB, puC]) | ((with_reducible refine isAppend ?_); refine AtAppend.pool (enc := encT) (P := P) (ys := text) H rfl rfl rfl rfl rfl (by decide) (by decide) rfl pk rfl HR.out (H.known HK pk) encT_len encT_one' (by have := HL.out; simp; omega) (by have := HL.out; omega) ?_; clear H; intro ad9 cp9 _ H; simp only [Act.put, puA, puB, puC]))
  simp only [List.nil_append, List.length_nil, Nat.zero_add] at H
  obtain ⟨P2, hr2, H2⟩ := St.to_pool (H.pick (A := rowsA encT 5 1 (.slice ad9 text.length cp9) text) pk) encT_len
  clear H
  have H := H2
  clear H2
  have ho1 := fun w h1 h2 => of_any (X := X) (P := P2) HXN.out.2 hr2 HB.out.1 (by have := HB.out.2; (try simp only [List.length_nil]); omega) (by rw [HXN.out.1]; have := HB.out.2; (try simp only [List.length_nil]); omega) w h1 h2
  have HO1 := Lib.hid ho1
  clear ho1
  go_at_call 16; with_reducible refine Calls.mono (HO1.out _ (H.sepK (A := pA X) HK pk pk) (H.sepO (A := pA X) pk pk)) ?_; rintro e9 wc ⟨X2, id2, rfl, y1, y2, y3, y4, hb⟩; have HY := Lib.hid (And.intro y1 (And.intro y2 (And.intro y3 y4))); clear y1 y2 y3 y4; replace H := (H.pick (A := pA X) pk).call hb; clear hb; simp only [List.cons_append, List.nil_append] at H
  go_wp2_with (first | refine sL ?_ | (refine sS ?_; clear H; intros; rename_i H) | fail)
  refine wp_region_h H 7 [] [] (by kernel_rfl) (by kernel_rfl) ?_
  apply Exists.intro
  refine ⟨fun w1 hw1 HX => ?_, fun bs wr Hr => ?_⟩
  ·refine sG ?_
   repeat (first | go_big_quiet_skip | refine sQ ?_ | fail | go_big_quiet_step (fail))
   exact wpQuiet_nil rfl
  clear H
  have H := Hr
  clear Hr
  replace H := sH H; refine sT ?_
  go_wp2_with (first | refine sL ?_ | (refine sS ?_; clear H; intros; rename_i H) | fail)
  go_ret3
  exact ⟨X2, id2, by rw [HY.out.1.p]; rfl, HY.out.2.1, by rw [HY.out.1.le.1, HXN.out.1], HY.out.2.2.1, by have := HY.out.2.2.2; rw [HXN.out.1] at this; first | (simpa using this) | (rw [← HL.out.1]; simpa using this), H.picks (.cons (A := pA X2) pk .nil)⟩
def offV (a : Int) (n : Nat) : Int := if (bits BinOp.and IntKind.i64 a 7 == 0) = true then a else (bits BinOp.and IntKind.i64 (a / 8) 2305843009213693951).tmod ((n + 1 : Nat) : Int)
theorem offset_c (a : Int) (n : Nat) (hn : n ≤ 1000) (w : World) : Calls Tryz.prog 9 #[.int .i64 a, .int .i64 (n : Nat)] w fun e w' => e = .returned (.int .i64 (offV a n)) ∧ w' = w := by
 obtain ⟨n1, hn1⟩ : ∃ n1, n + 1 = n1 := ⟨_, rfl⟩
 have i1 : (n : Int) + 1 = (n1 : Nat) := by omega
 have i2 : ((n1 : Int) == 0) = false := by simp; omega
 have i3 : ¬ (n1 : Int) = 0 := by omega
 have i4 : ¬ n1 = 0 := by omega
 have i5 : n1 ≤ 1001 := by omega
 have HN1 := Lib.hid hn1
 clear hn1
 go_enter Tryz.func9, Tryz.ntmps9
 go_wp2_with (first | refine sL ?_ | (refine sS ?_; clear H; intros; rename_i H) | fail)
 all_goals go_ret
 ·rename_i h
  exact ⟨by rw [offV, if_pos h]; rfl, rfl⟩
 ·rename_i h
  exact ⟨by rw [offV, if_neg (by rw [h]; exact Bool.false_ne_true), HN1.out]; rfl, rfl⟩
end
section
open Go.RowKit Go.Maps
attribute [local go_sem] InGr
theorem run_assert_int {P : Program} {t xT : TypeId} {k : IntKind} {v : Value} {w : World} (h : P.underlying t = some (.int k)) : (Instr.typeAssert (.iface t v) xT t true).run P w = .ok (.tuple #[v, .bool true]) w := by
 simp [Instr.typeAssert, run_underlying h, go_sem, Result.andThen]
theorem errno_under : Tryz.prog.underlying 34 = some (.int .i64) := by kernel_rfl
section
variable {ops : Array Oper} {Q : Exit → Act → World → Prop} {rest : List Oper} {a : Act} {w : World} {o1 : Oper} {dst : Option Tmp} {ty0 : TypeId} {pos : String} {aft : Array Edge} {gd : Option (Nat × Bool)}
def AtAssert (P : Program) (ops : Array Oper) (Q : Exit → Act → World → Prop) (o : Oper) (_ : Operand) (_ _ : TypeId) (_ : Bool) (rest : List Oper) (a : Act) (w : World) : Prop := wpList P ops Q (o :: rest) a w
theorem isAssert {P : Program} {t u : TypeId} {x : Operand} {ok : Bool} (h : AtAssert P ops Q ⟨dst, .typeAssert x t u ok, ty0, pos, aft, gd⟩ x t u ok rest a w) : wpList P ops Q (⟨dst, .typeAssert x t u ok, ty0, pos, aft, gd⟩ :: rest) a w := h
theorem AtAssert.errno {x : Operand} {xT : TypeId} {v : Value} (hw : Region.wanted o1 (yielded ops a.tmps) = true) (ho : o1.op = .typeAssert x xT 34 true) (hx : a.eval x = .iface 34 v)
  (h : wpList Tryz.prog ops Q rest (a.put o1.dst (.tuple #[v, .bool true])) w) : AtAssert Tryz.prog ops Q o1 x xT 34 true rest a w :=
 wpList_step fun _ hK => by
  rw [if_pos hw]
  unfold Oper.wp execOp
  simp only [ho, hx, Sem.run_bind, run_assert_int errno_under, Result.andThen_ok]
  exact hK _ _ h
end
theorem num_ev (n : Nat) (w : World) : Calls Tryz.prog 34 #[.iface 34 (.int .i64 n)] w fun e w' => e = .returned (.int .i64 n) ∧ w' = w := by
 have H := St.nil w []
 have HK := Ks.nil w []
 go_enter Tryz.func34, Tryz.ntmps34
 go_wp2_with (first | refine sL ?_ | ((with_reducible refine isAssert ?_); refine AtAssert.errno rfl rfl rfl ?_; simp only [Act.put, puA, puB, puC]))
 go_ret
 exact ⟨rfl, rfl⟩
theorem is_ev (n k : Nat) (hk : 0 < k) (b : Bool) (hb : ((n : Int) == (k : Int)) = b) (w : World) : Calls Tryz.prog 12 #[.iface 34 (.int .i64 n), .int .i64 k] w fun e w' => e = .returned (.bool b) ∧ w' = w := by
 have H := St.nil w []
 have HK := Ks.nil w []
 have HN := Lib.hid (fun w => num_ev n w)
 have h0 : ((k : Int) == 0) = false := by simp; omega
 have h1 : ((k : Int) != 0) = true := by simp; omega
 cases b with
 |false =>
  go_enter Tryz.func12, Tryz.ntmps12
  go_wp2_with (first | refine sL ?_ | (go_at_call 34; with_reducible refine same (HN.out _) ?_))
  go_ret
  exact ⟨rfl, rfl⟩
 |true =>
  go_enter Tryz.func12, Tryz.ntmps12
  go_wp2_with (first | refine sL ?_ | (go_at_call 34; with_reducible refine same (HN.out _) ?_))
  go_ret
  exact ⟨rfl, rfl⟩
section
variable {ops : Array Oper} {Q : Exit → Act → World → Prop} {rest : List Oper} {a : Act} {w w0 : World} {M : List Nat} {L R : List As} {o1 : Oper} {dst : Option Tmp} {ty0 : TypeId} {pos : String} {aft : Array Edge} {gd : Option (Nat × Bool)} {Rr : Value → World → Prop}
def cutA (ad : Option Addr) (c l : Nat) : Option Addr := if c = l then ad else ad.map (·.add l)
theorem run_sl {t e : TypeId} (hte : sliceO t = some e) {z : Value} {bytes : Nat} (hi : infoO e = some (z, 1, bytes)) {ad : Option Addr} {n c : Nat} (lo hi' : Option Nat) {l h : Nat} (hl : lo.getD 0 = l) (hh : hi'.getD n = h) (h1 : l ≤ h) (h2 : h ≤ c) (w : World) :
  (Instr.sliceAt t (.slice ad n c) (lo.map fun x => .int .i64 (x : Nat)) (hi'.map fun x => .int .i64 (x : Nat)) none).run Tryz.prog w = .ok (.slice (cutA ad c l) (h - l) (c - l)) w := by
 obtain ⟨i, e2, e3, e4, e5⟩ := infoO_ok hi
 have hu := sliceO_ok hte
 have hb : (Instr.sliceBound (Value.int .i64 (h : Nat)) c .sliceAcap).run Tryz.prog w = .ok h w := by
  unfold Instr.sliceBound
  simp [asIntOf, h2]
 have hb2 : (Instr.sliceBound (Value.int .i64 (l : Nat)) h .sliceB).run Tryz.prog w = .ok l w := by
  unfold Instr.sliceBound
  simp [asIntOf, h1]
 unfold cutA
 cases lo with
 |none =>
  simp at hl
  subst hl
  cases hi' with
  |none =>
   simp at hh
   subst hh
   simp [Instr.sliceAt, Instr.slice, Instr.sliceBounds, run_underlying hu, sizeOf, typeInfo, e2, e4, Sem.run_bind, Result.andThen]
  |some x =>
   simp at hh
   subst hh
   simp [Instr.sliceAt, Instr.slice, Instr.sliceBounds, run_underlying hu, sizeOf, typeInfo, e2, e4, Sem.run_bind, Result.andThen, hb]
 |some y =>
  simp at hl
  subst hl
  cases hi' with
  |none =>
   simp at hh
   subst hh
   simp [Instr.sliceAt, Instr.slice, Instr.sliceBounds, run_underlying hu, sizeOf, typeInfo, e2, e4, Sem.run_bind, Result.andThen, hb2]
  |some x =>
   simp at hh
   subst hh
   simp [Instr.sliceAt, Instr.slice, Instr.sliceBounds, run_underlying hu, sizeOf, typeInfo, e2, e4, Sem.run_bind, Result.andThen, hb, hb2]
def AtSeg (P : Program) (ops : Array Oper) (Q : Exit → Act → World → Prop) (o : Oper) (_ : TypeId) (_ : Operand) (_ _ : Option Operand) (rest : List Oper) (a : Act) (w : World) : Prop := wpList P ops Q (o :: rest) a w
theorem isSeg {P : Program} {t : TypeId} {x : Operand} {y1 y2 : Option Operand} (h : AtSeg P ops Q ⟨dst, .slice t x y1 y2 none, ty0, pos, aft, gd⟩ t x y1 y2 rest a w) : wpList P ops Q (⟨dst, .slice t x y1 y2 none, ty0, pos, aft, gd⟩ :: rest) a w := h
theorem AtSeg.row {t e : TypeId} {x : Operand} {y1 y2 : Option Operand} (lo hi' : Option Nat) (hw : Region.wanted o1 (yielded ops a.tmps) = true) (ho : o1.op = .slice t x y1 y2 none) (hte : sliceO t = some e) {z : Value} {bytes : Nat} (hi : infoO e = some (z, 1, bytes)) {ad : Option Addr} {n c : Nat} (hx : a.eval x = .slice ad n c) (hy1 : y1.map a.eval = lo.map fun x => .int .i64 (x : Nat)) (hy2 : y2.map a.eval = hi'.map fun x => .int .i64 (x : Nat))
  {l h m cr : Nat} (hl : lo.getD 0 = l) (hh : hi'.getD n = h) (h1 : l ≤ h) (h2 : h ≤ c) (hm : h - l = m) (hcr : c - l = cr) {ad' : Option Addr} (had : cutA ad c l = ad')
  (h9 : wpList Tryz.prog ops Q rest (a.put o1.dst (.slice ad' m cr)) w) : AtSeg Tryz.prog ops Q o1 t x y1 y2 rest a w :=
 wpList_step fun _ hK => by
  rw [if_pos hw]
  unfold Oper.wp execOp
  simp only [ho, hx, hy1, hy2, Option.map_none, Sem.run_bind, run_sl hte hi lo hi' hl hh h1 h2, Result.andThen_ok, Sem.run_pure, had, hm, hcr]
  exact hK _ _ h9
theorem StStep.seg3 {t e : TypeId} {x : Operand} {y1 y2 : Option Operand} (lo hi' : Option Nat) (hw : Region.wanted o1 (yielded ops a.tmps) = true) (ho : o1.op = .slice t x y1 y2 none) (hte : sliceO t = some e) {z : Value} {bytes : Nat} (hi : infoO e = some (z, 1, bytes)) {ad : Option Addr} {n c : Nat} (hx : a.eval x = .slice ad n c) (hy1 : y1.map a.eval = lo.map fun x => .int .i64 (x : Nat)) (hy2 : y2.map a.eval = hi'.map fun x => .int .i64 (x : Nat))
  {l h m cr : Nat} (hl : lo.getD 0 = l) (hh : hi'.getD n = h) (h1 : l ≤ h) (h2 : h ≤ c) (hm : h - l = m) (hcr : c - l = cr) {ad' : Option Addr} (had : cutA ad c l = ad')
  (h9 : Rr (.slice ad' m cr) w) : StStep Tryz.prog ops o1 a w Rr :=
 StStep.val hw (by unfold execOp; simp only [ho, hx, hy1, hy2, Option.map_none, Sem.run_bind, run_sl hte hi lo hi' hl hh h1 h2, Result.andThen_ok, Sem.run_pure, had, hm, hcr]) h9
end
theorem flatT_get (xs : List Nat) (i : Nat) : (flatG encT xs)[i]? = xs[i]?.map fun x => (.int .u8 (x : Nat) : Value) := by
 have : flatG encT xs = xs.map fun x => (.int .u8 (x : Nat) : Value) := by
  unfold flatG
  induction xs with
  |nil => rfl
  |cons x xs ih => rw [List.flatMap_cons, ih]; rfl
 rw [this, List.getElem?_map]
def TxtIn (P : PoolT) (v : Value) (xs : List Nat) : Prop := ∃ ad c, v = .slice ad xs.length c ∧ xs.length ≤ c ∧ RowIn P encT 1 v xs
theorem TxtIn.row {P : PoolT} {v : Value} {xs : List Nat} (h : TxtIn P v xs) : RowIn P encT 1 v xs := by obtain ⟨_, _, _, _, h⟩ := h; exact h
theorem TxtIn.cut {P : PoolT} {ad : Option Addr} {n c : Nat} {xs : List Nat} (h : TxtIn P (.slice ad n c) xs) (l m : Nat) (h2 : l + m ≤ xs.length) :
  n = xs.length ∧ n ≤ c ∧ ∃ (ad' : Option Addr) (P' : PoolT), cutA ad c l = ad' ∧ (∀ x ∈ P, x ∈ P') ∧ (∀ w, (poolA P).ho w → (poolA P').ho w) ∧ TxtIn P' (.slice ad' m (c - l)) ((xs.drop l).take m) := by
 obtain ⟨ad0, c0, e1, hc, ad1, c1, e2, hmx, hr⟩ := h
 injection e1 with q1 q2 q3
 subst q1 q2 q3
 injection e2 with q1 q2 q3
 subst q1 q3
 have hlen : ((xs.drop l).take m).length = m := by simp; omega
 refine ⟨rfl, hc, ?_⟩
 rcases Nat.eq_zero_or_pos m with rfl | hm
 ·exact ⟨_, P, rfl, fun x h => h, fun w h => h, ⟨_, _, by rw [hlen], by omega, _, _, by rw [hlen], by omega, fun h => by omega⟩⟩
 ·obtain ⟨g, o, rfl, hp⟩ := hr (by omega)
  have hcl : ¬ c = l := by omega
  have had : cutA (some ⟨g, o, none⟩) c l = some ⟨g, o + l, none⟩ := by
   unfold cutA Addr.add
   rw [if_neg hcl]
   by_cases h0 : l = 0
   ·subst h0; simp
   ·simp [h0]
  refine ⟨_, (g, o + l, flatG encT ((xs.drop l).take m)) :: P, had, fun x h => List.mem_cons_of_mem _ h, fun w h => ?_, ⟨_, _, by rw [hlen], by omega, _, _, by rw [hlen], by omega, fun _ => ⟨g, o + l, rfl, List.mem_cons_self⟩⟩⟩
  rw [poolA_ho] at h ⊢
  intro x hx
  rcases List.mem_cons.1 hx with rfl | hx
  ·refine ⟨(h _ hp).1, fun j u hj => ?_⟩
   have := (h _ hp).2 (l + j) u (by
    rw [flatT_get] at hj ⊢
    rw [List.getElem?_take] at hj
    split at hj
    ·rwa [List.getElem?_drop] at hj
    ·simp at hj)
   simpa [Nat.add_assoc] using this
  ·exact h x hx
theorem TxtIn.mono {P Q : PoolT} {v : Value} {xs : List Nat} (h : TxtIn P v xs) (hs : ∀ x ∈ P, x ∈ Q) : TxtIn Q v xs := by
 obtain ⟨ad, c, h1, h2, h3⟩ := h
 exact ⟨ad, c, h1, h2, h3.mono hs⟩
theorem valid01_c (n : Nat) (hn : n ≤ 1000) (w : World) : Calls Tryz.prog 33 #[.int .i64 (n : Nat)] w fun e w' => e = .returned (.bool true) ∧ w' = w := by
 have d1 : decide ((n : Int) ≤ 1152921504606846976) = true := by simp; omega
 go_enter Tryz.func33, Tryz.ntmps33
 go_wp2_with (first | refine sL ?_ | (refine sS ?_; clear H; intros; rename_i H) | fail)
 go_ret
 exact ⟨rfl, rfl⟩
theorem range01_c (fr k : Int) (n : Nat) (hn : n ≤ 1000) (w : World) : Calls Tryz.prog 11 #[.int .i64 fr, .int .i64 k, .int .i64 (n : Nat)] w fun e w' => e = .returned (.bool (decide (0 ≤ fr ∧ 0 ≤ k ∧ fr + k ≤ (n : Int)))) ∧ w' = w := by
 have HV := Lib.hid (fun w => valid01_c n hn w)
 by_cases h1 : 0 ≤ fr
 ·by_cases h2 : 0 ≤ k
  ·by_cases h3 : fr ≤ (n : Int)
   ·have e1 : (n : Int) - fr = ((n - fr.toNat : Nat) : Int) := by omega
    obtain ⟨d, hd⟩ : ∃ d, n - fr.toNat = d := ⟨_, rfl⟩
    rw [hd] at e1
    by_cases h4 : k ≤ (d : Int)
    ·have d4 : decide (k ≤ (d : Int)) = true := by simp [h4]
     have e : decide (0 ≤ fr ∧ 0 ≤ k ∧ fr + k ≤ (n : Int)) = true := by simp; omega
     rw [e]
     clear e hd
     go_enter Tryz.func11, Tryz.ntmps11
     go_wp2_with (first | refine sL ?_ | (refine sS ?_; clear H; intros; rename_i H) | (go_at_call 33; with_reducible refine same (HV.out _) ?_))
     go_ret
     exact ⟨rfl, rfl⟩
    ·have d4 : decide (k ≤ (d : Int)) = false := by simp; omega
     have e : decide (0 ≤ fr ∧ 0 ≤ k ∧ fr + k ≤ (n : Int)) = false := by simp; omega
     rw [e]
     clear e hd
     go_enter Tryz.func11, Tryz.ntmps11
     go_wp2_with (first | refine sL ?_ | (refine sS ?_; clear H; intros; rename_i H) | (go_at_call 33; with_reducible refine same (HV.out _) ?_))
     go_ret
     exact ⟨rfl, rfl⟩
   ·have e : decide (0 ≤ fr ∧ 0 ≤ k ∧ fr + k ≤ (n : Int)) = false := by simp; omega
    rw [e]
    clear e
    go_enter Tryz.func11, Tryz.ntmps11
    go_wp2_with (first | refine sL ?_ | (refine sS ?_; clear H; intros; rename_i H) | (go_at_call 33; with_reducible refine same (HV.out _) ?_))
    go_ret
    exact ⟨rfl, rfl⟩
  ·have e : decide (0 ≤ fr ∧ 0 ≤ k ∧ fr + k ≤ (n : Int)) = false := by simp; omega
   rw [e]
   clear e
   go_enter Tryz.func11, Tryz.ntmps11
   go_wp2_with (first | refine sL ?_ | (refine sS ?_; clear H; intros; rename_i H) | (go_at_call 33; with_reducible refine same (HV.out _) ?_))
   go_ret
   exact ⟨rfl, rfl⟩
 ·have e : decide (0 ≤ fr ∧ 0 ≤ k ∧ fr + k ≤ (n : Int)) = false := by simp; omega
  rw [e]
  clear e
  go_enter Tryz.func11, Tryz.ntmps11
  go_wp2_with (first | refine sL ?_ | (refine sS ?_; clear H; intros; rename_i H) | (go_at_call 33; with_reducible refine same (HV.out _) ?_))
  go_ret
  exact ⟨rfl, rfl⟩
end
section
open Go.RowKit Go.Maps
attribute [local go_sem] InGr
section
variable {ops : Array Oper} {a : Act} {w w0 : World} {M : List Nat} {L R : List As} {o1 : Oper} {Rr : Value → World → Prop}
theorem run_append_nil {t e ty : TypeId} (hte : sliceO t = some e) {z : Value} {k bytes : Nat} (hi : infoO e = some (z, k, bytes)) {n c c' : Nat} {ad ad' : Option Addr} (hn : n ≤ c) {w : World} : (Builtin.append_ #[t, t] ty #[.slice ad n c, .slice ad' 0 c']).run Tryz.prog w = .ok (.slice ad n c) w := by
 obtain ⟨i, h2, h3, h4, h5⟩ := infoO_ok hi
 have hu := sliceO_ok hte
 cases ad with
 |none => cases ad' with
  |none => simp [Builtin.append_, run_underlying hu, sizeOf, typeInfo, h2, Builtin.lenOf, Builtin.firstCells, loadCells, loadCellsFrom, storeCells, hn]
  |some x => simp [Builtin.append_, run_underlying hu, sizeOf, typeInfo, h2, Builtin.lenOf, Builtin.firstCells, loadCells, loadCellsFrom, storeCells, hn]
 |some y => cases ad' with
  |none => simp [Builtin.append_, run_underlying hu, sizeOf, typeInfo, h2, Builtin.lenOf, Builtin.firstCells, loadCells, loadCellsFrom, storeCells, hn]
  |some x => simp [Builtin.append_, run_underlying hu, sizeOf, typeInfo, h2, Builtin.lenOf, Builtin.firstCells, loadCells, loadCellsFrom, storeCells, hn]
theorem StStep.appendP {α : Type} {enc : α → List Value} {t e : TypeId} {x y : Operand} (hw : Region.wanted o1 (yielded ops a.tmps) = true) (ho : o1.op = .call ⟨.builtin .append, #[x, y], #[t, t]⟩) (hte : sliceO t = some e) {z : Value} {k bytes : Nat} (hi : infoO e = some (z, k, bytes)) (hz : z.cells.size = k) (hk0 : 0 < k) (hb0 : 0 < bytes)
  {v u : Value} {xs ys : List α} (hx : evalO a x = some v) (hy : evalO a y = some u) (H : St w0 M (rowsA enc e k v xs :: L) w) {P : PoolT} (hu : RowIn P enc k u ys) (hpo : (poolA P).ho w) (hk : ∀ x, (enc x).length = k) (h1 : ∀ x, ∀ u ∈ enc x, u.oneCell' = true) (hb : (xs.length + ys.length) * bytes ≤ 140737488355328) {n3 : Nat} (hn : xs.length + ys.length = n3)
  (h : ∀ ad cp w', St w0 M (rowsA enc e k (.slice ad n3 cp) (xs ++ ys) :: L) w' → Rr (.slice ad n3 cp) w') : StStep Tryz.prog ops o1 a w Rr := by
 rcases Nat.eq_zero_or_pos ys.length with h0 | h0
 ·obtain rfl := List.eq_nil_of_length_eq_zero h0
  obtain ⟨ad', c', rfl, _⟩ := hu
  obtain ⟨ad, c, rfl, hc⟩ : ∃ ad c, v = .slice ad xs.length c ∧ xs.length ≤ c := by
   rcases Nat.eq_zero_or_pos xs.length with h1 | h1
   ·obtain ⟨ad, c, e, _⟩ := rowsA_shape (H.ho _ List.mem_cons_self)
    exact ⟨ad, c, e, by omega⟩
   ·obtain ⟨g, c, e, q, _⟩ := rowsA_cases (H.ho _ List.mem_cons_self) h1
    exact ⟨_, c, e, q⟩
  simp only [List.length_nil, Nat.add_zero] at hn
  rw [hn] at H hx hc
  have h := h ad c w (by rw [List.append_nil]; exact H)
  exact StStep.val hw (by unfold execOp; simp only [ho, resolve, invoke, builtin, Sem.run_bind, Sem.run_pure, Result.andThen_ok, List.map_toArray, List.map_cons, List.map_nil, evalO_eq hx, evalO_eq hy, List.length_nil, run_append_nil hte hi hc]) h
 ·obtain ⟨v', w', hr, hst⟩ := run_append_in (ty := o1.type) hte hi hz hk0 hb0 (H.ho _ List.mem_cons_self) hu hpo hk h1 hb h0
  obtain ⟨ad, cp, rfl, _⟩ := rowsA_shape (hst.ho _ List.mem_cons_self)
  have hst2 := H.call hst
  simp only [List.length_append, hn] at hst2 hr
  exact StStep.val hw (by unfold execOp; simp only [ho, resolve, invoke, builtin, Sem.run_bind, Sem.run_pure, Result.andThen_ok, List.map_toArray, List.map_cons, List.map_nil, evalO_eq hx, evalO_eq hy, hr]) (h ad cp w' hst2)
end
section
variable {ops : Array Oper} {Q : Exit → Act → World → Prop} {rest : List Oper} {a : Act} {w w0 : World} {M : List Nat} {L R : List As} {o1 : Oper}
theorem AtAppend.poolE {α : Type} {enc : α → List Value} {t e : TypeId} {x y : Operand} (H : St w0 M L w) (hw : Region.wanted o1 (yielded ops a.tmps) = true) (ho : o1.op = .call ⟨.builtin .append, #[x, y], #[t, t]⟩) (hte : sliceO t = some e) {z : Value} {k bytes : Nat} (hi : infoO e = some (z, k, bytes))
  (hz : z.cells.size = k) (hk0 : 0 < k) (hb0 : 0 < bytes) {v : Value} (hx : evalO a x = some v) {xs : List α} (hp : Pick L (rowsA enc e k v xs) R) {P : PoolT} {u : Value} (hy : evalO a y = some u) {ys : List α} (hu : RowIn P enc k u ys) (hpo : (poolA P).ho w) (hk : ∀ x, (enc x).length = k) (h1 : ∀ x, ∀ u ∈ enc x, u.oneCell' = true) (hb : (xs.length + ys.length) * bytes ≤ 140737488355328) {n3 : Nat} (hn : xs.length + ys.length = n3)
  (h : ∀ ad cp w', St w0 M (rowsA enc e k (.slice ad n3 cp) (xs ++ ys) :: R) w' → wpList Tryz.prog ops Q rest (a.put o1.dst (.slice ad n3 cp)) w') : AtAppend Tryz.prog ops Q o1 t x y rest a w := by
 rcases Nat.eq_zero_or_pos ys.length with h0 | h0
 ·obtain rfl := List.eq_nil_of_length_eq_zero h0
  have H' := H.pick hp
  obtain ⟨ad', c', rfl, _⟩ := hu
  obtain ⟨ad, c, rfl, hc⟩ : ∃ ad c, v = .slice ad xs.length c ∧ xs.length ≤ c := by
   rcases Nat.eq_zero_or_pos xs.length with h1 | h1
   ·obtain ⟨ad, c, e, _⟩ := rowsA_shape (H'.ho _ List.mem_cons_self)
    exact ⟨ad, c, e, by omega⟩
   ·obtain ⟨g, c, e, q, _⟩ := rowsA_cases (H'.ho _ List.mem_cons_self) h1
    exact ⟨_, c, e, q⟩
  simp only [List.length_nil, Nat.add_zero] at hn
  rw [hn] at H' hx hc
  have h := h ad c w (by rw [List.append_nil]; exact H')
  exact wpList_step fun _ hK => by
   rw [if_pos hw]
   unfold Oper.wp execOp
   simp only [ho, resolve, invoke, builtin, Sem.run_bind, Sem.run_pure, Result.andThen_ok, List.map_toArray, List.map_cons, List.map_nil, evalO_eq hx, evalO_eq hy, List.length_nil, run_append_nil hte hi hc]
   exact hK _ _ h
 ·subst hn
  exact AtAppend.pool H hw ho hte hi hz hk0 hb0 hx hp hy hu hpo hk h1 hb h0 h
end
attribute [local go_sem] StStep stAt stUpon in
theorem without24_c {P : PoolT} {v : Value} {text : List Nat} (fr k : Nat) (ht : TxtIn P v text) (hf : fr + k ≤ text.length) (hlen : text.length ≤ 1000) (w : World) (hp : (poolA P).ho w) :
  Calls Tryz.prog 15 #[v, .int .i64 (fr : Nat), .int .i64 (k : Nat)] w fun e w' => ∃ (v' : Value) (P' : PoolT), e = .returned v' ∧ RowIn P' encT 1 v' (text.take fr ++ text.drop (fr + k)) ∧ St w [] [poolA P'] w' := by
 obtain ⟨ad, c, rfl, _, _⟩ := id ht
 obtain ⟨-, hc, a1, P1, hA1, _, hp1, ht1⟩ := ht.cut 0 fr (by omega)
 obtain ⟨-, _, a2, P2, hA2, _, hp2, ht2⟩ := ht.cut (fr + k) (text.length - (fr + k)) (by omega)
 have HK : Ks w [] [poolA P1, poolA P2] := Ks.two (hp1 w hp) (hp2 w hp)
 have H := St.nil w []
 obtain ⟨n, hn⟩ : ∃ n, text.length = n := ⟨_, rfl⟩
 obtain ⟨q, hq⟩ : ∃ q, fr + k = q := ⟨_, rfl⟩
 have hd2 : (text.drop q).take (n - q) = text.drop q := List.take_of_length_le (by simp; omega)
 obtain ⟨m2, hm2⟩ : ∃ m, n - q = m := ⟨_, rfl⟩
 obtain ⟨c2, hc2⟩ : ∃ m, c - q = m := ⟨_, rfl⟩
 rw [hn] at hc hlen hf ht2 ⊢
 rw [hq] at ht2 hA2 ⊢
 rw [hd2, hm2, hc2] at ht2
 simp only [List.drop_zero, Nat.sub_zero] at ht1
 have HR1 := Lib.hid ht1.row
 have HR2 := Lib.hid ht2.row
 have HA1 := Lib.hid hA1
 have HA2 := Lib.hid hA2
 have i1 : (fr : Int) + (k : Int) = (q : Nat) := by omega
 have l1 : (text.take fr).length = fr := by simp; omega
 have l2 : (text.drop q).length = m2 := by simp; omega
 obtain ⟨m3, hm3⟩ : ∃ m, fr + m2 = m := ⟨_, rfl⟩
 have HN1 : Hid (([] : List Nat).length + (text.take fr).length = fr) := Lib.hid (by rw [l1]; simp)
 have HN3 : Hid ((text.take fr).length + (text.drop q).length = m3) := Lib.hid (by rw [l1, l2]; exact hm3)
 have HB : Hid (fr ≤ q ∧ q ≤ n ∧ n ≤ c ∧ n ≤ 1000 ∧ n - q = m2 ∧ c - q = c2 ∧ m3 ≤ 1000 ∧ (text.take fr).length = fr ∧ (text.drop q).length = m2 ∧ ([] : List Nat).length = 0) := Lib.hid ⟨by omega, by omega, hc, hlen, hm2, hc2, by omega, l1, l2, rfl⟩
 have hqb : q ≤ 1000 ∧ fr ≤ 1000 ∧ k ≤ 1000 := by omega
 clear ht ht1 ht2 hp hp1 hp2 hf hlen hn hq hc hm2 hc2 hm3 hA1 hA2 hd2 l1 l2
 go_enter Tryz.func15, Tryz.ntmps15
 go_wp2_with (first | refine sL ?_ | (refine sS ?_; clear H; intros; rename_i H))
 refine wp_region_sgx 12 [⟨[], fun _ _ => True⟩, ⟨[], fun v _ => v = .slice ad n c⟩, ⟨[], fun v _ => v = .int .i64 fr⟩, ⟨[1, 2], fun v _ => v = .slice a1 fr c⟩, ⟨[3], fun _ _ => True⟩, ⟨[], fun v _ => v = .slice ad n c⟩, ⟨[], fun v _ => v = .int .i64 fr⟩, ⟨[], fun v _ => v = .int .i64 k⟩, ⟨[6, 7], fun v _ => v = .int .i64 q⟩, ⟨[5, 8], fun v _ => v = .slice a2 m2 c2⟩, ⟨[9], fun _ _ => True⟩, ⟨[10], fun v ds => ds = [v]⟩] [0, 4, 10] [[0], [0, 1], [0, 1], [0, 1], [1], [0, 1, 2], [0, 1, 2], [0, 1, 2], [0, 1, 2], [0, 1, 2], [2], [3]] [fun _ wx => St w [] [] wx, fun vals wx => ∃ b9, vals 0 = .slice (some ⟨b9, 0, none⟩) 0 0 ∧ St w [] [rowsA encT 5 1 (.slice (some ⟨b9, 0, none⟩) 0 0) ([])] wx, fun vals wx => ∃ ad9 cp9, vals 4 = .slice ad9 fr cp9 ∧ St w [] [rowsA encT 5 1 (.slice ad9 fr cp9) (text.take fr)] wx, fun vals wx => ∃ ad9 cp9, vals 10 = .slice ad9 m3 cp9 ∧ St w [] [rowsA encT 5 1 (.slice ad9 m3 cp9) (text.take fr ++ text.drop q)] wx]
  [[], [], [], [(1, 8), (2, 9)], [(0, 7), (3, 10)], [], [], [], [(6, 13), (7, 14)], [(5, 12), (8, 15)], [(4, 11), (9, 16)], [(10, 17)]] [(0, 7), (1, 8), (2, 9), (3, 10), (4, 11), (5, 12), (6, 13), (7, 14), (8, 15), (9, 16), (10, 17), (11, 6)] (by kernel_rfl) (by kernel_rfl) H.drew ⟨⟨?_, trivial⟩, ⟨qo, qo, trivial⟩, ⟨qo, qo, trivial⟩, ⟨?_, ?_, trivial⟩, ⟨?_, trivial⟩, ⟨qo, qo, qo, trivial⟩, ⟨qo, qo, qo, trivial⟩, ⟨qo, qo, qo, trivial⟩, ⟨qo, qo, qo, trivial⟩, ⟨?_, ?_, ?_, trivial⟩, ⟨?_, trivial⟩, ⟨?_, trivial⟩, trivial⟩ ?_
 ·intro vals wx hd HC
  clear hd
  have H := HC
  simp only [CA] at H
  simp only [PS]
  refine StStep.slice0 (enc := encT) H rfl rfl rfl rfl encT_len ?_
  intro b9 wz H
  exact ⟨trivial, b9, rfl, H⟩
 ·intro vals wx hd HC
  simp only [GF] at hd
  have H := HC
  simp only [CA] at H
  simp only [PS, hd]
  refine StStep.seg3 none (some fr) rfl rfl rfl rfl rfl rfl rfl (l := 0) (h := fr) rfl rfl (by have := HB.out; omega) (by have := HB.out; omega) (m := fr) (by have := HB.out; omega) (cr := c) (by have := HB.out; omega) HA1.out ⟨rfl, HC⟩
 ·intro vals wx hd HC
  simp only [GF] at hd
  have H := HC
  simp only [CA] at H
  obtain ⟨b9, hv, H⟩ := H
  simp only [PS, hd, hv]
  refine StStep.seg3 none (some fr) rfl rfl rfl rfl rfl rfl rfl (l := 0) (h := fr) rfl rfl (by have := HB.out; omega) (by have := HB.out; omega) (m := fr) (by have := HB.out; omega) (cr := c) (by have := HB.out; omega) HA1.out ⟨rfl, HC⟩
 ·intro vals wx hd HC
  simp only [GF] at hd
  have H := HC
  simp only [CA] at H
  obtain ⟨b9, hv, H⟩ := H
  simp only [PS, hd, hv]
  refine StStep.appendP (enc := encT) (xs := []) (ys := text.take fr) rfl rfl rfl rfl rfl (by decide) (by decide) rfl rfl H HR1.out (H.known HK pk) encT_len encT_one' (by have := HB.out; omega) HN1.out ?_
  intro ad9 cp9 wz H
  exact ⟨trivial, ad9, cp9, rfl, H⟩
 ·intro vals wx hd HC
  simp only [GF] at hd
  have H := HC
  simp only [CA] at H
  simp only [PS, hd]
  refine StStep.seg3 (some q) none rfl rfl rfl rfl rfl rfl rfl (l := q) (h := n) rfl rfl (by have := HB.out; omega) (by have := HB.out; omega) (m := m2) (by have := HB.out; omega) (cr := c2) (by have := HB.out; omega) HA2.out ⟨rfl, HC⟩
 ·intro vals wx hd HC
  simp only [GF] at hd
  have H := HC
  simp only [CA] at H
  obtain ⟨b9, hv, H⟩ := H
  simp only [PS, hd, hv]
  refine StStep.seg3 (some q) none rfl rfl rfl rfl rfl rfl rfl (l := q) (h := n) rfl rfl (by have := HB.out; omega) (by have := HB.out; omega) (m := m2) (by have := HB.out; omega) (cr := c2) (by have := HB.out; omega) HA2.out ⟨rfl, HC⟩
 ·intro vals wx hd HC
  simp only [GF] at hd
  have H := HC
  simp only [CA] at H
  obtain ⟨ad8, cp8, hv, H⟩ := H
  simp only [PS, hd, hv]
  refine StStep.seg3 (some q) none rfl rfl rfl rfl rfl rfl rfl (l := q) (h := n) rfl rfl (by have := HB.out; omega) (by have := HB.out; omega) (m := m2) (by have := HB.out; omega) (cr := c2) (by have := HB.out; omega) HA2.out ⟨rfl, HC⟩
 ·intro vals wx hd HC
  simp only [GF] at hd
  have H := HC
  simp only [CA] at H
  obtain ⟨ad8, cp8, hv, H⟩ := H
  simp only [PS, hd, hv]
  refine StStep.appendP (enc := encT) (xs := text.take fr) (ys := text.drop q) rfl rfl rfl rfl rfl (by decide) (by decide) rfl rfl H HR2.out (H.known HK pk) encT_len encT_one' (by have := HB.out; omega) HN3.out ?_
  intro ad9 cp9 wz H
  exact ⟨trivial, ad9, cp9, rfl, H⟩
 ·intro vals wx hd HC
  clear hd
  have H := HC
  simp only [CA] at H
  obtain ⟨ad8, cp8, hv, H⟩ := H
  simp only [PS, hv]
  go_simp
  exact HC
 intro vals wx hd HC
 have h11 := hd.2.2.2.2.2.2.2.2.2.2.2.1
 simp only [CA] at HC
 obtain ⟨ad8, cp8, hv, H⟩ := HC
 simp only [GF] at hd
 simp only [PS, hd, hv]
 clear hd
 go_wp2_with (first | refine sL ?_ | (refine sS ?_; clear H; intros; rename_i H))
 go_ret
 have e : vals 11 = .slice ad8 m3 cp8 := by
  have h : [vals 10] = [vals 11] := h11
  injection h with h
  rw [← h, hv]
 obtain ⟨P', hr', H2⟩ := St.to_pool H encT_len
 exact ⟨vals 11, rfl, P', by rw [e]; exact hr', H2⟩
attribute [local go_sem] StStep stAt stUpon in
theorem insert24_c {P : PoolT} {v u : Value} {text oth : List Nat} (fr : Nat) (ht : TxtIn P v text) (hu : TxtIn P u oth) (hf : fr ≤ text.length) (hlen : text.length ≤ 500) (hlo : oth.length ≤ 500) (w : World) (hp : (poolA P).ho w) :
  Calls Tryz.prog 18 #[v, .int .i64 (fr : Nat), u] w fun e w' => ∃ (v' : Value) (P' : PoolT), e = .returned v' ∧ RowIn P' encT 1 v' (text.take fr ++ oth ++ text.drop fr) ∧ St w [] [poolA P'] w' := by
 obtain ⟨ad, c, rfl, _, _⟩ := id ht
 obtain ⟨ao, co, rfl, _, _⟩ := id hu
 obtain ⟨-, hc, a1, P1, hA1, _, hp1, ht1⟩ := ht.cut 0 fr (by omega)
 obtain ⟨-, _, a2, P2, hA2, _, hp2, ht2⟩ := ht.cut fr (text.length - fr) (by omega)
 have HK : Ks w [] [poolA P, poolA P1, poolA P2] := Ks.cons hp (by simp) (Ks.two (hp1 w hp) (hp2 w hp))
 have H := St.nil w []
 obtain ⟨n, hn⟩ : ∃ n, text.length = n := ⟨_, rfl⟩
 obtain ⟨no, hno⟩ : ∃ n, oth.length = n := ⟨_, rfl⟩
 have hd2 : (text.drop fr).take (n - fr) = text.drop fr := List.take_of_length_le (by simp; omega)
 obtain ⟨q, hq⟩ : ∃ m, n - fr = m := ⟨_, rfl⟩
 obtain ⟨c2, hc2⟩ : ∃ m, c - fr = m := ⟨_, rfl⟩
 have HRO := Lib.hid hu.row
 rw [hn] at hc hlen hf ht2 ⊢
 rw [hno] at HRO hlo ⊢
 rw [hd2, hq, hc2] at ht2
 simp only [List.drop_zero, Nat.sub_zero] at ht1
 have HR1 := Lib.hid ht1.row
 have HR2 := Lib.hid ht2.row
 have HA1 := Lib.hid hA1
 have HA2 := Lib.hid hA2
 have l1 : (text.take fr).length = fr := by simp; omega
 have l2 : (text.drop fr).length = q := by simp; omega
 obtain ⟨m2, hm2⟩ : ∃ m, fr + no = m := ⟨_, rfl⟩
 obtain ⟨m3, hm3⟩ : ∃ m, m2 + q = m := ⟨_, rfl⟩
 have l3 : (text.take fr ++ oth).length = m2 := by rw [List.length_append, l1, hno]; exact hm2
 have HN1 : Hid (([] : List Nat).length + (text.take fr).length = fr) := Lib.hid (by rw [l1]; simp)
 have HN2 : Hid ((text.take fr).length + oth.length = m2) := Lib.hid (by rw [l1, hno]; exact hm2)
 have HN3 : Hid ((text.take fr ++ oth).length + (text.drop fr).length = m3) := Lib.hid (by rw [l3, l2]; exact hm3)
 have HB : Hid (fr ≤ n ∧ n ≤ c ∧ n ≤ 500 ∧ n - fr = q ∧ c - fr = c2 ∧ m3 ≤ 1000 ∧ m2 ≤ 1000 ∧ no ≤ 500 ∧ (text.take fr).length = fr ∧ (text.drop fr).length = q ∧ oth.length = no ∧ ([] : List Nat).length = 0 ∧ (text.take fr ++ oth).length = m2) := Lib.hid ⟨by omega, hc, hlen, hq, hc2, by omega, by omega, hlo, l1, l2, hno, rfl, l3⟩
 have hqb : q ≤ 1000 ∧ fr ≤ 1000 := by omega
 obtain ⟨xs3, hx3⟩ : ∃ xs, text.take fr ++ oth ++ text.drop fr = xs := ⟨_, rfl⟩
 rw [hx3]
 have HX3 := Lib.hid hx3
 clear hx3
 clear ht hu ht1 ht2 hp hp1 hp2 hf hlen hlo hn hno hq hc hm2 hc2 hm3 hA1 hA2 hd2 l1 l2 l3
 go_enter Tryz.func18, Tryz.ntmps18
 go_wp2_with (first | refine sL ?_ | (refine sS ?_; clear H; intros; rename_i H))
 refine wp_region_sgx 12 [⟨[], fun _ _ => True⟩, ⟨[], fun v _ => v = .slice ad n c⟩, ⟨[], fun v _ => v = .int .i64 fr⟩, ⟨[1, 2], fun v _ => v = .slice a1 fr c⟩, ⟨[3], fun _ _ => True⟩, ⟨[], fun v _ => v = .slice ao no co⟩, ⟨[5], fun _ _ => True⟩, ⟨[], fun v _ => v = .slice ad n c⟩, ⟨[], fun v _ => v = .int .i64 fr⟩, ⟨[7, 8], fun v _ => v = .slice a2 q c2⟩, ⟨[9], fun _ _ => True⟩, ⟨[10], fun v ds => ds = [v]⟩] [0, 4, 6, 10] [[0], [0, 1], [0, 1], [0, 1], [1], [0, 1, 2], [2], [0, 1, 2, 3], [0, 1, 2, 3], [0, 1, 2, 3], [3], [4]] [fun _ wx => St w [] [] wx, fun vals wx => ∃ b9, vals 0 = .slice (some ⟨b9, 0, none⟩) 0 0 ∧ St w [] [rowsA encT 5 1 (.slice (some ⟨b9, 0, none⟩) 0 0) ([])] wx, fun vals wx => ∃ ad9 cp9, vals 4 = .slice ad9 fr cp9 ∧ St w [] [rowsA encT 5 1 (.slice ad9 fr cp9) (text.take fr)] wx, fun vals wx => ∃ ad9 cp9, vals 6 = .slice ad9 m2 cp9 ∧ St w [] [rowsA encT 5 1 (.slice ad9 m2 cp9) (text.take fr ++ oth)] wx, fun vals wx => ∃ ad9 cp9, vals 10 = .slice ad9 m3 cp9 ∧ St w [] [rowsA encT 5 1 (.slice ad9 m3 cp9) (xs3)] wx]
  [[], [], [], [(1, 8), (2, 9)], [(0, 7), (3, 10)], [], [(4, 11), (5, 12)], [], [], [(7, 14), (8, 15)], [(6, 13), (9, 16)], [(10, 17)]] [(0, 7), (1, 8), (2, 9), (3, 10), (4, 11), (5, 12), (6, 13), (7, 14), (8, 15), (9, 16), (10, 17), (11, 6)] (by kernel_rfl) (by kernel_rfl) H.drew ⟨⟨?_, trivial⟩, ⟨qo, qo, trivial⟩, ⟨qo, qo, trivial⟩, ⟨?_, ?_, trivial⟩, ⟨?_, trivial⟩, ⟨qo, qo, qo, trivial⟩, ⟨?_, trivial⟩, ⟨qo, qo, qo, qo, trivial⟩, ⟨qo, qo, qo, qo, trivial⟩, ⟨?_, ?_, ?_, ?_, trivial⟩, ⟨?_, trivial⟩, ⟨?_, trivial⟩, trivial⟩ ?_
 ·intro vals wx hd HC
  clear hd
  have H := HC
  simp only [CA] at H
  simp only [PS]
  refine StStep.slice0 (enc := encT) H rfl rfl rfl rfl encT_len ?_
  intro b9 wz H
  exact ⟨trivial, b9, rfl, H⟩
 ·intro vals wx hd HC
  simp only [GF] at hd
  have H := HC
  simp only [CA] at H
  simp only [PS, hd]
  refine StStep.seg3 none (some fr) rfl rfl rfl rfl rfl rfl rfl (l := 0) (h := fr) rfl rfl (by have := HB.out; omega) (by have := HB.out; omega) (m := fr) (by have := HB.out; omega) (cr := c) (by have := HB.out; omega) HA1.out ⟨rfl, HC⟩
 ·intro vals wx hd HC
  simp only [GF] at hd
  have H := HC
  simp only [CA] at H
  obtain ⟨b9, hv, H⟩ := H
  simp only [PS, hd, hv]
  refine StStep.seg3 none (some fr) rfl rfl rfl rfl rfl rfl rfl (l := 0) (h := fr) rfl rfl (by have := HB.out; omega) (by have := HB.out; omega) (m := fr) (by have := HB.out; omega) (cr := c) (by have := HB.out; omega) HA1.out ⟨rfl, HC⟩
 ·intro vals wx hd HC
  simp only [GF] at hd
  have H := HC
  simp only [CA] at H
  obtain ⟨b9, hv, H⟩ := H
  simp only [PS, hd, hv]
  refine StStep.appendP (enc := encT) (xs := []) (ys := text.take fr) rfl rfl rfl rfl rfl (by decide) (by decide) rfl rfl H HR1.out (H.known HK pk) encT_len encT_one' (by have := HB.out; omega) HN1.out ?_
  intro ad9 cp9 wz H
  exact ⟨trivial, ad9, cp9, rfl, H⟩
 ·intro vals wx hd HC
  simp only [GF] at hd
  have H := HC
  simp only [CA] at H
  obtain ⟨ad8, cp8, hv, H⟩ := H
  simp only [PS, hd, hv]
  refine StStep.appendP (enc := encT) (xs := text.take fr) (ys := oth) rfl rfl rfl rfl rfl (by decide) (by decide) rfl rfl H HRO.out (H.known HK pk) encT_len encT_one' (by have := HB.out; omega) HN2.out ?_
  intro ad9 cp9 wz H
  exact ⟨trivial, ad9, cp9, rfl, H⟩
 ·intro vals wx hd HC
  simp only [GF] at hd
  have H := HC
  simp only [CA] at H
  simp only [PS, hd]
  refine StStep.seg3 (some fr) none rfl rfl rfl rfl rfl rfl rfl (l := fr) (h := n) rfl rfl (by have := HB.out; omega) (by have := HB.out; omega) (m := q) (by have := HB.out; omega) (cr := c2) (by have := HB.out; omega) HA2.out ⟨rfl, HC⟩
 ·intro vals wx hd HC
  simp only [GF] at hd
  have H := HC
  simp only [CA] at H
  obtain ⟨b9, hv, H⟩ := H
  simp only [PS, hd, hv]
  refine StStep.seg3 (some fr) none rfl rfl rfl rfl rfl rfl rfl (l := fr) (h := n) rfl rfl (by have := HB.out; omega) (by have := HB.out; omega) (m := q) (by have := HB.out; omega) (cr := c2) (by have := HB.out; omega) HA2.out ⟨rfl, HC⟩
 ·intro vals wx hd HC
  simp only [GF] at hd
  have H := HC
  simp only [CA] at H
  obtain ⟨ad8, cp8, hv, H⟩ := H
  simp only [PS, hd, hv]
  refine StStep.seg3 (some fr) none rfl rfl rfl rfl rfl rfl rfl (l := fr) (h := n) rfl rfl (by have := HB.out; omega) (by have := HB.out; omega) (m := q) (by have := HB.out; omega) (cr := c2) (by have := HB.out; omega) HA2.out ⟨rfl, HC⟩
 ·intro vals wx hd HC
  simp only [GF] at hd
  have H := HC
  simp only [CA] at H
  obtain ⟨ad8, cp8, hv, H⟩ := H
  simp only [PS, hd, hv]
  refine StStep.seg3 (some fr) none rfl rfl rfl rfl rfl rfl rfl (l := fr) (h := n) rfl rfl (by have := HB.out; omega) (by have := HB.out; omega) (m := q) (by have := HB.out; omega) (cr := c2) (by have := HB.out; omega) HA2.out ⟨rfl, HC⟩
 ·intro vals wx hd HC
  simp only [GF] at hd
  have H := HC
  simp only [CA] at H
  obtain ⟨ad8, cp8, hv, H⟩ := H
  simp only [PS, hd, hv]
  refine StStep.appendP (enc := encT) (xs := text.take fr ++ oth) (ys := text.drop fr) rfl rfl rfl rfl rfl (by decide) (by decide) rfl rfl H HR2.out (H.known HK pk) encT_len encT_one' (by have := HB.out; omega) HN3.out ?_
  intro ad9 cp9 wz H
  rw [HX3.out] at H
  exact ⟨trivial, ad9, cp9, rfl, H⟩
 ·intro vals wx hd HC
  clear hd
  have H := HC
  simp only [CA] at H
  obtain ⟨ad8, cp8, hv, H⟩ := H
  simp only [PS, hv]
  go_simp
  exact HC
 intro vals wx hd HC
 have h11 := hd.2.2.2.2.2.2.2.2.2.2.2.1
 simp only [CA] at HC
 obtain ⟨ad8, cp8, hv, H⟩ := HC
 simp only [GF] at hd
 simp only [PS, hd, hv]
 clear hd
 go_wp2_with (first | refine sL ?_ | (refine sS ?_; clear H; intros; rename_i H))
 go_ret
 have e : vals 11 = .slice ad8 m3 cp8 := by
  have h : [vals 10] = [vals 11] := h11
  injection h with h
  rw [← h, hv]
 obtain ⟨P', hr', H2⟩ := St.to_pool H encT_len
 exact ⟨vals 11, rfl, P', by rw [e]; exact hr', H2⟩
end
end Go.Proofs.YtnnbeldbccejpaaGreatDoor
