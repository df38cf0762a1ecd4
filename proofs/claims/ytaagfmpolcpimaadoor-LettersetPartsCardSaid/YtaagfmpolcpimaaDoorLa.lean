/-
  LettersetAtoms: the law's walk: it returns true and writes nothing that was there. Conditions: a row of sets, the library's table as its text lays it.
-/
import Derived.Test.YtaagfmpolcpimaaDoorPl
namespace Go.Proofs.YtaagfmpolcpimaaDoor
open Go.RowKit
attribute [local go_sem] OneStep growAt growUpon
set_option maxHeartbeats 4000000
set_option maxRecDepth 100000
set_option linter.unusedSimpArgs false
set_option linter.unusedVariables false

theorem encB_arr (m : Nat → Bool) : (encB m).toArray = BV m := by simp [encB]
theorem i28_256 : (Tryd.prog.info? 28).map (·.size) = some 256 := by have := i28 fun _ => false; rwa [BV_size] at this
theorem one_load_mid' {P : Program} {ops : Array Oper} {o : Oper} {a : Act} {w : World} {R : Value → World → Prop} (hgd : Region.wanted o (yielded ops a.tmps) = true) (ty : TypeId) (x : Operand) (ho : o.op = .load ty x)
    (g off : Nat) (hx : a.eval x = .pointer (some ⟨g, off, none⟩)) (cs : List Value) {ca : Array Value} (hca : cs.toArray = ca) (d : TypeDesc) (hc : w.rangeAt g off cs)
    (hu : P.underlying ty = some d) (hd : d.isRow = true) (hi : (P.info? ty).map (·.size) = some cs.length)
    (h : R (.agg ca) w) : OneStep P ops o a w R false := one_load_mid hgd ty x ho g off hx cs d hc hu hd hi (by rw [hca]; exact h)
/-- the rows of truth values, whole -/
def Rows7 (w : World) (g : Nat) (M : List (Nat → Bool)) : Prop := g < w.heap.size ∧ ∀ k m, M[k]? = some m → w.rangeAt g (k * 256) (encB m)
theorem Rows7.below {w w' : World} {g : Nat} {M : List (Nat → Bool)} (h : Rows7 w g M) (hb : Below w.heap.size w w') : ∀ k m, M[k]? = some m → w'.rangeAt g (k * 256) (encB m) :=
  fun k m hm j u hj => (hb.cell (p := ⟨g, k * 256 + j, none⟩) h.1).trans (h.2 k m hm j u hj)
theorem Rows7.grew {w w' : World} {g : Nat} {M : List (Nat → Bool)} (h : Rows7 w g M) (hb : Below w.heap.size w w') : Rows7 w' g M := ⟨by have := h.1; have := hb.size; omega, h.below hb⟩
theorem rows7_of {w : World} {g cap : Nat} {M : List (Nat → Bool)} (h : RdB w (.slice (some ⟨g, 0, none⟩) M.length cap) M) (hM : 0 < M.length) : Rows7 w g M := by
  rcases h with ⟨h, _⟩ | ⟨g', cap', hv, hg, hc⟩
  · rw [h] at hM; simp at hM
  · cases hv
    refine ⟨hg, fun k m hm j u hj => ?_⟩
    have hj2 : j < 256 := by have := (List.getElem?_eq_some_iff.1 hj).1; rwa [encB_len] at this
    rw [hc k m hm j hj2]
    rw [encB, Array.getElem?_toList, BV_get _ _ hj2] at hj
    exact hj
theorem ownB_shape {w : World} {B : Nat} {v : Value} {M : List (Nat → Bool)} (h : ownsB w B v M) (hM : 0 < M.length) : ∃ g cap, v = .slice (some ⟨g, 0, none⟩) M.length cap := by
  obtain ⟨hl, (⟨rfl, hn⟩ | ⟨g, cap, cur, rfl, hb, hc, hx⟩)⟩ := h
  · omega
  · exact ⟨g, cap, rfl⟩
theorem rd4_shape {w : World} {v : Value} {S : List LW} (h : Rd4 w v S) (hS : 0 < S.length) : ∃ b o cap, v = .slice (some ⟨b, o, none⟩) S.length cap ∧ b < w.heap.size ∧ ∀ i x, S[i]? = some x → w.rangeAt b (o + i * 4) (enc4 x) := by
  rcases h with ⟨h, _⟩ | h
  · rw [h] at hS; simp at hS
  · exact h
/-- what the last loop keeps -/
structure Dn (w0 : World) (b o : Nat) (L : List LW) (g : Nat) (M : List (Nat → Bool)) (w : World) : Prop where
  lt : b < w.heap.size
  rows : ∀ i x, L[i]? = some x → w.rangeAt b (o + i * 4) (enc4 x)
  r7 : Rows7 w g M
  below : Below w0.heap.size w0 w
theorem Dn.grew {w0 : World} {b o : Nat} {L : List LW} {g : Nat} {M : List (Nat → Bool)} {w w' : World} (h : Dn w0 b o L g M w) (hb : Below w.heap.size w w') : Dn w0 b o L g M w' :=
  ⟨by have := h.lt; have := hb.size; omega, fun i x hi j u hj => (hb.cell (p := ⟨b, o + i * 4 + j, none⟩) h.lt).trans (h.rows i x hi j u hj), h.r7.grew hb, h.below.trans (hb.mono h.below.size)⟩

theorem atoms_big (S : List LW) (ad : Option Addr) (cap : Nat) (hbig : 200 < S.length) (hmax : S.length ≤ 9223372036854775807) (w : World) : Calls Tryd.prog 3 #[.slice ad S.length cap] w fun e w' => e = .returned (.bool true) ∧ Below w.heap.size w w' := by
  go_enter Tryd.func3, Tryd.ntmps3
  go_wp2
  go_ret
  exact ⟨rfl, Below.refl _ _⟩
theorem atoms_walk (S : List LW) (hS : S.length ≤ 200) (v0 : Value) (w : World) (HR : Hid (Rd4 w v0 S)) (HT0 : Hid (Tab w)) (h00 : 0 < w.heap.size) : Calls Tryd.prog 3 #[v0] w fun e w' => e = .returned (.bool true) ∧ Below w.heap.size w w' := by
  obtain ⟨i0, hi, hz0, hz1, hz2⟩ := info_parts info28
  obtain ⟨B, hBB⟩ : ∃ B, B = w.heap.size := ⟨_, rfl⟩
  have HBB := Lib.hid hBB
  clear hBB
  have shape : ∃ ad cap, v0 = .slice ad S.length cap := by
    rcases HR.out with ⟨rfl, a, cap, rfl⟩ | ⟨b, o, cap, rfl, _⟩
    · exact ⟨a, cap, rfl⟩
    · exact ⟨_, cap, rfl⟩
  obtain ⟨ad, cap0, rfl⟩ := shape
  go_enter Tryd.func3, Tryd.ntmps3
  go_wp2_with fail
  go_loopg [3, 15] S.length (fun g v i wr => ∃ q : Nat, q ≤ S.length ∧ g = S.length - q ∧ i = .int .i64 q ∧ Hid (At w B v (asB (S.take q)) wr))
  case atStart => exact ⟨0, by omega, by omega, rfl, Lib.hid ⟨World.ownsRow_nil _ _ _ _, Below.refl _ _, HBB.out⟩⟩
  case round =>
    obtain ⟨q, hq, rfl, rfl, HA⟩ := hrel
    by_cases hlt : q < S.length
    · obtain ⟨s, hs⟩ : ∃ s, S[q]? = some s := ⟨_, List.getElem?_eq_getElem hlt⟩
      obtain ⟨b, o, cap, hv, hbl, hc⟩ := rd4_shape HR.out (by omega)
      cases hv
      have HRG : Hid (wr.rangeAt b (o + q * 4) (enc4 s)) := Lib.hid fun j u hj => (HA.out.below.cell (p := ⟨b, o + q * 4 + j, none⟩) (by rw [HBB.out]; exact hbl)).trans (hc q s hs j u hj)
      clear hc
      have HSQ : Hid (asB (S.take (q + 1)) = asB (S.take q) ++ [bit s.1]) := Lib.hid (by
        obtain ⟨h1, h2⟩ := List.getElem?_eq_some_iff.1 hs
        rw [List.take_succ_eq_append_getElem h1, h2]; simp [asB])
      have hlen : (asB (S.take q)).length = q := by simp [asB]; omega
      have HLN := Lib.hid hlen
      clear hs hlen
      go_wp2_with (first | (refine wpList_load_mid rfl 26 _ rfl _ _ rfl _ _ HRG.out Tryd.underlying26 rfl (by rw [enc4_len]; exact i26_4) ?_; simp only [Act.put, List.setIfInBounds_toArray, List.set_cons_zero, List.set_cons_succ, enc4_arr]) | (refine wpList_alloc_row rfl 26 rfl _ z26 ?_; simp only [Act.put, List.setIfInBounds_toArray, List.set_cons_zero, List.set_cons_succ]) | (refine wpList_store_row rfl 26 _ _ rfl _ rfl _ rfl _ _ (heap_at _ _ _ rfl) (i26 _) (by simp only [AV_size]) (AV_one _) ?_; rw [setRow_alloc _ _ _ _ _ rfl]; simp only [Act.put, List.setIfInBounds_toArray, List.set_cons_zero, List.set_cons_succ]) | (refine wpList_load_row rfl 26 _ rfl _ rfl _ _ _ _ (heap_at _ _ _ rfl) Tryd.underlying26 rfl (i26 _) ?_; simp only [Act.put, List.setIfInBounds_toArray, List.set_cons_zero, List.set_cons_succ]) | fail)
      clear HRG
      have HA := Lib.hid (HA.out.grew (grew_alloc wr (.cells (AV s.1) 26)))
      generalize wr.alloc (.cells (AV s.1) 26) = w3 at HA ⊢
      refine (refOf_c s.1 s.2 _).mono ?_
      rintro e w4 ⟨rfl, hb4⟩
      have HA := Lib.hid (HA.out.grew hb4)
      clear hb4
      have hl2 : (asB (S.take q)).length ≤ 200 := by have := HLN.out; omega
      have hsz := HA.out.size
      go_wp2_with (first | (refine wpList_slice_one rfl 23 28 _ rfl (BV (bit s.1)) rfl Tryd.underlying23 (i28 _) (by rw [hi]; simp [hz0]) (by rw [BV_size]; omega) (by rw [BV_size]; omega) ?_; simp only [Act.put, List.setIfInBounds_toArray, List.set_cons_zero, List.set_cons_succ]) | (at_builtin; refine wpList_append_own _ rfl _ _ 23 rfl B 28 i0 (.agg (BV fun _ => false)) 256 256 Tryd.underlying23 hi hz0 hz1 hz2 (BV_size _) (by decide) u3 (asB (S.take q)).length (flatG encB (asB (S.take q))) rfl (HA.out.own.alloc _) ⟨w4.heap.size, 0, none⟩ 1 1 (BV (bit s.1)).toList rfl (by simp [BV_size]) (cells_row' (heap_at _ _ _ rfl)) (encB_one _) (by unfold maxLen; omega) (by omega) (by simp; omega) ?_; intro v4 w5 hown4 hg4 _))
      have HA := Lib.hid (HA.out.added (bit s.1) (grew_alloc _ _) hg4 hown4)
      clear hown4 hg4
      go_wp2_with fail
      go_roundg (S.length - (q + 1))
      case measure => omega
      case rel => exact ⟨q + 1, by omega, rfl, by go_num, Lib.hid (by rw [HSQ.out]; exact HA.out)⟩
    · have hq2 : q = S.length := by omega
      obtain ⟨M, hM⟩ : ∃ M, M = asB S := ⟨_, rfl⟩
      have HA : Hid (At w B u3 M wr) := Lib.hid (by have := HA.out; rwa [hq2, List.take_length, ← hM] at this)
      have HMM := Lib.hid hM
      have hM2 : M.length ≤ 200 := by rw [hM]; simp [asB]; omega
      clear hq2 hM
      have HRw : Hid (Rd4 wr (.slice ad S.length cap0) S) := Lib.hid (Rd4_below HR.out (by have := HA.out.below; rwa [HBB.out] at this))
      have HTw : Hid (Tab wr) := Lib.hid (HT0.out.below (B := B) HA.out.below (by rw [HBB.out]; exact h00))
      have h0w : 0 < wr.heap.size := by have := HA.out.below.size; omega
      go_wp2_with fail
      refine (atoms_c S (by omega) (Lib.hid (parts_len S)) _ _ HRw HTw h0w).mono ?_
      rintro e w6 ⟨v6, L, rfl, hp, hsrt, hrd, -, hb6⟩
      have HPR : Hid (Prt M L) := Lib.hid (by rw [HMM.out]; exact prt_perm (prt_parts S) hp)
      obtain ⟨hlen, hsame⟩ := sorted_is HPR.out hsrt
      have hpos := (prt_len HPR.out).2
      have hle := (prt_len HPR.out).1
      have HA := Lib.hid (HA.out.grew hb6)
      have HLE := Lib.hid hlen
      have HSM := Lib.hid hsame
      have HRD := Lib.hid hrd
      clear hp hsrt hrd hb6 hlen hsame HRw
      obtain ⟨b6, o6, cap6, hv6, hb6, hc6⟩ := rd4_shape HRD.out hpos
      subst hv6
      have HC6 := Lib.hid hc6
      clear hc6
      go_wp2_with fail
      refine (refAtoms_c M (by omega) u3 _ (Lib.hid (RdB_own HA.out.own))).mono ?_
      rintro e w7 ⟨v7, rfl, ho7, hb7⟩
      obtain ⟨g7, cap7, hv7⟩ := ownB_shape ho7 (by have := HLE.out; omega)
      subst hv7
      have HD : Hid (Dn w b6 o6 L g7 (rAt M 256) w7) := Lib.hid ⟨by have := hb7.size; omega, fun i x hi j u hj => (hb7.cell (p := ⟨b6, o6 + i * 4 + j, none⟩) hb6).trans (HC6.out i x hi j u hj), rows7_of (RdB_own ho7) (by have := HLE.out; omega), by have := HA.out.below.trans (hb7.mono HA.out.size); rwa [HBB.out] at this⟩
      clear ho7 hb7 HC6 HRD
      rw [← HLE.out]
      go_wp2_with fail
      go_loopg [36] L.length (fun g i wr => ∃ k : Nat, k ≤ L.length ∧ g = L.length - k ∧ i = .int .i64 k ∧ Hid (Dn w b6 o6 L g7 (rAt M 256) wr))
      case atStart => exact ⟨0, by omega, by omega, rfl, HD⟩
      case round =>
        clear HD
        obtain ⟨k, hk, rfl, rfl, HD⟩ := hrel
        by_cases hkl : k < L.length
        · obtain ⟨x, hx⟩ : ∃ x, L[k]? = some x := ⟨_, List.getElem?_eq_getElem hkl⟩
          obtain ⟨m, hm⟩ : ∃ m, (rAt M 256)[k]? = some m := ⟨_, List.getElem?_eq_getElem (by have := HLE.out; omega)⟩
          have HM7 := Lib.hid hm
          have HXM : Hid (∀ i, i < 256 → bit x.1 i = m i) := Lib.hid (HSM.out k x m hx hm)
          have HRX : Hid (wr.rangeAt b6 (o6 + k * 4) (enc4 x)) := Lib.hid (HD.out.rows k x hx)
          clear hx hm
          go_wp2_with (first | (refine wpList_load_mid rfl 26 _ rfl _ _ rfl _ _ HRX.out Tryd.underlying26 rfl (by rw [enc4_len]; exact i26_4) ?_; simp only [Act.put, List.setIfInBounds_toArray, List.set_cons_zero, List.set_cons_succ, enc4_arr]) | (refine wpList_alloc_row rfl 26 rfl _ z26 ?_; simp only [Act.put, List.setIfInBounds_toArray, List.set_cons_zero, List.set_cons_succ]) | (refine wpList_store_row rfl 26 _ _ rfl _ rfl _ rfl _ _ (heap_at _ _ _ rfl) (i26 _) (by simp only [AV_size]) (AV_one _) ?_; rw [setRow_alloc _ _ _ _ _ rfl]; simp only [Act.put, List.setIfInBounds_toArray, List.set_cons_zero, List.set_cons_succ]) | fail)
          obtain ⟨Pb, hPb⟩ : ∃ Pb, Pb = wr.heap.size := ⟨_, rfl⟩
          have HX := Lib.hid (heap_at wr (.cells (AV x.1) 26) Pb hPb)
          have HD := Lib.hid (HD.out.grew (grew_alloc wr (.cells (AV x.1) 26)))
          rw [← hPb]
          generalize wr.alloc (.cells (AV x.1) 26) = w5 at HX HD ⊢
          clear hPb HRX
          have H7 := Lib.hid HD.out.r7
          refine wp_region_grows 7 [IsV (.agg (AV x.1)), IsV (.agg (BV (bit x.1))), IsV ((.slice (some ⟨g7, 0, none⟩) L.length cap7)), IsV (.int .i64 k), IsV (.pointer (some ⟨g7, k * 256, none⟩)), IsV (.agg (BV m)), IsV (.bool false)] []
            [[], [(0, 41)], [], [], [(2, 43), (3, 44)], [(4, 45)], [(1, 42), (5, 46)]] [(0, 41), (1, 42), (2, 43), (3, 44), (4, 45), (5, 46), (6, 47)] (by kernel_rfl) (by kernel_rfl) rfl ?stable ⟨?o0, ?o1, ?o2, ?o3, ?o4, ?o5, ?o6, trivial⟩ ?fin
          case stable => exact ⟨IsV.stable _, IsV.stable _, IsV.stable _, IsV.stable _, IsV.stable _, IsV.stable _, IsV.stable _, trivial⟩
          case o0 =>
            intro vals w' hg hd
            clear hd
            simp only [putS, List.foldl_nil]
            exact one_load_row (by rfl) _ _ rfl _ rfl _ _ _ _ (block_below' hg HX.out) Tryd.underlying26 rfl (i26 _) (isV_mk _ _)
          case o1 =>
            intro vals w' hg hd
            have h0 : vals 0 = .agg (AV x.1) := hd.1
            clear hd
            simp only [putS, List.foldl_nil, List.foldl_cons, Act.put, List.setIfInBounds_toArray, List.set_cons_zero, List.set_cons_succ, h0]
            clear hg h0
            go_simp
            exact (refOf_c x.1 x.2 w').mono fun e w2 ⟨he, hb⟩ => ⟨_, he, hb, isV_mk _ _⟩
          case o2 =>
            intro vals w' hg hd
            clear hd
            simp only [putS, List.foldl_nil]
            clear hg
            go_simp
            try go_bits
            exact isV_mk _ _
          case o3 =>
            intro vals w' hg hd
            clear hd
            simp only [putS, List.foldl_nil]
            clear hg
            go_simp
            try go_bits
            exact isV_mk _ _
          case o4 =>
            intro vals w' hg hd
            have h2 : vals 2 = (.slice (some ⟨g7, 0, none⟩) L.length cap7) := hd.1
            have h3 : vals 3 = .int .i64 k := hd.2.1
            clear hd
            simp only [putS, List.foldl_nil, List.foldl_cons, Act.put, List.setIfInBounds_toArray, List.set_cons_zero, List.set_cons_succ, h2, h3]
            clear hg h2 h3
            go_simp
            try go_bits
            exact isV_mk _ _
          case o5 =>
            intro vals w' hg hd
            have h4 : vals 4 = .pointer (some ⟨g7, k * 256, none⟩) := hd.1
            clear hd
            simp only [putS, List.foldl_nil, List.foldl_cons, Act.put, List.setIfInBounds_toArray, List.set_cons_zero, List.set_cons_succ, h4]
            exact one_load_mid' (by rfl) _ _ rfl _ _ rfl (encB m) (encB_arr m) _ ((H7.out.below hg) k m HM7.out) Tryd.underlying28 rfl (by rw [encB_len]; exact i28_256) (isV_mk _ _)
          case o6 =>
            intro vals w' hg hd
            have h1 : vals 1 = .agg (BV (bit x.1)) := hd.1
            have h5 : vals 5 = .agg (BV m) := hd.2.1
            clear hd
            simp only [putS, List.foldl_nil, List.foldl_cons, Act.put, List.setIfInBounds_toArray, List.set_cons_zero, List.set_cons_succ, h1, h5]
            have heq := fun w => eq_BV_true HXM.out w
            clear hg h1 h5
            go_simp
            exact isV_mk _ _
          case fin =>
            intro vals w' hg hd hfresh
            have h0 : vals 0 = .agg (AV x.1) := hd.1
            have h1 : vals 1 = .agg (BV (bit x.1)) := hd.2.1
            have h2 : vals 2 = (.slice (some ⟨g7, 0, none⟩) L.length cap7) := hd.2.2.1
            have h3 : vals 3 = .int .i64 k := hd.2.2.2.1
            have h4 : vals 4 = .pointer (some ⟨g7, k * 256, none⟩) := hd.2.2.2.2.1
            have h5 : vals 5 = .agg (BV m) := hd.2.2.2.2.2.1
            have h6 : vals 6 = .bool false := hd.2.2.2.2.2.2.1
            clear hd
            simp only [putS, List.foldl_nil, List.foldl_cons, Act.put, List.setIfInBounds_toArray, List.set_cons_zero, List.set_cons_succ, List.drop_succ_cons, List.drop_zero, h0, h1, h2, h3, h4, h5, h6]
            have HD := Lib.hid (HD.out.grew hg)
            clear hg hfresh HX h0 h1 h2 h3 h4 h5 h6
            go_wp2_with fail
            go_roundg (L.length - (k + 1))
            case measure => omega
            case rel => exact ⟨k + 1, by omega, rfl, by go_num, HD⟩
        · have hk3 : k = L.length := by omega
          go_wp2_with fail
          go_ret
          exact ⟨rfl, HD.out.below⟩
end Go.Proofs.YtaagfmpolcpimaaDoor
