/-
  LettersetParts: the law's walk: it returns true and writes nothing that was there. Conditions: a row of sets, the library's table as its text lays it.
-/
import Derived.Test.YtaagfmpolcpimaaDoorLa
namespace Go.Proofs.YtaagfmpolcpimaaDoor
open Go.RowKit
set_option maxHeartbeats 4000000
set_option maxRecDepth 100000
set_option linter.unusedSimpArgs false
set_option linter.unusedVariables false

/-! ### plain: the parts' union, their numbers of letters -/
def uni (L : List LW) (k : Nat) : Nat → Nat := (L.take k).foldl (fun u p => orW u p.1) fun _ => 0
theorem uni_succ {L : List LW} {k : Nat} {p : LW} (h : L[k]? = some p) : uni L (k + 1) = orW (uni L k) p.1 := by
  obtain ⟨h1, h2⟩ := List.getElem?_eq_some_iff.1 h
  unfold uni
  rw [List.take_succ_eq_append_getElem h1, List.foldl_append, h2]
  rfl
theorem uni_W64 (L : List LW) (k : Nat) : W64 (uni L k) := by
  unfold uni
  have key : ∀ (T : List LW) (u : Nat → Nat), W64 u → W64 (T.foldl (fun u p => orW u p.1) u) := by
    intro T
    induction T with
    | nil => intro u h; exact h
    | cons p T ih => intro u h; exact ih _ (orW_W64 h p.2)
  exact key _ _ W64_zero
theorem bit_uni (L : List LW) (k b : Nat) : bit (uni L k) b = (L.take k).any fun p => bit p.1 b := by
  unfold uni
  have key : ∀ (T : List LW) (u : Nat → Nat), bit (T.foldl (fun u p => orW u p.1) u) b = (bit u b || T.any fun p => bit p.1 b) := by
    intro T
    induction T with
    | nil => intro u; simp
    | cons p T ih => intro u; rw [List.foldl_cons, ih, bit_orW]; simp [Bool.or_assoc]
  rw [key, bit_zero, Bool.false_or]
theorem cnt_or {u p : Nat → Bool} : ∀ k, (∀ b, b < k → u b = true → p b = false) → cnt (fun b => u b || p b) k = cnt u k + cnt p k
  | 0, _ => rfl
  | k + 1, h => by
    have ih := cnt_or (u := u) (p := p) k fun b hb => h b (by omega)
    unfold cnt
    rw [ih]
    have hk := h k (by omega)
    cases hu : u k with
    | true => rw [hk hu]; simp; omega
    | false => cases p k <;> simp; omega
theorem cnt_full {m : Nat → Bool} : ∀ k, (∀ b, b < k → m b = true) → cnt m k = k
  | 0, _ => rfl
  | k + 1, h => by unfold cnt; rw [cnt_full k fun b hb => h b (by omega), h k (by omega)]; rfl
theorem uni_dis {M : List (Nat → Bool)} {L : List LW} (h : Prt M L) {k : Nat} {p : LW} (hp : L[k]? = some p) : ∀ b, b < 256 → bit (uni L k) b = true → bit p.1 b = false := by
  intro b hb hu
  rw [bit_uni, List.any_eq_true] at hu
  obtain ⟨q, hq, hqb⟩ := hu
  obtain ⟨i, hi⟩ := List.mem_iff_getElem?.1 hq
  have hi' := (List.getElem?_eq_some_iff.1 hi).1
  have hk := List.getElem?_eq_some_iff.1 hp
  have hik : i < k := by simp at hi'; omega
  have hil : i < L.length := by simp at hi'; omega
  rw [List.getElem?_take_of_lt hik] at hi
  have hi2 := (List.getElem?_eq_some_iff.1 hi)
  have := (List.pairwise_iff_getElem.1 h.dis) i k hil hk.1 hik b hb
  rw [hi2.2, hk.2] at this
  exact this hqb
theorem uni_cnt {M : List (Nat → Bool)} {L : List LW} (h : Prt M L) {k : Nat} {p : LW} (hp : L[k]? = some p) : cnt (bit (uni L (k + 1))) 256 = cnt (bit (uni L k)) 256 + cnt (bit p.1) 256 := by
  rw [← cnt_or 256 (uni_dis h hp), uni_succ hp]
  exact cnt_congr 256 fun b _ => bit_orW _ _ _
theorem uni_full {M : List (Nat → Bool)} {L : List LW} (h : Prt M L) : cnt (bit (uni L L.length)) 256 = 256 := by
  refine cnt_full 256 fun b hb => ?_
  obtain ⟨p, hp, hpb⟩ := h.cov b hb
  rw [bit_uni, List.take_length, List.any_eq_true]
  exact ⟨p, hp, hpb⟩
theorem ne_zero {M : List (Nat → Bool)} {L : List LW} (h : Prt M L) {k : Nat} {p : LW} (hp : L[k]? = some p) : eqS p.1 (fun _ => 0) = false := by
  rw [Bool.eq_false_iff]
  intro he
  obtain ⟨b, hb, hbb⟩ := h.ne p (List.mem_of_getElem? hp)
  have := (eqS_iff p.2 W64_zero).1 he b hb
  rw [hbb, bit_zero] at this
  cases this
theorem meet_zero {M : List (Nat → Bool)} {L : List LW} (h : Prt M L) {k : Nat} {p : LW} (hp : L[k]? = some p) : eqS (andW (uni L k) p.1) (fun _ => 0) = true := by
  refine (eqS_iff (andW_W64 (uni_W64 L k) _) W64_zero).2 fun b hb => ?_
  rw [bit_andW, bit_zero]
  cases hu : bit (uni L k) b with
  | false => rfl
  | true => rw [uni_dis h hp b hb hu]; rfl
/-- a set contains a part whole or not at all -/
theorem whole {S : List LW} {L : List LW} (h : Prt (asB S) L) {k i : Nat} {p s : LW} (hp : L[k]? = some p) (hs : S[i]? = some s) : eqS (andW s.1 p.1) p.1 = true ∨ (eqS (andW s.1 p.1) p.1 = false ∧ eqS (andW s.1 p.1) (fun _ => 0) = true) := by
  obtain ⟨b, hb, hbb⟩ := h.ne p (List.mem_of_getElem? hp)
  have same : ∀ c, c < 256 → bit p.1 c = true → bit s.1 c = bit s.1 b := by
    intro c hc hcc
    have h1 := h.cls p (List.mem_of_getElem? hp) b c hb hc hbb
    rw [hcc] at h1
    have h2 := List.all_eq_true.1 h1.symm (bit s.1) (List.mem_map.2 ⟨s, List.mem_of_getElem? hs, rfl⟩)
    exact (beq_iff_eq.1 h2).symm
  cases hsb : bit s.1 b with
  | true =>
    refine .inl ((eqS_iff (andW_W64 s.2 _) p.2).2 fun c hc => ?_)
    rw [bit_andW]
    cases hpc : bit p.1 c with
    | false => simp
    | true => rw [same c hc hpc, hsb]; rfl
  | false =>
    refine .inr ⟨?_, (eqS_iff (andW_W64 s.2 _) W64_zero).2 fun c hc => ?_⟩
    · rw [Bool.eq_false_iff]
      intro he
      have := (eqS_iff (andW_W64 s.2 _) p.2).1 he b hb
      rw [bit_andW, hsb, hbb] at this
      cases this
    · rw [bit_andW, bit_zero]
      cases hpc : bit p.1 c with
      | false => simp
      | true => rw [same c hc hpc, hsb]; rfl

/-! ### the walk -/
theorem eq_zero_lit (s : Nat → Nat) (w : World) : (Op.equalIn 10000 26 (.agg (AV s)) (.agg #[.int .u64 0, .int .u64 0, .int .u64 0, .int .u64 0])).run Tryd.prog w = .ok (eqS s fun _ => 0) w := by
  have := eq_AV s (fun _ => 0) w
  rw [AV_eq (fun _ => 0)] at this
  exact this
theorem wpList_store_zero {P : Program} {ops : Array Oper} {rest : List Oper} {o : Oper} {a : Act} {w : World} {Q : Exit → Act → World → Prop} (hgd : o.guard = none) (ty : TypeId) (x y : Operand) (ho : o.op = .store ty x y)
    (g : Nat) (hx : a.eval x = .pointer (some ⟨g, 0, none⟩)) (hy : a.eval y = .agg #[.int .u64 0, .int .u64 0, .int .u64 0, .int .u64 0]) (t : TypeId) (s : Nat → Nat)
    (hg : w.heap[g]? = some (.cells (AV s) t)) (hi : (P.info? ty).map (·.size) = some 4)
    (h : wpList P ops Q rest (a.put o.dst undef) (w.setRow g (AV fun _ => 0))) : wpList P ops Q (o :: rest) a w := by
  refine wpList_store_row hgd ty x y ho g hx (AV fun _ => 0) (by rw [hy, AV_eq]; rfl) t (AV s) hg (by rw [AV_size]; exact hi) (by rw [AV_size, AV_size]) (AV_one _) h
/-- what the loops keep: the union's block, the parts' row, the arguments' row -/
structure Pk (w0 : World) (A : Nat) (u : Nat → Nat) (b o : Nat) (L : List LW) (v0 : Value) (S : List LW) (w : World) : Prop where
  all : w.heap[A]? = some (.cells (AV u) 26)
  leA : w0.heap.size ≤ A
  ltA : A < b
  ltb : b < w.heap.size
  rows : ∀ i x, L[i]? = some x → w.rangeAt b (o + i * 4) (enc4 x)
  below : Below w0.heap.size w0 w
theorem Pk.grew {w0 : World} {A : Nat} {u : Nat → Nat} {b o : Nat} {L : List LW} {v0 : Value} {S : List LW} {w w' : World} (h : Pk w0 A u b o L v0 S w) (hb : Below w.heap.size w w') : Pk w0 A u b o L v0 S w' :=
  ⟨block_below' hb h.all, h.leA, h.ltA, by have := h.ltb; have := hb.size; omega, fun i x hi j y hj => (hb.cell (p := ⟨b, o + i * 4 + j, none⟩) h.ltb).trans (h.rows i x hi j y hj), h.below.trans (hb.mono h.below.size)⟩
theorem Pk.put {w0 : World} {A : Nat} {u : Nat → Nat} {b o : Nat} {L : List LW} {v0 : Value} {S : List LW} {w : World} (h : Pk w0 A u b o L v0 S w) (t : Nat → Nat) : Pk w0 A t b o L v0 S (w.setRow A (AV t)) := by
  have hne := h.ltA
  refine ⟨setRow_heap _ _ _ _ _ _ h.all, h.leA, h.ltA, by simp; exact h.ltb, fun i x hi j y hj => ?_, h.below.trans ⟨rfl, rfl, rfl, by simp, fun k hk => setRow_other _ _ _ _ (by have := h.leA; omega)⟩⟩
  have := h.rows i x hi j y hj
  rw [← this]
  unfold World.cell?
  rw [setRow_other _ _ _ _ (show b ≠ A by omega)]
theorem Pk.rd {w0 : World} {A : Nat} {u : Nat → Nat} {b o : Nat} {L : List LW} {v0 : Value} {S : List LW} {w : World} (h : Pk w0 A u b o L v0 S w) (hr : Rd4 w0 v0 S) : Rd4 w v0 S := Rd4_below hr h.below

theorem parts_big (S : List LW) (ad : Option Addr) (cap : Nat) (hbig : 200 < S.length) (hmax : S.length ≤ 9223372036854775807) (w : World) : Calls Tryd.prog 4 #[.slice ad S.length cap] w fun e w' => e = .returned (.bool true) ∧ Below w.heap.size w w' := by
  go_enter Tryd.func4, Tryd.ntmps4
  go_wp2
  go_ret
  exact ⟨rfl, Below.refl _ _⟩
theorem parts_walk (S : List LW) (hS : S.length ≤ 200) (v0 : Value) (w : World) (HR : Hid (Rd4 w v0 S)) (HT0 : Hid (Tab w)) (h00 : 0 < w.heap.size) : Calls Tryd.prog 4 #[v0] w fun e w' => e = .returned (.bool true) ∧ Below w.heap.size w w' := by
  have shape : ∃ ad cap, v0 = .slice ad S.length cap := by
    rcases HR.out with ⟨rfl, a, cap, rfl⟩ | ⟨b, o, cap, rfl, _⟩
    · exact ⟨a, cap, rfl⟩
    · exact ⟨_, cap, rfl⟩
  obtain ⟨ad, cap0, rfl⟩ := shape
  go_enter Tryd.func4, Tryd.ntmps4
  go_wp2_with (first | (refine wpList_alloc_row rfl 26 rfl _ z26 ?_; simp only [Act.put, List.setIfInBounds_toArray, List.set_cons_zero, List.set_cons_succ]) | (refine wpList_store_zero rfl 26 _ _ rfl _ rfl rfl _ _ (heap_at _ _ _ rfl) i26_4 ?_; rw [setRow_alloc _ _ _ _ _ rfl]; simp only [Act.put, List.setIfInBounds_toArray, List.set_cons_zero, List.set_cons_succ]) | fail)
  obtain ⟨A, hA⟩ : ∃ A, A = w.heap.size := ⟨_, rfl⟩
  have HA0 := Lib.hid (heap_at w (.cells (AV fun _ => 0) 26) A hA)
  have HG := Lib.hid (grew_alloc w (.cells (AV fun _ => 0) 26))
  rw [← hA]
  have HAA := Lib.hid hA
  generalize w.alloc (.cells (AV fun _ => 0) 26) = w1 at HA0 HG ⊢
  clear hA
  have h01 : 0 < w1.heap.size := by have := HG.out.size; omega
  refine (atoms_c S (by omega) (Lib.hid (parts_len S)) _ _ (Lib.hid (Rd4_below HR.out HG.out)) (Lib.hid (HT0.out.below HG.out h00)) h01).mono ?_
  rintro e w2 ⟨v2, L, rfl, hp, -, hrd, hob, hb2⟩
  have HPR : Hid (Prt (asB S) L) := Lib.hid (prt_perm (prt_parts S) hp)
  have hpos := (prt_len HPR.out).2
  have hle := (prt_len HPR.out).1
  obtain ⟨b, o, cap2, hv2, hbl, hrows⟩ := rd4_shape hrd hpos
  subst hv2
  have hAb : A < b := by have := hob b rfl; have := lt_of_block HA0.out; omega
  have HK : Hid (Pk w A (uni L 0) b o L (.slice ad S.length cap0) S w2) := Lib.hid ⟨block_below' hb2 HA0.out, by rw [HAA.out]; exact Nat.le_refl _, hAb, hbl, hrows, HG.out.trans hb2⟩
  clear hp hrd hob hb2 hrows HA0 HG
  go_wp2_with fail
  go_loopg [4, 17] L.length (fun g n i wr => ∃ k : Nat, k ≤ L.length ∧ g = L.length - k ∧ i = .int .i64 k ∧ n = .int .i64 (cnt (bit (uni L k)) 256 : Nat) ∧ Hid (Pk w A (uni L k) b o L (.slice ad S.length cap0) S wr))
  case atStart => exact ⟨0, by omega, by omega, rfl, by
    have : cnt (bit (uni L 0)) 256 = 0 := (cnt_congr 256 (m := bit (uni L 0)) (n := fun _ => false) fun j _ => bit_zero j).trans (by decide +kernel)
    rw [this]; rfl, HK⟩
  case round =>
    clear HK
    obtain ⟨k, hk, rfl, rfl, rfl, HK⟩ := hrel
    obtain ⟨c, hc⟩ : ∃ c, c = cnt (bit (uni L k)) 256 := ⟨_, rfl⟩
    rw [← hc]
    have hcb : c ≤ 256 := by rw [hc]; exact cnt_le _ _
    have HC := Lib.hid hc
    clear hc
    by_cases hkl : k < L.length
    · obtain ⟨p, hp⟩ : ∃ p, L[k]? = some p := ⟨_, List.getElem?_eq_getElem hkl⟩
      have HPK := Lib.hid hp
      have HRX : Hid (wr.rangeAt b (o + k * 4) (enc4 p)) := Lib.hid (HK.out.rows k p hp)
      have he1 := fun w => (eq_zero_lit p.1 w).trans (by rw [ne_zero HPR.out hp])
      have HMZ := Lib.hid (meet_zero HPR.out hp)
      clear hp
      go_wp2_with (first | (refine wpList_load_mid rfl 26 _ rfl _ _ rfl _ _ HRX.out Tryd.underlying26 rfl (by rw [enc4_len]; exact i26_4) ?_; simp only [Act.put, List.setIfInBounds_toArray, List.set_cons_zero, List.set_cons_succ, enc4_arr]) | (refine wpList_alloc_row rfl 26 rfl _ z26 ?_; simp only [Act.put, List.setIfInBounds_toArray, List.set_cons_zero, List.set_cons_succ]) | (refine wpList_store_row rfl 26 _ _ rfl _ rfl _ rfl _ _ (heap_at _ _ _ rfl) (i26 _) (by simp only [AV_size]) (AV_one _) ?_; rw [setRow_alloc _ _ _ _ _ rfl]; simp only [Act.put, List.setIfInBounds_toArray, List.set_cons_zero, List.set_cons_succ]) | (refine wpList_load_row rfl 26 _ rfl _ rfl _ _ _ _ (heap_at _ _ _ rfl) Tryd.underlying26 rfl (i26 _) ?_; simp only [Act.put, List.setIfInBounds_toArray, List.set_cons_zero, List.set_cons_succ]) | (refine wpList_load_row_g (by rfl) 26 _ rfl _ rfl _ _ _ _ ((heap_past _ _ _ (lt_of_block HK.out.all)).trans HK.out.all) Tryd.underlying26 rfl (i26 _) ?_; simp only [Act.put, List.setIfInBounds_toArray, List.set_cons_zero, List.set_cons_succ]) | (refine wpList_load_row_g (by rfl) 26 _ rfl _ rfl _ _ _ _ (heap_at _ _ _ rfl) Tryd.underlying26 rfl (i26 _) ?_; simp only [Act.put, List.setIfInBounds_toArray, List.set_cons_zero, List.set_cons_succ]) | fail)
      obtain ⟨P, hP⟩ : ∃ P, P = wr.heap.size := ⟨_, rfl⟩
      have hAP : A ≠ P := by have := HK.out.ltA; have := HK.out.ltb; omega
      have HP := Lib.hid (heap_at wr (.cells (AV p.1) 26) P hP)
      have HK := Lib.hid (HK.out.grew (grew_alloc wr (.cells (AV p.1) 26)))
      rw [← hP]
      generalize wr.alloc (.cells (AV p.1) 26) = w3 at HP HK ⊢
      clear hP HRX he1
      refine (meet_c (uni L k) p.1 (uni_W64 L k) p.2 _).mono ?_
      rintro e w4 ⟨rfl, hb4⟩
      have HP := Lib.hid (block_below' hb4 HP.out)
      have HK := Lib.hid (HK.out.grew hb4)
      clear hb4
      have he2 := fun w => (eq_zero_lit (andW (uni L k) p.1) w).trans (by rw [HMZ.out])
      go_wp2_with (first | (refine wpList_load_row rfl 26 _ rfl _ rfl _ _ _ _ HK.out.all Tryd.underlying26 rfl (i26 _) ?_; simp only [Act.put, List.setIfInBounds_toArray, List.set_cons_zero, List.set_cons_succ]) | (refine wpList_load_row rfl 26 _ rfl _ rfl _ _ _ _ HP.out Tryd.underlying26 rfl (i26 _) ?_; simp only [Act.put, List.setIfInBounds_toArray, List.set_cons_zero, List.set_cons_succ]) | fail)
      clear he2
      refine (union_c (uni L k) p.1 (uni_W64 L k) p.2 _).mono ?_
      rw [← uni_succ HPK.out]
      rintro e w5 ⟨rfl, hb5⟩
      have HP := Lib.hid (block_below' hb5 HP.out)
      have HK := Lib.hid (HK.out.grew hb5)
      clear hb5
      have HP6 : Hid ((w5.setRow A (AV (uni L (k + 1)))).heap[P]? = some (.cells (AV p.1) 26)) := Lib.hid ((setRow_other _ _ _ _ (Ne.symm hAP)).trans HP.out)
      have HK6 := Lib.hid (HK.out.put (uni L (k + 1)))
      go_wp2_with (first | (refine wpList_store_row rfl 26 _ _ rfl _ rfl _ rfl _ _ HK.out.all (i26 _) (by simp only [AV_size]) (AV_one _) ?_; simp only [Act.put, List.setIfInBounds_toArray, List.set_cons_zero, List.set_cons_succ]) | (refine wpList_load_row rfl 26 _ rfl _ rfl _ _ _ _ HP6.out Tryd.underlying26 rfl (i26 _) ?_; simp only [Act.put, List.setIfInBounds_toArray, List.set_cons_zero, List.set_cons_succ]) | fail)
      clear HP HK
      generalize w5.setRow A (AV (uni L (k + 1))) = w6 at HP6 HK6 ⊢
      refine (len_c p.1 p.2 _).mono ?_
      rintro e w7 ⟨rfl, hb7⟩
      have HP := Lib.hid (block_below' hb7 HP6.out)
      have HK := Lib.hid (HK6.out.grew hb7)
      clear hb7 HP6 HK6
      obtain ⟨d, hd⟩ : ∃ d, d = cnt (bit p.1) 256 := ⟨_, rfl⟩
      rw [← hd]
      have hdb : d ≤ 256 := by rw [hd]; exact cnt_le _ _
      have HD := Lib.hid hd
      clear hd
      have HCN : Hid (((c : Int) + (d : Int)) = ((cnt (bit (uni L (k + 1))) 256 : Nat) : Int)) := Lib.hid (by rw [uni_cnt HPR.out HPK.out, ← HC.out, ← HD.out]; simp)
      go_wp2_with fail
      try rw [show decide ((k : Int) < (L.length : Int)) = true by simp; omega]
      go_loopg [40] S.length (fun g i wr => ∃ j : Nat, j ≤ S.length ∧ g = S.length - j ∧ i = .int .i64 j ∧ Hid (wr.heap[P]? = some (.cells (AV p.1) 26)) ∧ Hid (Pk w A (uni L (k + 1)) b o L (.slice ad S.length cap0) S wr))
      case atStart => exact ⟨0, by omega, by omega, rfl, HP, HK⟩
      case round =>
        clear HP HK
        obtain ⟨j, hj, rfl, rfl, HP, HK⟩ := hrel
        by_cases hjl : j < S.length
        · obtain ⟨s, hs⟩ : ∃ s, S[j]? = some s := ⟨_, List.getElem?_eq_getElem hjl⟩
          obtain ⟨bs, os, cs, hv, hbs, hrs⟩ := rd4_shape (HK.out.rd HR.out) (by omega)
          cases hv
          have HRS : Hid (wr.rangeAt bs (os + j * 4) (enc4 s)) := Lib.hid (hrs j s hs)
          have HW := Lib.hid (whole HPR.out HPK.out hs)
          clear hs hrs
          go_wp2_with (first | (refine wpList_load_mid rfl 26 _ rfl _ _ rfl _ _ HRS.out Tryd.underlying26 rfl (by rw [enc4_len]; exact i26_4) ?_; simp only [Act.put, List.setIfInBounds_toArray, List.set_cons_zero, List.set_cons_succ, enc4_arr]) | (refine wpList_alloc_row rfl 26 rfl _ z26 ?_; simp only [Act.put, List.setIfInBounds_toArray, List.set_cons_zero, List.set_cons_succ]) | (refine wpList_store_row rfl 26 _ _ rfl _ rfl _ rfl _ _ (heap_at _ _ _ rfl) (i26 _) (by simp only [AV_size]) (AV_one _) ?_; rw [setRow_alloc _ _ _ _ _ rfl]; simp only [Act.put, List.setIfInBounds_toArray, List.set_cons_zero, List.set_cons_succ]) | (refine wpList_load_row rfl 26 _ rfl _ rfl _ _ _ _ (heap_at _ _ _ rfl) Tryd.underlying26 rfl (i26 _) ?_; simp only [Act.put, List.setIfInBounds_toArray, List.set_cons_zero, List.set_cons_succ]) | (refine wpList_load_row rfl 26 _ rfl _ rfl _ _ _ _ ((heap_past _ _ _ (lt_of_block HP.out)).trans HP.out) Tryd.underlying26 rfl (i26 _) ?_; simp only [Act.put, List.setIfInBounds_toArray, List.set_cons_zero, List.set_cons_succ]) | fail)
          have HP := Lib.hid (block_below' (grew_alloc wr (.cells (AV s.1) 26)) HP.out)
          have HK := Lib.hid (HK.out.grew (grew_alloc wr (.cells (AV s.1) 26)))
          obtain ⟨Q, hQ⟩ : ∃ Q, Q = wr.heap.size := ⟨_, rfl⟩
          rw [← hQ]
          generalize wr.alloc (.cells (AV s.1) 26) = w8 at HP HK ⊢
          clear HRS hQ
          refine (meet_c s.1 p.1 s.2 p.2 _).mono ?_
          rintro e w9 ⟨rfl, hb9⟩
          have HP := Lib.hid (block_below' hb9 HP.out)
          have HK := Lib.hid (HK.out.grew hb9)
          clear hb9
          rcases HW.out with hw | ⟨hw1, hw2⟩
          · have HW1 := Lib.hid hw
            have he3 := fun w => eq_AV_true HW1.out w
            clear hw
            go_wp2_with (first | (refine wpList_alloc_row rfl 26 rfl _ z26 ?_; simp only [Act.put, List.setIfInBounds_toArray, List.set_cons_zero, List.set_cons_succ]) | (refine wpList_store_row rfl 26 _ _ rfl _ rfl _ rfl _ _ (heap_at _ _ _ rfl) (i26 _) (by simp only [AV_size]) (AV_one _) ?_; rw [setRow_alloc _ _ _ _ _ rfl]; simp only [Act.put, List.setIfInBounds_toArray, List.set_cons_zero, List.set_cons_succ]) | (refine wpList_load_row rfl 26 _ rfl _ rfl _ _ _ _ (heap_at _ _ _ rfl) Tryd.underlying26 rfl (i26 _) ?_; simp only [Act.put, List.setIfInBounds_toArray, List.set_cons_zero, List.set_cons_succ]) | (refine wpList_load_row rfl 26 _ rfl _ rfl _ _ _ _ ((heap_past _ _ _ (lt_of_block HP.out)).trans HP.out) Tryd.underlying26 rfl (i26 _) ?_; simp only [Act.put, List.setIfInBounds_toArray, List.set_cons_zero, List.set_cons_succ]) | fail)
            clear he3
            go_roundg (S.length - (j + 1))
            case measure => omega
            case rel => exact ⟨j + 1, by omega, rfl, by go_num, Lib.hid (block_below' (grew_alloc _ _) HP.out), Lib.hid (HK.out.grew (grew_alloc _ _))⟩
          · have HW1 := Lib.hid hw1
            have HW2 := Lib.hid hw2
            have he3 := fun w => (eq_AV (andW s.1 p.1) p.1 w).trans (by rw [HW1.out])
            have he4 := fun w => (eq_zero_lit (andW s.1 p.1) w).trans (by rw [HW2.out])
            clear hw1 hw2
            go_wp2_with (first | (refine wpList_alloc_row rfl 26 rfl _ z26 ?_; simp only [Act.put, List.setIfInBounds_toArray, List.set_cons_zero, List.set_cons_succ]) | (refine wpList_store_row rfl 26 _ _ rfl _ rfl _ rfl _ _ (heap_at _ _ _ rfl) (i26 _) (by simp only [AV_size]) (AV_one _) ?_; rw [setRow_alloc _ _ _ _ _ rfl]; simp only [Act.put, List.setIfInBounds_toArray, List.set_cons_zero, List.set_cons_succ]) | (refine wpList_load_row rfl 26 _ rfl _ rfl _ _ _ _ (heap_at _ _ _ rfl) Tryd.underlying26 rfl (i26 _) ?_; simp only [Act.put, List.setIfInBounds_toArray, List.set_cons_zero, List.set_cons_succ]) | (refine wpList_load_row_g (by rfl) 26 _ rfl _ rfl _ _ _ _ (heap_at _ _ _ rfl) Tryd.underlying26 rfl (i26 _) ?_; simp only [Act.put, List.setIfInBounds_toArray, List.set_cons_zero, List.set_cons_succ]) | (refine wpList_load_row rfl 26 _ rfl _ rfl _ _ _ _ ((heap_past _ _ _ (lt_of_block HP.out)).trans HP.out) Tryd.underlying26 rfl (i26 _) ?_; simp only [Act.put, List.setIfInBounds_toArray, List.set_cons_zero, List.set_cons_succ]) | fail)
            clear he3 he4
            go_roundg (S.length - (j + 1))
            case measure => omega
            case rel => exact ⟨j + 1, by omega, rfl, by go_num, Lib.hid (block_below' (grew_alloc _ _) HP.out), Lib.hid (HK.out.grew (grew_alloc _ _))⟩
        · have hj2 : j = S.length := by omega
          clear HP
          go_wp2_with fail
          go_roundg (L.length - (k + 1))
          case measure => omega
          case rel => exact ⟨k + 1, by omega, rfl, by go_num, congrArg (Value.int .i64) HCN.out, HK⟩
    · have hk2 : k = L.length := by omega
      have HU : Hid (cnt (bit (uni L k)) 256 = 256) := Lib.hid (by rw [hk2]; exact uni_full HPR.out)
      have hc256 : (c : Int) = 256 := by have := HC.out; have := HU.out; omega
      have b1 : ((c : Int) == 256) = true := beq_iff_eq.2 hc256
      clear hc256 hk2
      go_wp2_with (first | (refine wpList_load_row_g (by rfl) 26 _ rfl _ rfl _ _ _ _ HK.out.all Tryd.underlying26 rfl (i26 _) ?_; simp only [Act.put, List.setIfInBounds_toArray, List.set_cons_zero, List.set_cons_succ]) | fail)
      refine (len_c (uni L k) (uni_W64 L k) _).mono ?_
      rw [HU.out]
      rintro e w9 ⟨rfl, hb9⟩
      have HK := Lib.hid (HK.out.grew hb9)
      clear hb9
      go_wp2_with fail
      go_ret
      exact ⟨rfl, HK.out.below⟩
end Go.Proofs.YtaagfmpolcpimaaDoor
