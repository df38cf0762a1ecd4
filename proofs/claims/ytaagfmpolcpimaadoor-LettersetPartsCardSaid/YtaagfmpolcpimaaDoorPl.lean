/-
  The parts that Atoms makes are the classes of letters that no set tells apart; sorted by their least letters they are the reference's. Plain, no program in sight. Conditions: words of 64 bits.
-/
import Derived.Test.YtaagfmpolcpimaaDoorAt
namespace Go.Proofs.YtaagfmpolcpimaaDoor
open Go.RowKit
set_option linter.unusedSimpArgs false
set_option linter.unusedVariables false

theorem ctz_bit (x : Nat) (hx : x < 18446744073709551616) (h0 : x ≠ 0) : Lib.ctz 64 x < 64 ∧ x.testBit (Lib.ctz 64 x) = true ∧ ∀ i, i < Lib.ctz 64 x → x.testBit i = false := by
  have e : Lib.ctz 64 x = Lib.ctzFrom 64 x := by unfold Lib.ctz; rw [if_neg h0]
  obtain ⟨m, hm, hl⟩ := Lib.ctzFrom_spec 64 x (Nat.pos_of_ne_zero h0) hx
  rw [e]
  generalize Lib.ctzFrom 64 x = c at hm hl
  refine ⟨hl, ?_, fun i hi => ?_⟩
  · rw [hm, Nat.testBit_two_pow_mul]; simp
  · rw [hm, Nat.testBit_two_pow_mul]; simp; omega
theorem leastF_spec (s : Nat → Nat) (hs : W64 s) : ∀ f k, f + k = 4 → (∀ b, b < 64 * k → bit s b = false) → (leastF s f k = 256 ∧ ∀ b, b < 256 → bit s b = false) ∨ (leastF s f k < 256 ∧ bit s (leastF s f k) = true ∧ ∀ b, b < leastF s f k → bit s b = false)
  | 0, k, h, hb => .inl ⟨rfl, fun b h1 => hb b (by omega)⟩
  | f + 1, k, h, hb => by
    unfold leastF
    by_cases h0 : s k = 0
    · rw [if_neg (by simp [h0])]
      refine leastF_spec s hs f (k + 1) (by omega) fun b h1 => ?_
      by_cases h2 : b < 64 * k
      · exact hb b h2
      · unfold bit; rw [show b / 64 = k by omega, h0]; simp
    · rw [if_pos h0]
      obtain ⟨c1, c2, c3⟩ := ctz_bit (s k) (hs k) h0
      generalize Lib.ctz 64 (s k) = c at c1 c2 c3
      refine .inr ⟨by omega, ?_, fun b h1 => ?_⟩
      · unfold bit; rw [show (64 * k + c) / 64 = k by omega, show (64 * k + c) % 64 = c by omega]; exact c2
      · by_cases h2 : b < 64 * k
        · exact hb b h2
        · unfold bit; rw [show b / 64 = k by omega]; exact c3 _ (by omega)
theorem least_spec {s : Nat → Nat} (hs : W64 s) {b : Nat} (hb : b < 256) (h : bit s b = true) : least s ≤ b ∧ bit s (least s) = true ∧ ∀ c, c < least s → bit s c = false := by
  rcases leastF_spec s hs 4 0 rfl (fun b h => by omega) with ⟨_, h2⟩ | ⟨h1, h2, h3⟩
  · rw [h2 b hb] at h; cases h
  · refine ⟨?_, h2, h3⟩
    rcases Nat.lt_or_ge b (least s) with h4 | h4
    · have := h3 b h4; rw [h] at this; cases this
    · exact h4
theorem cnt_pos {m : Nat → Bool} : ∀ k, 0 < cnt m k ↔ ∃ b, b < k ∧ m b = true
  | 0 => by simp [cnt]
  | k + 1 => by
    have ih := cnt_pos (m := m) k
    constructor
    · intro h
      unfold cnt at h
      cases hb : m k with
      | true => exact ⟨k, by omega, hb⟩
      | false =>
        rw [hb] at h
        obtain ⟨b, h1, h2⟩ := ih.1 (by simpa using h)
        exact ⟨b, by omega, h2⟩
    · rintro ⟨b, h1, h2⟩
      unfold cnt
      by_cases e : b = k
      · rw [← e, h2]; simp
      · have := ih.2 ⟨b, by omega, h2⟩; omega
/-- the sets as truth values -/
def asB (S : List LW) : List (Nat → Bool) := S.map fun s => bit s.1
theorem alike_snoc (M : List (Nat → Bool)) (m : Nat → Bool) (a b : Nat) : alike (M ++ [m]) a b = (alike M a b && (m a == m b)) := by simp [alike]
theorem alike_sym (M : List (Nat → Bool)) (a b : Nat) : alike M a b = alike M b a := by
  unfold alike
  congr 1
  funext m
  cases m a <;> cases m b <;> rfl
/-- what holds of the parts -/
structure Prt (M : List (Nat → Bool)) (L : List LW) : Prop where
  ne : ∀ p ∈ L, ∃ b, b < 256 ∧ bit p.1 b = true
  cls : ∀ p ∈ L, ∀ b c, b < 256 → c < 256 → bit p.1 b = true → bit p.1 c = alike M b c
  cov : ∀ b, b < 256 → ∃ p ∈ L, bit p.1 b = true
  dis : L.Pairwise fun p q => ∀ b, b < 256 → bit p.1 b = true → bit q.1 b = false
theorem mem_pc {p s x : LW} (h : x ∈ pc p s) : (x = mt p s ∨ x = mn p s) ∧ ∃ b, b < 256 ∧ bit x.1 b = true := by
  unfold pc pcTo pcTo pcTo at h
  have e0 : PP p s 0 = mt p s := by unfold PP; rfl
  have e1 : PP p s 1 = mn p s := by unfold PP; rfl
  rw [e0, e1] at h
  simp only [List.nil_append, List.mem_append] at h
  rcases h with h | h
  · split at h
    · rename_i hc
      simp at h; subst h
      exact ⟨.inl rfl, (cnt_pos 256).1 hc⟩
    · simp at h
  · split at h
    · rename_i hc
      simp at h; subst h
      exact ⟨.inr rfl, (cnt_pos 256).1 hc⟩
    · simp at h
theorem pc_mt {p s : LW} {b : Nat} (hb : b < 256) (h : bit (mt p s).1 b = true) : mt p s ∈ pc p s := by
  unfold pc pcTo pcTo pcTo
  have e0 : PP p s 0 = mt p s := by unfold PP; rfl
  rw [e0, if_pos ((cnt_pos 256).2 ⟨b, hb, h⟩)]
  simp
theorem pc_mn {p s : LW} {b : Nat} (hb : b < 256) (h : bit (mn p s).1 b = true) : mn p s ∈ pc p s := by
  unfold pc pcTo pcTo pcTo
  have e1 : PP p s 1 = mn p s := by unfold PP; rfl
  rw [e1, if_pos ((cnt_pos 256).2 ⟨b, hb, h⟩)]
  simp
theorem bit_mt (p s : LW) (b : Nat) : bit (mt p s).1 b = (bit p.1 b && bit s.1 b) := bit_andW _ _ _
theorem bit_mn (p s : LW) (b : Nat) : bit (mn p s).1 b = (bit p.1 b && !bit s.1 b) := bit_subW s.2 _
theorem pc_sub {p s x : LW} (h : x ∈ pc p s) {b : Nat} (hb : bit x.1 b = true) : bit p.1 b = true := by
  rcases (mem_pc h).1 with rfl | rfl
  · rw [bit_mt, Bool.and_eq_true] at hb; exact hb.1
  · rw [bit_mn, Bool.and_eq_true] at hb; exact hb.1
theorem pc_dis (p s : LW) : (pc p s).Pairwise fun x y => ∀ b, b < 256 → bit x.1 b = true → bit y.1 b = false := by
  unfold pc pcTo pcTo pcTo
  have e0 : PP p s 0 = mt p s := by unfold PP; rfl
  have e1 : PP p s 1 = mn p s := by unfold PP; rfl
  rw [e0, e1]
  have key : ∀ b, b < 256 → bit (mt p s).1 b = true → bit (mn p s).1 b = false := by
    intro b _ h
    rw [bit_mt, Bool.and_eq_true] at h
    rw [bit_mn, h.2]; simp
  split <;> split <;> simp
  exact key
theorem prt_stp {M : List (Nat → Bool)} {L : List LW} (h : Prt M L) (s : LW) : Prt (M ++ [bit s.1]) (stp s L) := by
  refine ⟨fun x hx => ?_, fun x hx b c hb hc hxb => ?_, fun b hb => ?_, ?_⟩
  · obtain ⟨p, _, hxp⟩ := List.mem_flatMap.1 hx
    exact (mem_pc hxp).2
  · obtain ⟨p, hp, hxp⟩ := List.mem_flatMap.1 hx
    have hpb := pc_sub hxp hxb
    have hcl := h.cls p hp b c hb hc hpb
    rw [alike_snoc, ← hcl]
    rcases (mem_pc hxp).1 with rfl | rfl
    · rw [bit_mt, Bool.and_eq_true] at hxb
      rw [bit_mt, hxb.2]
      cases bit s.1 c <;> simp
    · rw [bit_mn, Bool.and_eq_true] at hxb
      have : bit s.1 b = false := by simpa using hxb.2
      rw [bit_mn, this]
      cases bit s.1 c <;> simp
  · obtain ⟨p, hp, hpb⟩ := h.cov b hb
    cases hsb : bit s.1 b with
    | true =>
      have : bit (mt p s).1 b = true := by rw [bit_mt, hpb, hsb]; rfl
      exact ⟨_, List.mem_flatMap.2 ⟨p, hp, pc_mt hb this⟩, this⟩
    | false =>
      have : bit (mn p s).1 b = true := by rw [bit_mn, hpb, hsb]; rfl
      exact ⟨_, List.mem_flatMap.2 ⟨p, hp, pc_mn hb this⟩, this⟩
  · unfold stp
    rw [List.pairwise_flatMap]
    refine ⟨fun p _ => pc_dis p s, h.dis.imp fun {p q} hpq x hx y hy b hb hxb => ?_⟩
    have h1 := hpq b hb (pc_sub hx hxb)
    cases hyb : bit y.1 b with
    | false => rfl
    | true => rw [pc_sub hy hyb] at h1; cases h1
theorem prt_parts (S : List LW) : Prt (asB S) (parts S) := by
  have key : ∀ (T : List LW) (M : List (Nat → Bool)) (L : List LW), Prt M L → Prt (M ++ asB T) (T.foldl (fun L s => stp s L) L) := by
    intro T
    induction T with
    | nil => intro M L h; simpa [asB] using h
    | cons s T ih =>
      intro M L h
      have := ih _ _ (prt_stp h s)
      simpa [asB, List.append_assoc] using this
  have h0 : Prt [] [full] := by
    refine ⟨fun p hp => ?_, fun p hp b c hb hc h => ?_, fun b hb => ⟨full, by simp, ?_⟩, List.pairwise_singleton ..⟩
    · simp at hp; subst hp; exact ⟨0, by omega, by unfold full; rw [bit_btw]; rfl⟩
    · simp at hp; subst hp; unfold full; rw [bit_btw]; simp [alike]; omega
    · unfold full; rw [bit_btw]; simp; omega
  have := key S [] [full] h0
  rwa [List.nil_append] at this
theorem prt_len {M : List (Nat → Bool)} {L : List LW} (h : Prt M L) : L.length ≤ 256 ∧ 0 < L.length := by
  constructor
  · have hn : (L.map fun p => least p.1).Nodup := by
      rw [List.nodup_iff_pairwise_ne, List.pairwise_map]
      have hd := h.dis
      refine List.Pairwise.imp_of_mem (R := fun p q => ∀ b, b < 256 → bit p.1 b = true → bit q.1 b = false) (fun {p q} hp hq hpq he => ?_) hd
      obtain ⟨b, hb, hbb⟩ := h.ne p hp
      obtain ⟨c, hc, hcc⟩ := h.ne q hq
      have h1 := least_spec p.2 hb hbb
      have h2 := least_spec q.2 hc hcc
      have := hpq _ (by omega) h1.2.1
      rw [he, h2.2.1] at this
      cases this
    have := (length_le_of (m := 256) hn (fun x hx => by
      obtain ⟨p, hp, rfl⟩ := List.mem_map.1 hx
      obtain ⟨b, hb, hbb⟩ := h.ne p hp
      have := (least_spec p.2 hb hbb).1
      omega)).1
    simpa using this
  · obtain ⟨p, hp, _⟩ := h.cov 0 (by omega)
    exact List.length_pos_of_mem hp
theorem parts_len (S : List LW) (i : Nat) : (parts (S.take i)).length ≤ 256 ∧ 0 < (parts (S.take i)).length := prt_len (prt_parts _)

/-! ### sorted, they are the reference's -/
theorem sorted_ext : ∀ {a b : List Nat}, a.Pairwise (· < ·) → b.Pairwise (· < ·) → (∀ x, x ∈ a ↔ x ∈ b) → a = b
  | [], [], _, _, _ => rfl
  | [], y :: b, _, _, h => by have := (h y).2 (by simp); simp at this
  | x :: a, [], _, _, h => by have := (h x).1 (by simp); simp at this
  | x :: a, y :: b, ha, hb, h => by
    rw [List.pairwise_cons] at ha hb
    have hxy : x = y := by
      rcases List.mem_cons.1 ((h x).1 (by simp)) with e | e
      · exact e
      · rcases List.mem_cons.1 ((h y).2 (by simp)) with e2 | e2
        · exact e2.symm
        · have := ha.1 y e2; have := hb.1 x e; omega
    subst hxy
    congr 1
    refine sorted_ext ha.2 hb.2 fun z => ⟨fun hz => ?_, fun hz => ?_⟩
    · rcases List.mem_cons.1 ((h z).1 (List.mem_cons_of_mem _ hz)) with e | e
      · subst e; have := ha.1 z hz; omega
      · exact e
    · rcases List.mem_cons.1 ((h z).2 (List.mem_cons_of_mem _ hz)) with e | e
      · subst e; have := hb.1 z hz; omega
      · exact e
theorem rAt_eq (M : List (Nat → Bool)) (k : Nat) : rAt M k = ((List.range k).filter (firstB M)).map (alike M) := by
  induction k with
  | zero => rfl
  | succ k ih =>
    rw [rAt, List.range_succ, List.filter_append, List.map_append, ← ih]
    cases h : firstB M k <;> simp [h]
theorem prt_perm {M : List (Nat → Bool)} {L L' : List LW} (h : Prt M L) (hp : L'.Perm L) : Prt M L' := by
  refine ⟨fun p hp' => h.ne p (hp.mem_iff.1 hp'), fun p hp' => h.cls p (hp.mem_iff.1 hp'), fun b hb => ?_, ?_⟩
  · obtain ⟨p, h1, h2⟩ := h.cov b hb
    exact ⟨p, hp.mem_iff.2 h1, h2⟩
  · refine hp.symm.pairwise h.dis fun {x y} hxy b hb hy => ?_
    cases hx : bit x.1 b with
    | false => rfl
    | true => rw [hxy b hb hx] at hy; cases hy
/-- the sorted parts, one by one the reference's classes -/
theorem sorted_is {M : List (Nat → Bool)} {L : List LW} (h : Prt M L) (hs : ∀ (i j : Nat) (x y : LW), i < j → L[i]? = some x → L[j]? = some y → least x.1 ≤ least y.1) :
    L.length = (rAt M 256).length ∧ ∀ (i : Nat) (x : LW) (m : Nat → Bool), L[i]? = some x → (rAt M 256)[i]? = some m → ∀ c, c < 256 → bit x.1 c = m c := by
  have hlt : ∀ p ∈ L, least p.1 < 256 ∧ bit p.1 (least p.1) = true ∧ ∀ c, c < least p.1 → bit p.1 c = false := fun p hp => by
    obtain ⟨b, hb, hbb⟩ := h.ne p hp
    have := least_spec p.2 hb hbb
    exact ⟨by omega, this.2⟩
  have hinc : (L.map fun p => least p.1).Pairwise (· < ·) := by
    rw [List.pairwise_iff_getElem]
    intro i j hi hj hij
    simp only [List.getElem_map]
    have hi' : i < L.length := by simpa using hi
    have hj' : j < L.length := by simpa using hj
    have h1 := hs i j L[i] L[j] hij (List.getElem?_eq_getElem hi') (List.getElem?_eq_getElem hj')
    have h2 := (List.pairwise_iff_getElem.1 h.dis) i j hi' hj' hij
    have h3 := hlt L[i] (List.getElem_mem hi')
    have h4 := hlt L[j] (List.getElem_mem hj')
    rcases Nat.lt_or_ge (least L[i].1) (least L[j].1) with h5 | h5
    · exact h5
    · have e : least L[i].1 = least L[j].1 := by omega
      have := h2 _ h3.1 h3.2.1
      rw [e, h4.2.1] at this
      cases this
  have heq : (L.map fun p => least p.1) = (List.range 256).filter (firstB M) := by
    refine sorted_ext hinc (List.Pairwise.filter _ List.pairwise_lt_range) fun b => ?_
    rw [List.mem_filter, List.mem_range, List.mem_map]
    constructor
    · rintro ⟨p, hp, rfl⟩
      have h3 := hlt p hp
      refine ⟨h3.1, firstB_yes fun j hj => ?_⟩
      have := h3.2.2 j hj
      rw [h.cls p hp _ j h3.1 (by omega) h3.2.1, alike_sym] at this
      exact this
    · rintro ⟨hb, hf⟩
      obtain ⟨p, hp, hpb⟩ := h.cov b hb
      have h3 := hlt p hp
      have h4 := (least_spec p.2 hb hpb).1
      refine ⟨p, hp, ?_⟩
      rcases Nat.lt_or_ge (least p.1) b with h5 | h5
      · have h6 : alike M (least p.1) b = true := by
          rw [← h.cls p hp _ b h3.1 hb h3.2.1]; exact hpb
        rw [firstB_no h5 h6] at hf; cases hf
      · omega
  have hlen : L.length = (rAt M 256).length := by rw [rAt_eq, ← heq]; simp
  refine ⟨hlen, fun i x m hx hm c hc => ?_⟩
  rw [rAt_eq, ← heq, List.map_map, List.getElem?_map, hx] at hm
  simp at hm
  subst hm
  have hxm := List.mem_of_getElem? hx
  have h3 := hlt x hxm
  exact h.cls x hxm _ c h3.1 hc h3.2.1
end Go.Proofs.YtaagfmpolcpimaaDoor
