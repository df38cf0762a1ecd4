/-
  Part 4 of the texts behind the statements of this seat: walks and laws Tm, Tn, Tq, Tr, Rv, Ts, Pq, Pr, Tt, Ru, Pv, Tu, Ua. Conditions: as each states.
-/
import Derived.Test.YtijnhpaafhcndaaBa3
import Derived.Deep.LoopGhost
import Derived.Ground.SlgnProg
import Derived.Shelf.SlicesQ.Reverse
section
namespace Go.Proofs.Ytijnhpaafhcndaa
open Go.RowKit Go.Maps
attribute [local go_sem] InGr
set_option maxHeartbeats 2000000
set_option maxRecDepth 100000
set_option linter.unusedSimpArgs false
set_option linter.unusedVariables false
def refsOf (x : En) : List Nat := if x.r.kind = 2 then [x.r.left, x.r.right] else if x.r.kind = 3 then [x.r.left] else []
theorem encI_one' (x : Nat) : ∀ u ∈ encI x, u.oneCell' = true := encI_one x
def RefsPost (l : List Nat) (w : World) (e : Ending) (w' : World) : Prop := ∃ v, e = .returned v ∧ St w [] [rowsA encI 32 1 v l] w'
theorem refs_pair (L R : Nat) (w : World) : Calls Try.prog 99 #[.agg #[.int .i64 (2 : Nat), .int .u8 (0 : Nat), .int .i64 L, .int .i64 R, .int .i64 (0 : Nat)]] w (RefsPost [L, R] w) := by
  have H := St.nil w []
  go_enter Try.func99, Try.ntmps99
  go_wp2_with (first | refine sL ?_ | (refine sB ?_; clear H; intro _ _ H) | ((with_reducible refine isSlice ?_); refine AtSlice.two encI H rfl rfl rfl rfl rfl rfl rfl rfl L R rfl rfl encI_len ?_; clear H; intro b _ H; simp only [Act.put, puA, puB, puC]))
  go_ret
  refine ⟨_, rfl, ?_⟩
  refine (H.conv (A' := rowsA encI 32 1 (.slice (some ⟨_, 0, none⟩) 2 2) [L, R]) (by rw [rowsA_fp', blk_fp]; rfl) fun hb => ?_).onlyHead
  rw [blk_ho] at hb
  exact rowsA_of_blk (xs := [L, R]) hb (by simp [maxLen]) rfl encI_len
theorem refs_power (L k : Nat) (w : World) : Calls Try.prog 99 #[.agg #[.int .i64 (3 : Nat), .int .u8 (0 : Nat), .int .i64 L, .int .i64 (0 : Nat), .int .i64 k]] w (RefsPost [L] w) := by
  have H := St.nil w []
  go_enter Try.func99, Try.ntmps99
  go_wp2_with (first | refine sL ?_ | (refine sB ?_; clear H; intro _ _ H) | ((with_reducible refine isSlice ?_); refine AtSlice.one H rfl rfl rfl rfl rfl rfl rfl rfl rfl ?_; clear H; intro b _ H; simp only [Act.put, puA, puB, puC]))
  go_ret
  refine ⟨_, rfl, ?_⟩
  refine (H.conv (A' := rowsA encI 32 1 (.slice (some ⟨_, 0, none⟩) 1 1) [L]) (by rw [rowsA_fp', blk_fp]; rfl) fun hb => ?_).onlyHead
  rw [blk_ho] at hb
  exact rowsA_of_blk (xs := [L]) hb (by simp [maxLen]) rfl encI_len
theorem refs_letter (b : Nat) (w : World) : Calls Try.prog 99 #[.agg #[.int .i64 (1 : Nat), .int .u8 b, .int .i64 (0 : Nat), .int .i64 (0 : Nat), .int .i64 (0 : Nat)]] w (RefsPost [] w) := by
  have H := St.nil w []
  go_enter Try.func99, Try.ntmps99
  go_wp2_with (first | refine sL ?_ | (refine sB ?_; clear H; intro _ _ H))
  go_ret
  exact ⟨_, rfl, (H.empty (A := rowsA encI 32 1 (.slice none 0 0) []) (rowsA_nil _) (by rw [rowsA_fp']; rfl)).onlyHead⟩
theorem refs_c {L : List En} {i : Nat} {x : En} (h : EnOk L i x) (w : World) : Calls Try.prog 99 #[.agg #[.int .i64 x.r.kind, .int .u8 x.r.letter, .int .i64 x.r.left, .int .i64 x.r.right, .int .i64 x.r.times]] w (RefsPost (refsOf x) w) := by
  cases h with
  | letter b hb => exact refs_letter b w
  | pair l r x y hl hr hx hy h => exact refs_pair (l + 1) (r + 1) w
  | power l k x hl hx hk h => exact refs_power (l + 1) k w
theorem refs_lt {L : List En} {i : Nat} {x : En} (h : EnOk L i x) : ∀ r ∈ refsOf x, 1 ≤ r ∧ r < i + 1 := by
  intro r hr
  cases h with
  | letter b hb => simp [refsOf, letterE] at hr
  | pair l r' x y hl hr' hx hy h => simp [refsOf, pairE] at hr; omega
  | power l k x hl hx hk h => simp [refsOf, powerE] at hr; omega
theorem refs_two (x : En) : (refsOf x).length ≤ 2 := by
  unfold refsOf
  split
  · simp
  · split <;> simp
theorem entry_c {S : Sto} {T : Tab} {i : Nat} {x : En} (hS : S.Ok) (hT : TabOk S T) (hx : S.list[i]? = some x) (hr : ∀ r ∈ refsOf x, T.Known r) (w : World) (h : (tabA T).ho w) :
    Calls Try.prog 100 #[.pointer (some ⟨T.p, 0, none⟩), .agg #[.int .i64 x.r.kind, .int .u8 x.r.letter, .int .i64 x.r.left, .int .i64 x.r.right, .int .i64 x.r.times]] w (EntPost S T i x w) := by
  have hi := getElem_len hx
  have h1 := hS.len
  have h2 := hS.most
  cases hS.ents i x hx with
  | letter b hb => exact entry_letter hT hx hb w h
  | pair l r y z hl hr' hy hz hlen =>
    obtain ⟨e1, he1⟩ := hr (l + 1) (by simp [refsOf, pairE])
    obtain ⟨e2, he2⟩ := hr (r + 1) (by simp [refsOf, pairE])
    obtain ⟨i1, x1, ei1, _, a1⟩ := hT.ents _ he1
    obtain ⟨i2, x2, ei2, _, a2⟩ := hT.ents _ he2
    simp only [Nat.add_right_cancel_iff] at ei1 ei2
    subst ei1 ei2
    exact entry_pair hS hT hx (S.txt_pair hl hr' hx) (by omega) (by omega) (by omega) (by omega) he1 he2 a1.eff a2.eff w h
  | power l k y hl hy hk hlen =>
    obtain ⟨e1, he1⟩ := hr (l + 1) (by simp [refsOf, powerE])
    obtain ⟨i1, x1, ei1, _, a1⟩ := hT.ents _ he1
    simp only [Nat.add_right_cancel_iff] at ei1
    subst ei1
    have hpos := (hS.good l y hy).pos
    have hkm : k ≤ y.w.len * k := Nat.le_mul_of_pos_left k hpos
    exact entry_power hS hT hx (S.txt_power hl hx) (by omega) (by omega) hk (by omega) he1 a1.eff w h
def Tab.Ext (T T' : Tab) : Prop := ∃ P es, T' = { T with P := T.P ++ P, es := T.es ++ es }
theorem Tab.Ext.refl (T : Tab) : T.Ext T := ⟨[], [], by simp⟩
theorem Tab.Ext.trans {T T' T'' : Tab} (h : T.Ext T') (h' : T'.Ext T'') : T.Ext T'' := by
  obtain ⟨P, es, rfl⟩ := h
  obtain ⟨P', es', rfl⟩ := h'
  exact ⟨P ++ P', es ++ es', by simp⟩
theorem Tab.Ext.known {T T' : Tab} (h : T.Ext T') {i : Nat} (hk : T.Known i) : T'.Known i := by
  obtain ⟨P, es, rfl⟩ := h
  obtain ⟨v, hv⟩ := hk
  exact ⟨v, List.mem_append.2 (.inl hv)⟩
def Tab.more (T : Tab) (P : PoolT) (i : Nat) (e : Value × Value × Value) : Tab := { T with P := T.P ++ P, es := T.es ++ [(i, e)] }
theorem Tab.more_ext (T : Tab) (P : PoolT) (i : Nat) (e : Value × Value × Value) : T.Ext (T.more P i e) := ⟨P, [(i, e)], rfl⟩
theorem Tab.more_known {T : Tab} {P : PoolT} {i j : Nat} {e : Value × Value × Value} : (T.more P i e).Known j ↔ T.Known j ∨ j = i := by
  constructor
  · rintro ⟨v, hv⟩
    rcases List.mem_append.1 hv with h | h
    · exact .inl ⟨v, h⟩
    · simp at h; exact .inr h.1
  · rintro (⟨v, hv⟩ | rfl)
    · exact ⟨v, List.mem_append.2 (.inl hv)⟩
    · exact ⟨e, List.mem_append.2 (.inr (by simp))⟩
theorem kind_refs {x : En} : (x.r.kind = 2 → x.r.left ∈ refsOf x ∧ x.r.right ∈ refsOf x) ∧ (x.r.kind = 3 → x.r.left ∈ refsOf x) := by
  unfold refsOf
  refine ⟨fun h => by rw [if_pos h]; simp, fun h => by rw [if_neg (by omega), if_pos h]; simp⟩
theorem TabOk.more {S : Sto} {T : Tab} (hT : TabOk S T) {i : Nat} {x : En} (hx : S.list[i]? = some x) (hr : ∀ r ∈ refsOf x, T.Known r) (hn : ¬ T.Known (i + 1)) {P : PoolT} {ev hv cv : Value} (he : EntAt (T.P ++ P) T.mc T.back S i x ev hv cv) : TabOk S (T.more P (i + 1) (ev, hv, cv)) := by
  have hs : ∀ x ∈ T.P, x ∈ T.P ++ P := fun x hx => List.mem_append.2 (.inl hx)
  refine ⟨hT.ok, hT.mac.mono hs, hT.hits.mono hs, fun e hm => ?_, fun j y hj hy => ?_, fun j v v' h1 h2 => ?_⟩
  · rcases List.mem_append.1 hm with hm | hm
    · obtain ⟨j, y, h1, h2, h3⟩ := hT.ents e hm
      exact ⟨j, y, h1, h2, h3.mono hs⟩
    · simp only [List.mem_singleton] at hm
      subst hm
      exact ⟨i, x, rfl, hx, he⟩
  · rcases Tab.more_known.1 hj with hj | hj
    · obtain ⟨h1, h2⟩ := hT.closed j y hj hy
      exact ⟨fun h => ⟨(Tab.more_ext ..).known (h1 h).1, (Tab.more_ext ..).known (h1 h).2⟩, fun h => (Tab.more_ext ..).known (h2 h)⟩
    · simp only [Nat.add_right_cancel_iff] at hj
      subst hj
      rw [hx] at hy
      obtain rfl := Option.some.inj hy
      obtain ⟨k1, k2⟩ := kind_refs (x := x)
      exact ⟨fun h => ⟨(Tab.more_ext ..).known (hr _ (k1 h).1), (Tab.more_ext ..).known (hr _ (k1 h).2)⟩, fun h => (Tab.more_ext ..).known (hr _ (k2 h))⟩
  · rcases List.mem_append.1 h1 with h1 | h1 <;> rcases List.mem_append.1 h2 with h2 | h2
    · exact hT.uniq j v v' h1 h2
    · simp only [List.mem_singleton, Prod.mk.injEq] at h2
      obtain ⟨rfl, _⟩ := h2
      exact absurd ⟨v, h1⟩ hn
    · simp only [List.mem_singleton, Prod.mk.injEq] at h1
      obtain ⟨rfl, _⟩ := h1
      exact absurd ⟨v', h2⟩ hn
    · simp only [List.mem_singleton, Prod.mk.injEq] at h1 h2
      rw [h1.2, h2.2]
theorem TabOk.shape {S : Sto} {T : Tab} (hT : TabOk S T) {i : Nat} {e : Value × Value × Value} (he : (i, e) ∈ T.es) : ∃ a1 n1 c1 a2 n2 c2 a3 n3 c3, e = (.slice a1 n1 c1, .slice a2 n2 c2, .slice a3 n3 c3) := by
  obtain ⟨j, x, _, _, h⟩ := hT.ents _ he
  obtain ⟨a1, c1, e1, _⟩ := h.eff.1.shape
  obtain ⟨a2, c2, e2, _⟩ := h.eff.2.shape
  obtain ⟨ev, hv, cv⟩ := e
  simp only at e1 e2
  by_cases hk : x.r.kind = 3
  · obtain ⟨cps, h1, _⟩ := h.copies hk
    obtain ⟨a3, c3, e3, _⟩ := h1.shape
    simp only at e3
    exact ⟨_, _, _, _, _, _, _, _, _, by rw [e1, e2, e3]⟩
  · have e3 := h.plain hk
    simp only at e3
    exact ⟨_, _, _, _, _, _, _, _, _, by rw [e1, e2, e3]⟩
structure Stk (S : Sto) (K : Nat → Prop) (st : List (Nat × Bool)) : Prop where
  ids : ∀ (j : Nat) (p : Nat × Bool), st[j]? = some p → 1 ≤ p.1 ∧ p.1 ≤ S.list.length ∧ j + 2 * p.1 ≤ 2 * S.list.length
  opened : ∀ (j i : Nat) (x : En), st[j]? = some (i + 1, true) → S.list[i]? = some x → ∀ r ∈ refsOf x, K r ∨ ∃ (j' : Nat) (b : Bool), j < j' ∧ st[j']? = some (r, b)
def costS (st : List (Nat × Bool)) : Nat := (st.map fun p => if p.2 then 1 else 3 ^ (p.1 + 1)).sum
theorem costS_snoc (st : List (Nat × Bool)) (p : Nat × Bool) : costS (st ++ [p]) = costS st + if p.2 then 1 else 3 ^ (p.1 + 1) := by simp [costS]
theorem costS_app (a b : List (Nat × Bool)) : costS (a ++ b) = costS a + costS b := by simp [costS]
theorem Stk.len {S : Sto} {K : Nat → Prop} {st : List (Nat × Bool)} (h : Stk S K st) : st.length ≤ 2 * S.list.length := by
  rcases Nat.lt_or_ge (2 * S.list.length) st.length with h1 | h1
  · have hj : st[2 * S.list.length]? = some st[2 * S.list.length] := by simp
    have := h.ids _ _ hj
    omega
  · exact h1
theorem Stk.pop {S : Sto} {K K' : Nat → Prop} {st : List (Nat × Bool)} {p : Nat × Bool} (h : Stk S K (st ++ [p])) (hK : ∀ i, K i → K' i) (hp : K' p.1) : Stk S K' st := by
  refine ⟨fun j q hq => ?_, fun j i x hj hx r hr => ?_⟩
  · have hl := getElem_len hq
    exact h.ids j q (by rw [List.getElem?_append_left hl]; exact hq)
  · have hl := getElem_len hj
    rcases h.opened j i x (by rw [List.getElem?_append_left hl]; exact hj) hx r hr with hk | ⟨j', b, hjj, hj'⟩
    · exact .inl (hK r hk)
    · rw [List.getElem?_append] at hj'
      split at hj'
      · exact .inr ⟨j', b, hjj, hj'⟩
      · have hl' := getElem_len hj'
        simp at hl'
        rw [show j' - st.length = 0 by omega] at hj'
        simp at hj'
        left
        rw [hj'] at hp
        exact hp
theorem Stk.top_open {S : Sto} {K : Nat → Prop} {st : List (Nat × Bool)} {i : Nat} {x : En} (h : Stk S K (st ++ [(i + 1, true)])) (hx : S.list[i]? = some x) : ∀ r ∈ refsOf x, K r := by
  intro r hr
  rcases h.opened st.length i x (by simp) hx r hr with hk | ⟨j', b, hjj, hj'⟩
  · exact hk
  · have := getElem_len hj'
    simp at this
    omega
theorem Stk.push {S : Sto} {K : Nat → Prop} {st : List (Nat × Bool)} {i : Nat} {x : En} {new : List Nat} {b : Bool} (hS : S.Ok) (h : Stk S K (st ++ [(i + 1, b)])) (hx : S.list[i]? = some x) (hn : ∀ r ∈ new, r ∈ refsOf x) (hl : new.length ≤ 2) (ha : ∀ r ∈ refsOf x, K r ∨ r ∈ new) :
    Stk S K (st ++ [(i + 1, true)] ++ new.map fun r => (r, false)) := by
  have htop := h.ids st.length (i + 1, b) (by simp)
  have hlen : (st ++ [(i + 1, true)]).length = st.length + 1 := by simp
  refine ⟨fun j p hp => ?_, fun j i' x' hj hx' r hr => ?_⟩
  · rw [List.getElem?_append] at hp
    split at hp
    · rename_i hlt
      rw [List.getElem?_append] at hp
      split at hp
      · rename_i hlt2
        exact h.ids j p (by rw [List.getElem?_append_left hlt2]; exact hp)
      · have hl2 := getElem_len hp
        simp at hl2
        obtain rfl : j = st.length := by omega
        simp at hp
        subst hp
        exact htop
    · have hl2 := getElem_len hp
      simp only [List.length_map] at hl2
      rw [hlen] at hl2 hp
      rw [List.getElem?_map] at hp
      cases hr : new[j - (st.length + 1)]? with
      | none => rw [hr] at hp; simp at hp
      | some r =>
        rw [hr] at hp
        simp at hp
        subst hp
        have := refs_lt (hS.ents i x hx) r (hn r (List.mem_of_getElem? hr))
        simp only at htop ⊢
        omega
  · have hlow : j < st.length + 1 := by
      rcases Nat.lt_or_ge j (st.length + 1) with h1 | h1
      · exact h1
      · rw [List.getElem?_append_right (by rw [hlen]; exact h1), List.getElem?_map] at hj
        cases hr : new[j - (st ++ [(i + 1, true)]).length]? <;> rw [hr] at hj <;> simp at hj
    rw [List.getElem?_append_left (by rw [hlen]; exact hlow), List.getElem?_append] at hj
    split at hj
    · rename_i hlt2
      rcases h.opened j i' x' (by rw [List.getElem?_append_left hlt2]; exact hj) hx' r hr with hk | ⟨j', b', hjj, hj'⟩
      · exact .inl hk
      · rw [List.getElem?_append] at hj'
        split at hj'
        · rename_i hlt3
          exact .inr ⟨j', b', hjj, by rw [List.append_assoc, List.getElem?_append_left hlt3]; exact hj'⟩
        · have hl2 := getElem_len hj'
          simp at hl2
          rw [show j' - st.length = 0 by omega] at hj'
          simp at hj'
          refine .inr ⟨j', true, hjj, ?_⟩
          rw [List.append_assoc, List.getElem?_append_right (by omega), show j' - st.length = 0 by omega]
          simp [hj'.1]
    · have hl2 := getElem_len hj
      simp at hl2
      obtain rfl : j = st.length := by omega
      simp at hj
      subst hj
      rw [hx] at hx'
      obtain rfl := Option.some.inj hx'
      rcases ha r hr with hk | hk
      · exact .inl hk
      · obtain ⟨k, hk'⟩ := List.getElem?_of_mem hk
        exact .inr ⟨st.length + 1 + k, false, by omega, by rw [List.getElem?_append_right (by rw [hlen]; omega), hlen, show st.length + 1 + k - (st.length + 1) = k by omega, List.getElem?_map, hk']; rfl⟩
theorem costS_push {S : Sto} {st : List (Nat × Bool)} {i : Nat} {x : En} {new : List Nat} (hS : S.Ok) (hx : S.list[i]? = some x) (hn : ∀ r ∈ new, r ∈ refsOf x) (hl : new.length ≤ 2) : costS (st ++ [(i + 1, true)] ++ new.map fun r => (r, false)) < costS (st ++ [(i + 1, false)]) := by
  rw [costS_app, costS_snoc, costS_snoc]
  have hb : ∀ r ∈ new, 3 ^ (r + 1) ≤ 3 ^ (i + 1) := fun r hr => Nat.pow_le_pow_right (by omega) (by have := refs_lt (hS.ents i x hx) r (hn r hr); omega)
  have hp : 3 ^ (i + 1 + 1) = 3 * 3 ^ (i + 1) := by rw [Nat.pow_succ]; omega
  have hpos : 0 < 3 ^ (i + 1) := Nat.pow_pos (by omega)
  have h3 : 3 ^ (i + 1) = 3 * 3 ^ i := by rw [Nat.pow_succ]; omega
  have hpos2 : 0 < 3 ^ i := Nat.pow_pos (by omega)
  have hsum : costS (new.map fun r => (r, false)) ≤ 2 * 3 ^ (i + 1) := by
    match new, hl, hb with
    | [], _, _ => simp [costS]
    | [a], _, hb => have := hb a (by simp); simp [costS]; omega
    | [a, b], _, hb => have := hb a (by simp); have := hb b (by simp); simp [costS]; omega
    | _ :: _ :: _ :: _, hl, _ => simp at hl
  simp only [if_true, Bool.false_eq_true, if_false, hp]
  omega
end Go.Proofs.Ytijnhpaafhcndaa
end
section
namespace Go.Proofs.Ytijnhpaafhcndaa
open Go.RowKit Go.Maps
attribute [local go_sem] InGr
set_option maxHeartbeats 4000000
set_option maxRecDepth 100000
set_option linter.unusedSimpArgs false
set_option linter.unusedVariables false
theorem rowsA_cut {α : Type} {enc : α → List Value} {e k g n c : Nat} {xs : List α} {x : α} {w : World} (hk : ∀ x, (enc x).length = k) (hn : xs.length = n) (h : (rowsA enc e k (.slice (some ⟨g, 0, none⟩) (n + 1) c) (xs ++ [x])).ho w) : (rowsA enc e k (.slice (some ⟨g, 0, none⟩) n c) xs).ho w := by
  rw [rowsA_ho] at h ⊢
  obtain ⟨h1, h2⟩ := h
  rcases h2 with ⟨h', _⟩ | ⟨g', cap, cur, h', h3, h4, h5, h6, h7, h8⟩
  · cases h'
  · injection h' with e1 e2 e3
    injection e1 with e1
    injection e1 with e1
    subst e1 e3
    subst hn
    refine ⟨flatG_len enc k hk xs, .inr ⟨g, c, cur, rfl, h3, h4, by simp at h5; omega, h6, h7, ?_⟩⟩
    have : flatG enc (xs ++ [x]) = flatG enc xs ++ enc x := flatG_snoc enc xs x
    rw [this] at h8
    have h9 := congrArg (List.take (xs.length * k)) h8
    rw [List.take_take, List.take_left' (flatG_len enc k hk xs)] at h9
    rw [← h9, Nat.min_eq_left]
    exact Nat.mul_le_mul_right _ (by simp)
theorem St.cut {α : Type} {enc : α → List Value} {e k g n c : Nat} {xs : List α} {x : α} {w0 w : World} {M : List Nat} {R : List As} (h : St w0 M (rowsA enc e k (.slice (some ⟨g, 0, none⟩) (n + 1) c) (xs ++ [x]) :: R) w) (hk : ∀ x, (enc x).length = k) (hn : xs.length = n) : St w0 M (rowsA enc e k (.slice (some ⟨g, 0, none⟩) n c) xs :: R) w :=
  h.conv (by rw [rowsA_fp', rowsA_fp']; rfl) (rowsA_cut hk hn)
theorem Tab.Ext.same {T T' : Tab} (h : T.Ext T') : T'.p = T.p ∧ T'.s = T.s ∧ T'.km = T.km ∧ tabCells T' = tabCells T ∧ T'.mc = T.mc ∧ T'.back = T.back := by
  obtain ⟨P, es, rfl⟩ := h
  exact ⟨rfl, rfl, rfl, rfl, rfl, rfl⟩
theorem tabA_shut_of {T T' : Tab} {cs : Array Value} {w0 w : World} {M : List Nat} {L R1 R2 R3 : List As} (hext : T.Ext T') (hc : tabCells T = cs) (h : St w0 M L w) (p1 : Pick L (blk T.p (.cells cs 125)) R1) (p2 : Pick R1 (poolA T'.P) R2) (p3 : Pick R2 (mapA Try.prog 32 T.km (T'.es.map entV)) R3) : St w0 M (tabA T' :: R3) w := by
  obtain ⟨q1, q2, q3, q4, q5, q6⟩ := hext.same
  refine tabA_shut ?_
  rw [q1, q3, q4, hc]
  exact h.pick3 p1 p2 p3
def LRel (S : Sto) (T : Tab) (M : List Nat) (w : World) (id : Nat) (k : Nat) (v5 : Value) (wr : World) : Prop :=
  ∃ (T' : Tab) (stk : List (Nat × Bool)), T.Ext T' ∧ TabOk S T' ∧ Stk S T'.Known stk ∧ costS stk = k ∧ (T'.Known id ∨ ∃ b, (id, b) ∈ stk) ∧ St w M [rowsA encI 32 1 v5 (stk.map (·.1)), tabA T'] wr
open Classical in
noncomputable def newOf (T : Tab) (l : List Nat) : List Nat := l.filter fun r => decide (¬ T.Known r)
theorem newOf_known {T : Tab} {l : List Nat} {r : Nat} (h : T.Known r) : newOf T (l ++ [r]) = newOf T l := by
  classical
  unfold newOf
  rw [List.filter_append]
  simp [h]
theorem newOf_unknown {T : Tab} {l : List Nat} {r : Nat} (h : ¬ T.Known r) : newOf T (l ++ [r]) = newOf T l ++ [r] := by
  classical
  unfold newOf
  rw [List.filter_append]
  simp [h]
theorem newOf_sub {T : Tab} {l : List Nat} : ∀ r ∈ newOf T l, r ∈ l := by
  classical
  intro r hr
  exact (List.mem_filter.1 hr).1
theorem newOf_all {T : Tab} {l : List Nat} : ∀ r ∈ l, T.Known r ∨ r ∈ newOf T l := by
  classical
  intro r hr
  by_cases h : T.Known r
  · exact .inl h
  · exact .inr (List.mem_filter.2 ⟨hr, by simpa using h⟩)
theorem newOf_un {T : Tab} {l : List Nat} : ∀ r ∈ newOf T l, ¬ T.Known r := by
  classical
  intro r hr
  simpa using (List.mem_filter.1 hr).2
theorem newOf_len (T : Tab) (l : List Nat) : (newOf T l).length ≤ l.length := by
  classical
  exact List.length_filter_le _ _
def LRel2 (T T' : Tab) (M : List Nat) (w : World) (ids refs : List Nat) (rv : Value) (cs rc : Array Value) (b9 : Nat) (v5 v11 v59 : Value) (wr : World) : Prop :=
  ∃ (j : Nat) (ad : Option Addr) (c : Nat), v59 = .int .i64 j ∧ j ≤ refs.length ∧ v11 = .bool (decide (newOf T' (refs.take j) = [])) ∧ v5 = .slice ad (ids.length + (newOf T' (refs.take j)).length) c ∧
    St w M [rowsA encI 32 1 v5 (ids ++ newOf T' (refs.take j)), blk T.p (.cells cs 125), poolA T'.P, mapA Try.prog 32 T.km (T'.es.map entV), rowsA encI 32 1 rv refs, blk b9 (.cells rc 100)] wr
theorem St.take_pool {w0 w : World} {M : List Nat} {L : List As} {P : PoolT} {n0 : Nat} (H : St w0 M L w) (h0 : w0.heap.size ≤ n0) (hp : (poolA P).ho w) (hn : ∀ b ∈ (poolA P).fp, n0 ≤ b) (hL : ∀ A ∈ L, ∀ b ∈ A.fp, b < n0) : St w0 M (poolA P :: L) w :=
  ⟨H.os, H.tape, H.output, H.size, H.keep, fun A hA => by
    rcases List.mem_cons.1 hA with rfl | hA
    · exact hp
    · exact H.ho A hA, fun A hA c hc => by
    rcases List.mem_cons.1 hA with rfl | hA
    · exact .inl (Nat.le_trans h0 (hn c hc))
    · exact H.own A hA c hc, List.pairwise_cons.2 ⟨fun A hA c hc h => by have h1 := hn c hc; have h2 := hL A hA c h; omega, H.dis⟩⟩
def IsEnt (S : Sto) (T : Tab) (i : Nat) (x : En) (n0 : Nat) (v : Value) (w : World) : Prop :=
  ∃ a1 n1 c1 a2 n2 c2 a3 n3 c3 P, v = .agg #[.slice a1 n1 c1, .slice a2 n2 c2, .slice a3 n3 c3] ∧ EntAt (T.P ++ P) T.mc T.back S i x (.slice a1 n1 c1) (.slice a2 n2 c2) (.slice a3 n3 c3) ∧ (poolA P).ho w ∧ ∀ b ∈ (poolA P).fp, n0 ≤ b
theorem IsEnt.stable (S : Sto) (T : Tab) (i : Nat) (x : En) (n0 : Nat) : ∀ v w w', Grew w w' → IsEnt S T i x n0 v w → IsEnt S T i x n0 v w' := fun v w w' hg ⟨a1, n1, c1, a2, n2, c2, a3, n3, c3, P, h1, h2, h3, h4⟩ =>
  ⟨a1, n1, c1, a2, n2, c2, a3, n3, c3, P, h1, h2, (poolA P).loc w w' (fun b hb => hg.block b ((poolA P).lt w h3 b hb)) h3, h4⟩
theorem EntAt.shape {P : PoolT} {m : Mc} {b : Bool} {S : Sto} {i : Nat} {x : En} {ev hv cv : Value} (h : EntAt P m b S i x ev hv cv) : ∃ a1 n1 c1 a2 n2 c2 a3 n3 c3, ev = .slice a1 n1 c1 ∧ hv = .slice a2 n2 c2 ∧ cv = .slice a3 n3 c3 := by
  obtain ⟨a1, c1, e1, _⟩ := h.eff.1.shape
  obtain ⟨a2, c2, e2, _⟩ := h.eff.2.shape
  by_cases hk : x.r.kind = 3
  · obtain ⟨cps, h1, _⟩ := h.copies hk
    obtain ⟨a3, c3, e3, _⟩ := h1.shape
    exact ⟨_, _, _, _, _, _, _, _, _, e1, e2, e3⟩
  · exact ⟨_, _, _, _, _, _, _, _, _, e1, e2, h.plain hk⟩
section
variable {ops : Array Oper} {a : Act} {w w' : World} {o : Oper} {Rr : Value → World → Prop}
theorem OneStep.wholeT {ty : TypeId} {x : Operand} (hw : Region.wanted o (yielded ops a.tmps) = true) (ho : o.op = .load ty x) {g : Nat} (hx : a.eval x = .pointer (some ⟨g, 0, none⟩)) {cs : Array Value} {t : TypeId} {fr : Nat × Nat} (hg : w.heap[g]? = some (.cells cs t fr))
    (hr : isRowT ty cs.size = true) (h : Rr (.agg cs) w) : OneStep Try.prog ops o a w Rr false :=
  OneStep.val hw (by
    have := run_load_row (w := w) (isRowT_ok hr) hg (o := 0) (vs := cs.toList) (by simp only [List.drop_zero]; exact List.take_of_length_le (by simp)) (by simp)
    unfold execOp
    simp only [ho, hx, Sem.run_bind, this, Result.andThen_ok]
    rfl) (Below.refl _ _) h
theorem OneStep.call2 {P : Program} {f : FuncId} {x y : Operand} {ts : Array TypeId} {v1 v2 : Value} {fn : Func} (hf : P.funcs[f]? = some fn) (hok : (fn.name != "runtime.NumGoroutine" && fn.body.isSome) = true) (hw : Region.wanted o (yielded ops a.tmps) = true) (ho : o.op = .call ⟨.value (.func f), #[x, y], ts⟩) (hx : evalO a x = some v1) (hy : evalO a y = some v2)
    (hc : Calls P f #[v1, v2] w fun e w' => ∃ v, e = .returned v ∧ Grew w w' ∧ Rr v w') : OneStep P ops o a w Rr false := by
  unfold OneStep
  rw [if_pos hw]
  unfold growAt
  rw [exec_call hf hok ho]
  refine ⟨Below.refl _ _, ?_⟩
  have e : (#[x, y].map a.eval) = #[v1, v2] := by simp [evalO_eq hx, evalO_eq hy]
  rw [e]
  refine hc.mono ?_
  rintro e w' ⟨v, rfl, hg, hR⟩
  exact ⟨v, rfl, hg, hR, fun h => by cases h⟩
end
def LearnPost (S : Sto) (T : Tab) (id : Nat) (M : List Nat) (w : World) (e : Ending) (w' : World) : Prop :=
  ∃ T', e = .returned .nilIface ∧ T.Ext T' ∧ TabOk S T' ∧ (id = 0 ∨ T'.Known id) ∧ St w M [tabA T'] w'
attribute [local go_sem] OneStep growAt growUpon in
theorem learn_c {S : Sto} {T : Tab} {lv : Value} {m id : Nat} (hS : S.Ok) (hT : TabOk S T) (hid : id ≤ S.list.length) (w : World) (h : ((tabA T).sep (stoA T.s lv m S)).ho w) :
    Calls Try.prog 72 #[.pointer (some ⟨T.p, 0, none⟩), .int .i64 id] w (LearnPost S T id (tabA T).fp w) := by
  rw [sep_ho] at h
  obtain ⟨h1, h2, hd⟩ := h
  have H := St.one h1
  have HK : Ks w (tabA T).fp [stoA T.s lv m S] := ⟨by simpa using h2, by simpa using fun b hb hm => hd b hm hb⟩
  generalize (tabA T).fp = M at *
  obtain ⟨gc, oc, cc, gn, on, cn, ga, oa, ca, gh, oh, ch, e1, e2, e3, e4⟩ := hT.shapes
  have hcells : tabCells T = #[.pointer (some ⟨T.s, 0, none⟩), .int .i64 T.mc.start, .slice (some ⟨gc, oc, none⟩) 256 cc, .slice (some ⟨gn, on, none⟩) T.mc.n cn, .slice (some ⟨ga, oa, none⟩) T.mc.n ca, .slice (some ⟨gh, oh, none⟩) T.mc.n ch, .bool T.back, .map (some T.km)] := by
    unfold tabCells; rw [e1, e2, e3, e4]
  have HCELLS := Lib.hid hcells
  have HSO := Lib.hid hS
  have HL1 := Lib.hid hS.len
  have HL2 := Lib.hid hS.most
  by_cases h0 : id = 0
  · subst h0
    clear hcells e1 e2 e3 e4
    go_enter Try.func72, Try.ntmps72
    go_wp2_with (first | refine sL ?_ | (refine sS ?_; clear H; intro _ H) | (refine sA ?_; clear H; intro _ _ H))
    go_ret
    exact ⟨T, rfl, .refl T, hT, .inl rfl, H⟩
  · have h0' : ((id : Int) == 0) = false := by simp; omega
    have HTO := Lib.hid hT
    clear hcells e1 e2 e3 e4 h0 hT hd h1 h2 hS
    go_enter Try.func72, Try.ntmps72
    go_wp2_with (first | refine sL ?_ | (refine sS ?_; clear H; intro _ H) | (refine sA ?_; clear H; intro _ _ H) | ((with_reducible refine isSlice ?_); refine AtSlice.one H rfl rfl rfl rfl rfl rfl rfl rfl rfl ?_; clear H; intro b _ H; simp only [Act.put, puA, puB, puC]))
    replace H := H.conv (A' := rowsA encI 32 1 (.slice (some ⟨b, 0, none⟩) 1 1) [id]) (by rw [rowsA_fp', blk_fp]; rfl) fun hb => rowsA_of_blk (xs := [id]) (by rw [blk_ho] at hb; exact hb) (by simp [maxLen]) (by simp [flatG, encI]) encI_len
    have hid1 : 1 ≤ id := by
      rcases Nat.eq_zero_or_pos id with h | h
      · subst h; simp at h0'
      · exact h
    go_loopg [5] (costS [(id, false)]) (fun k v5 wr => LRel S T M w id k v5 wr)
    case atStart =>
      refine ⟨T, [(id, false)], .refl T, HTO.out, ⟨fun j p hp => ?_, fun j i x hj => ?_⟩, rfl, .inr ⟨false, by simp⟩, H⟩
      · have := getElem_len hp
        simp at this
        subst this
        simp at hp
        subst hp
        exact ⟨hid1, hid, by simp; omega⟩
      · have := getElem_len hj
        simp at this
        subst this
        simp at hj
    case round =>
      clear H
      obtain ⟨T', stk, hext, hT', hstk, hk, hgoal, H⟩ := hrel
      obtain ⟨q1, q2, q3, q4, q5, q6⟩ := hext.same
      rcases List.eq_nil_or_concat stk with rfl | ⟨st, ⟨top, op⟩, rfl⟩
      · obtain ⟨ad, c, rfl, _⟩ := rowsA_shape (H.get Pick.here)
        have HF := Lib.hid (And.intro hext (And.intro hT' hgoal))
        clear hext hT' hgoal hstk hk q1 q2 q3 q4 q5 q6
        go_wp2_with (first | refine sL ?_ | (refine sS ?_; clear H; intro _ H) | (refine sA ?_; clear H; intro _ _ H))
        go_ret
        obtain ⟨f1, f2, f3⟩ := HF.out
        exact ⟨T', rfl, f1, f2, .inr (by rcases f3 with h | ⟨b, hb⟩; exact h; simp at hb), H.tail⟩
      · simp only [List.concat_eq_append, List.map_append, List.map_cons, List.map_nil] at H hstk hk hgoal
        have htop := hstk.ids st.length (top, op) (by simp)
        simp only at htop
        have hstl := hstk.len
        have hl1 := HL1.out
        have hl2 := HL2.out
        simp only [List.length_append, List.length_singleton] at hstl
        obtain ⟨i, rfl⟩ : ∃ i, top = i + 1 := ⟨top - 1, by omega⟩
        obtain ⟨x, hx⟩ : ∃ x, S.list[i]? = some x := ⟨_, List.getElem?_eq_getElem (by omega)⟩
        obtain ⟨g, c, rfl, hgc, hcm⟩ := rowsA_cases (H.get Pick.here) (by simp)
        simp only [List.length_append, List.length_singleton, List.length_map] at H hgc
        unfold maxLen at hcm
        replace H := tabA_open (H.pick (A := tabA T') pk)
        rw [q1, q3, q4, HCELLS.out] at H
        have hlk : (st.map (·.1) ++ [i + 1])[st.length]? = some (i + 1) := by simp
        have HLK := Lib.hid hlk
        have HCO := Lib.hid hk
        have HX := Lib.hid hx
        have HST := Lib.hid hstk
        have HG := Lib.hid hgoal
        have HT2 := Lib.hid hT'
        have HEX := Lib.hid hext
        have hil : (st.map (·.1)).length = st.length := by simp
        have hsl2 : st.length ≤ 2097152 := by omega
        generalize hsl : st.length = sl at *
        generalize hids : st.map (·.1) = ids at *
        have HSL := Lib.hid hsl
        have HIDS := Lib.hid hids
        by_cases hkn : T'.Known (i + 1)
        · obtain ⟨e, he⟩ := hkn
          obtain ⟨a1, n1, c1, a2, n2, c2, a3, n3, c3, rfl⟩ := hT'.shape he
          have LK : Hid (∀ w, (mapA Try.prog 32 T.km (T'.es.map entV)).ho w → (Instr.lookup 123 (.map (some T.km)) (.int .i64 ((i + 1 : Nat) : Int)) true).run Try.prog w = .ok (.tuple #[.agg #[.slice a1 n1 c1, .slice a2 n2 c2, .slice a3 n3 c3], .bool true]) w) := Lib.hid fun w h => by
            have := look_known hT' (i := i + 1) (by omega) he (by rw [q3]; exact h) true
            rw [q3] at this
            exact this
          have HE := Lib.hid he
          clear he hx hstk hk hgoal hT' hext hlk hsl hids q1 q2 q3 q4 q5 q6
          go_wp2_with (first | refine sL ?_ | (refine sS ?_; clear H; intro _ H) | (refine sA ?_; clear H; intro _ _ H) | ((with_reducible refine isLoad ?_); refine AtLoad.cel rfl rfl rfl rfl (rowsA_cell1 (H.get (A := rowsA encI 32 1 (.slice (some ⟨g, 0, none⟩) (sl + 1) c) (ids ++ [i + 1])) pk) encI_len HLK.out rfl) ?_; simp only [Act.put, puA, puB, puC]) | ((with_reducible refine isLook ?_); refine AtLook.go rfl rfl rfl rfl (LK.out _ (H.get (A := mapA Try.prog 32 T.km (T'.es.map entV)) pk)) ?_; simp only [Act.put, puA, puB, puC]))
          have hH : Hid (St w M _ _) := Lib.hid ((H.pick (A := rowsA encI 32 1 (.slice (some ⟨g, 0, none⟩) (sl + 1) c) (ids ++ [i + 1])) pk).cut encI_len hil)
          go_roundg (costS st)
          case measure =>
            rw [← HCO.out, costS_snoc]
            have : 0 < 3 ^ (i + 1 + 1) := Nat.pow_pos (by omega)
            cases op <;> simp only [if_true, Bool.false_eq_true, if_false] <;> omega
          case rel =>
            refine ⟨T', st, HEX.out, HT2.out, HST.out.pop (fun _ h => h) ⟨_, HE.out⟩, rfl, ?_, ?_⟩
            · rcases HG.out with h | ⟨b, hb⟩
              · exact .inl h
              · rcases List.mem_append.1 hb with hb | hb
                · exact .inr ⟨b, hb⟩
                · simp only [List.mem_singleton, Prod.mk.injEq] at hb
                  rw [hb.1]
                  exact .inl ⟨_, HE.out⟩
            · have H3 := tabA_shut_of HEX.out HCELLS.out hH.out pk pk pk
              rw [HIDS.out]
              exact (H3.pick2 (A := rowsA encI 32 1 (.slice (some ⟨g, 0, none⟩) sl c) ids) (B := tabA T') pk pk).onlyTwo
        · have hsok := HSO.out
          have heok := hsok.ents i x hx
          have LK : Hid (∀ w, (mapA Try.prog 32 T.km (T'.es.map entV)).ho w → (Instr.lookup 123 (.map (some T.km)) (.int .i64 ((i + 1 : Nat) : Int)) true).run Try.prog w = .ok (.tuple #[.agg #[.slice none 0 0, .slice none 0 0, .slice none 0 0], .bool false]) w) := Lib.hid fun w h => by
            have := look_unknown (T := T') (i := i + 1) (by omega) hkn (by rw [q3]; exact h) true
            rw [q3] at this
            exact this
          have LR : Hid (∀ r, r ∈ refsOf x → ¬ T'.Known r → ∀ w, (mapA Try.prog 32 T.km (T'.es.map entV)).ho w → (Instr.lookup 123 (.map (some T.km)) (.int .i64 (r : Int)) true).run Try.prog w = .ok (.tuple #[.agg #[.slice none 0 0, .slice none 0 0, .slice none 0 0], .bool false]) w) := Lib.hid fun r hr hn w h => by
            have := look_unknown (T := T') (i := r) (by have := refs_lt heok r hr; omega) hn (by rw [q3]; exact h) true
            rw [q3] at this
            exact this
          have LE : Hid (∀ r, r ∈ refsOf x → T'.Known r → ∃ a1 n1 c1 a2 n2 c2 a3 n3 c3, ∀ w, (mapA Try.prog 32 T.km (T'.es.map entV)).ho w → (Instr.lookup 123 (.map (some T.km)) (.int .i64 (r : Int)) true).run Try.prog w = .ok (.tuple #[.agg #[.slice a1 n1 c1, .slice a2 n2 c2, .slice a3 n3 c3], .bool true]) w) := Lib.hid fun r hr hk => by
            obtain ⟨e, he⟩ := hk
            obtain ⟨a1, n1, c1, a2, n2, c2, a3, n3, c3, rfl⟩ := hT'.shape he
            refine ⟨a1, n1, c1, a2, n2, c2, a3, n3, c3, fun w h => ?_⟩
            have := look_known hT' (i := r) (by have := refs_lt heok r hr; omega) he (by rw [q3]; exact h) true
            rw [q3] at this
            exact this
          have HRU : Hid (∀ w, (stoA T.s lv m S).ho w → Calls Try.prog 45 #[.pointer (some ⟨T.s, 0, none⟩), .int .i64 ((i : Int) + 1)] w fun e w' => e = .returned (.tuple #[.agg #[.int .i64 x.r.kind, .int .u8 x.r.letter, .int .i64 x.r.left, .int .i64 x.r.right, .int .i64 x.r.times], .nilIface]) ∧ St w [] [] w') := Lib.hid fun w h => rule_c hx _ rfl w h
          have HRE : Hid (∀ w, Calls Try.prog 99 #[.agg #[.int .i64 x.r.kind, .int .u8 x.r.letter, .int .i64 x.r.left, .int .i64 x.r.right, .int .i64 x.r.times]] w fun e w' => ∃ ad c, e = .returned (.slice ad (refsOf x).length c) ∧ St w [] [rowsA encI 32 1 (.slice ad (refsOf x).length c) (refsOf x)] w') := Lib.hid fun w => by
            refine (refs_c heok w).mono ?_
            rintro e w' ⟨v, rfl, hs⟩
            obtain ⟨ad, c, rfl, _⟩ := rowsA_shape (hs.ho (rowsA encI 32 1 v (refsOf x)) (by simp))
            exact ⟨ad, c, rfl, hs⟩
          have HEN : Hid ((∀ r ∈ refsOf x, T'.Known r) → ∀ w, (tabA T').ho w → Calls Try.prog 100 #[.pointer (some ⟨T.p, 0, none⟩), .agg #[.int .i64 x.r.kind, .int .u8 x.r.letter, .int .i64 x.r.left, .int .i64 x.r.right, .int .i64 x.r.times]] w (EntPost S T' i x w)) := Lib.hid fun hr w h => by
            have := entry_c hsok hT' hx hr w h
            rwa [q1] at this
          have h2r := refs_two x
          have HKN := Lib.hid hkn
          have HHE := Lib.hid heok
          clear hkn hx hstk hk hgoal hT' hext hlk hsl hids q1 q2 q3 q4 q5 q6 hsok heok
          go_wp2_with (first | refine sL ?_ | (refine sS ?_; clear H; intro _ H) | (refine sA ?_; clear H; intro _ _ H) | ((with_reducible refine isLoad ?_); refine AtLoad.cel rfl rfl rfl rfl (rowsA_cell1 (H.get (A := rowsA encI 32 1 (.slice (some ⟨g, 0, none⟩) (sl + 1) c) (ids ++ [i + 1])) pk) encI_len HLK.out rfl) ?_; simp only [Act.put, puA, puB, puC]) | ((with_reducible refine isLook ?_); refine AtLook.go rfl rfl rfl rfl (LK.out _ (H.get (A := mapA Try.prog 32 T.km (T'.es.map entV)) pk)) ?_; simp only [Act.put, puA, puB, puC]) | (go_at_call 45; with_reducible refine Calls.mono (HRU.out _ (H.known HK pk)) ?_; rintro e wc ⟨rfl, hb⟩; replace H := H.grew hb.below; clear hb) | (go_at_call 99; with_reducible refine Calls.mono (HRE.out _) ?_; rintro e wc ⟨adr, cr, rfl, hb⟩; replace H := H.call0 hb; clear hb; simp only [List.cons_append, List.nil_append] at H))
          rename_i b9 _ _ _ _
          have hids1 : (ids ++ [i + 1]).length = sl + 1 := by simp [hil]
          have HI1 := Lib.hid hids1
          clear hids1
          generalize hI1 : ids ++ [i + 1] = ids1 at *
          have HII := Lib.hid hI1
          clear hI1
          obtain ⟨cs, hcs⟩ : ∃ cs : Array Value, cs = #[.pointer (some ⟨T.s, 0, none⟩), .int .i64 T.mc.start, .slice (some ⟨gc, oc, none⟩) 256 cc, .slice (some ⟨gn, on, none⟩) T.mc.n cn, .slice (some ⟨ga, oa, none⟩) T.mc.n ca, .slice (some ⟨gh, oh, none⟩) T.mc.n ch, .bool T.back, .map (some T.km)] := ⟨_, rfl⟩
          obtain ⟨rc, hrc⟩ : ∃ rc : Array Value, rc = #[.int .i64 x.r.kind, .int .u8 x.r.letter, .int .i64 x.r.left, .int .i64 x.r.right, .int .i64 x.r.times] := ⟨_, rfl⟩
          rw [← hcs, ← hrc] at H
          go_loopw [5, 11, 59] (fun v5 v11 v59 wr => LRel2 T T' M w ids1 (refsOf x) (.slice adr (refsOf x).length cr) cs rc b9 v5 v11 v59 wr) (fun _ _ v59 _ => (refsOf x).length - (intOf v59).toNat)
          case atStart =>
            refine ⟨0, some ⟨g, 0, none⟩, c, rfl, Nat.zero_le _, by simp [newOf], by simp [newOf, HI1.out], ?_⟩
            have e0 : ids1 ++ newOf T' ((refsOf x).take 0) = ids1 := by simp [newOf]
            rw [e0]
            exact H.only6 (A := rowsA encI 32 1 (.slice (some ⟨g, 0, none⟩) (sl + 1) c) ids1) (B := blk T.p (.cells cs 125)) (C := poolA T'.P) (D := mapA Try.prog 32 T.km (T'.es.map entV)) (E := rowsA encI 32 1 (.slice adr (refsOf x).length cr) (refsOf x)) (F := blk b9 (.cells rc 100)) pk pk pk pk pk pk
          case round =>
            clear H
            obtain ⟨j, ad5, c5, rfl, hj, rfl, rfl, H⟩ := hrel
            have hnl := newOf_len T' ((refsOf x).take j)
            rw [List.length_take] at hnl
            have hnl2 : (newOf T' ((refsOf x).take j)).length ≤ 2 := by omega
            by_cases hlt : j < (refsOf x).length
            · obtain ⟨r, hr⟩ : ∃ r, (refsOf x)[j]? = some r := ⟨_, List.getElem?_eq_getElem hlt⟩
              have hrm := List.mem_of_getElem? hr
              have HR := Lib.hid hr
              have htk : (refsOf x).take (j + 1) = (refsOf x).take j ++ [r] := by rw [List.take_add_one, hr]; rfl
              have HTK := Lib.hid htk
              obtain ⟨gr, cr', hadr, _, _⟩ := rowsA_cases (H.get (A := rowsA encI 32 1 (.slice adr (refsOf x).length cr) (refsOf x)) pk) (by omega)
              injection hadr with h1 h2 h3
              subst h1 h3
              clear htk hr h2
              by_cases hkn : T'.Known r
              · obtain ⟨a1, n1, c1, a2, n2, c2, a3, n3, c3, hL⟩ := LE.out r hrm hkn
                have HL := Lib.hid hL
                have HKR := Lib.hid hkn
                clear hL hkn
                rw [hcs] at H
                go_wp2_with (first | refine sL ?_ | (refine sS ?_; clear H; intro _ H) | (refine sA ?_; clear H; intro _ _ H) | ((with_reducible refine isLoad ?_); refine AtLoad.cel rfl rfl rfl rfl (rowsA_cell1 (H.get (A := rowsA encI 32 1 (.slice (some ⟨gr, 0, none⟩) (refsOf x).length cr) (refsOf x)) pk) encI_len HR.out rfl) ?_; simp only [Act.put, puA, puB, puC]) | ((with_reducible refine isLook ?_); refine AtLook.go rfl rfl rfl rfl (HL.out _ (H.get (A := mapA Try.prog 32 T.km (T'.es.map entV)) pk)) ?_; simp only [Act.put, puA, puB, puC]))
                rw [← hcs] at H
                refine ⟨⟨j + 1, ad5, c5, by go_num, by omega, by rw [HTK.out, newOf_known HKR.out], by rw [HTK.out, newOf_known HKR.out], ?_⟩, by simp [intOf]; omega⟩
                rw [HTK.out, newOf_known HKR.out]
                exact H.only6 (A := rowsA encI 32 1 (.slice ad5 (ids1.length + (newOf T' ((refsOf x).take j)).length) c5) (ids1 ++ newOf T' ((refsOf x).take j))) (B := blk T.p (.cells cs 125)) (C := poolA T'.P) (D := mapA Try.prog 32 T.km (T'.es.map entV)) (E := rowsA encI 32 1 (.slice (some ⟨gr, 0, none⟩) (refsOf x).length cr) (refsOf x)) (F := blk b9 (.cells rc 100)) pk pk pk pk pk pk
              · have HL := Lib.hid (LR.out r hrm hkn)
                have HKR := Lib.hid hkn
                have hib : ids1.length ≤ 2097153 := by rw [HI1.out]; omega
                clear hkn
                rw [hcs] at H
                go_wp2_with (first | refine sL ?_ | (refine sS ?_; clear H; intro _ H) | (refine sA ?_; clear H; intro _ _ H) | ((with_reducible refine isLoad ?_); refine AtLoad.cel rfl rfl rfl rfl (rowsA_cell1 (H.get (A := rowsA encI 32 1 (.slice (some ⟨gr, 0, none⟩) (refsOf x).length cr) (refsOf x)) pk) encI_len HR.out rfl) ?_; simp only [Act.put, puA, puB, puC]) | ((with_reducible refine isLook ?_); refine AtLook.go rfl rfl rfl rfl (HL.out _ (H.get (A := mapA Try.prog 32 T.km (T'.es.map entV)) pk)) ?_; simp only [Act.put, puA, puB, puC]) | ((with_reducible refine isSlice ?_); refine AtSlice.one H rfl rfl rfl rfl rfl rfl rfl rfl rfl ?_; clear H; intro b _ H; simp only [Act.put, puA, puB, puC]) | ((with_reducible refine isAppend ?_); refine AtAppend.go (enc := encI) H rfl rfl rfl rfl rfl (by decide) (by decide) rfl pk rfl (H.at pk) [r] rfl (by simp [flatG, encI]) encI_len encI_one (by simp; omega) ?_; clear H; intro ad9 cp9 _ H; simp only [Act.put, puA, puB, puC]))
                rw [← hcs] at H
                have e1 : newOf T' ((refsOf x).take (j + 1)) = newOf T' ((refsOf x).take j) ++ [r] := by rw [HTK.out, newOf_unknown HKR.out]
                refine ⟨⟨j + 1, ad9, cp9, by go_num, by omega, by rw [e1]; simp, by rw [e1]; simp [Nat.add_assoc], ?_⟩, by simp [intOf]; omega⟩
                rw [e1, ← List.append_assoc]
                exact H.only6 (A := rowsA encI 32 1 (.slice ad9 ((ids1 ++ newOf T' ((refsOf x).take j)).length + 1) cp9) (ids1 ++ newOf T' ((refsOf x).take j) ++ [r])) (B := blk T.p (.cells cs 125)) (C := poolA T'.P) (D := mapA Try.prog 32 T.km (T'.es.map entV)) (E := rowsA encI 32 1 (.slice (some ⟨gr, 0, none⟩) (refsOf x).length cr) (refsOf x)) (F := blk b9 (.cells rc 100)) pk pk pk pk pk pk
            · have hje : (refsOf x).length = j := by omega
              subst hje
              simp only [List.take_length] at H hnl2 ⊢
              have HAL := Lib.hid (fun r hr => newOf_all (T := T') (l := refsOf x) r hr)
              have HSB := Lib.hid (fun r hr => newOf_sub (T := T') (l := refsOf x) r hr)
              have HUN := Lib.hid (fun r hr => newOf_un (T := T') (l := refsOf x) r hr)
              generalize newOf T' (refsOf x) = nw at *
              by_cases hnn : nw = []
              · subst hnn
                simp only [List.append_nil, List.length_nil, Nat.add_zero] at H ⊢
                obtain ⟨g5, c6, hv5, hgc5, hcm5⟩ := rowsA_cases (H.get Pick.here) (by rw [HI1.out]; omega)
                injection hv5 with h1 h2 h3
                subst h1 h3
                clear h2
                rw [HI1.out] at H hgc5 ⊢
                unfold maxLen at hcm5
                have hall : ∀ r ∈ refsOf x, T'.Known r := fun r hr => by rcases HAL.out r hr with h | h; exact h; simp at h
                have HE2 := Lib.hid (HEN.out hall)
                have HALL := Lib.hid hall
                clear hall
                rw [hcs, hrc] at H
                go_wp2_with (first | refine sL ?_ | (refine sS ?_; clear H; intro _ H) | (refine sA ?_; clear H; intro _ _ H))
                refine wp_region_grows 8 [IsV (.pointer (some ⟨T.p, 0, none⟩)), IsV (.pointer (some ⟨T.p, 0, none⟩)), IsV (.pointer (some ⟨T.p, 7, none⟩)), IsV (.map (some T.km)), IsV (.int .i64 ((i + 1 : Nat) : Int)), IsV (.pointer (some ⟨T.p, 0, none⟩)), IsV (.agg #[.int .i64 x.r.kind, .int .u8 x.r.letter, .int .i64 x.r.left, .int .i64 x.r.right, .int .i64 x.r.times]), IsEnt S T' i x wr.heap.size] [] [[], [(0, 80)], [(1, 81)], [(2, 82)], [], [], [], [(5, 85), (6, 86)]] [(0, 80), (1, 81), (2, 82), (3, 83), (4, 84), (5, 85), (6, 86), (7, 87)] (by kernel_rfl) (by kernel_rfl) rfl ⟨IsV.stable _, IsV.stable _, IsV.stable _, IsV.stable _, IsV.stable _, IsV.stable _, IsV.stable _, IsEnt.stable _ _ _ _ _, trivial⟩ ⟨?o0, ?o1, ?o2, ?o3, ?o4, ?o5, ?o6, ?o7, trivial⟩ ?fin
                case o0 =>
                  intro vals w' hg hd
                  clear hd
                  simp only [putS, List.foldl_nil, List.foldl_cons, Act.put, List.setIfInBounds_toArray, List.set_cons_zero, List.set_cons_succ]
                  clear hg 
                  go_simp
                  try go_bits
                  exact isV_mk _ _
                case o1 =>
                  intro vals w' hg hd
                  have h0 : vals 0 = .pointer (some ⟨T.p, 0, none⟩) := hd.1
                  clear hd
                  simp only [putS, List.foldl_nil, List.foldl_cons, Act.put, List.setIfInBounds_toArray, List.set_cons_zero, List.set_cons_succ, h0]
                  clear hg h0
                  go_simp
                  try go_bits
                  exact isV_mk _ _
                case o2 =>
                  intro vals w' hg hd
                  have h1 : vals 1 = .pointer (some ⟨T.p, 0, none⟩) := hd.1
                  clear hd
                  simp only [putS, List.foldl_nil, List.foldl_cons, Act.put, List.setIfInBounds_toArray, List.set_cons_zero, List.set_cons_succ, h1]
                  clear hg h1
                  go_simp
                  try go_bits
                  exact isV_mk _ _
                case o3 =>
                  intro vals w' hg hd
                  have h2 : vals 2 = .pointer (some ⟨T.p, 7, none⟩) := hd.1
                  clear hd
                  simp only [putS, List.foldl_nil, List.foldl_cons, Act.put, List.setIfInBounds_toArray, List.set_cons_zero, List.set_cons_succ, h2]
                  have Hg := H.grew hg
                  exact OneStep.cellT rfl rfl rfl (Hg.at pk) rfl rfl rfl
                case o4 =>
                  intro vals w' hg hd
                  clear hd
                  simp only [putS, List.foldl_nil, List.foldl_cons, Act.put, List.setIfInBounds_toArray, List.set_cons_zero, List.set_cons_succ]
                  clear hg 
                  go_simp
                  try go_bits
                  exact isV_mk _ _
                case o5 =>
                  intro vals w' hg hd
                  clear hd
                  simp only [putS, List.foldl_nil, List.foldl_cons, Act.put, List.setIfInBounds_toArray, List.set_cons_zero, List.set_cons_succ]
                  clear hg 
                  go_simp
                  try go_bits
                  exact isV_mk _ _
                case o6 =>
                  intro vals w' hg hd
                  clear hd
                  simp only [putS, List.foldl_nil, List.foldl_cons, Act.put, List.setIfInBounds_toArray, List.set_cons_zero, List.set_cons_succ]
                  have Hg := H.grew hg
                  exact OneStep.wholeT rfl rfl rfl (Hg.at pk) rfl rfl
                case o7 =>
                  intro vals w' hg hd
                  have h5 : vals 5 = .pointer (some ⟨T.p, 0, none⟩) := hd.1
                  have h6 : vals 6 = .agg #[.int .i64 x.r.kind, .int .u8 x.r.letter, .int .i64 x.r.left, .int .i64 x.r.right, .int .i64 x.r.times] := hd.2.1
                  clear hd
                  simp only [putS, List.foldl_nil, List.foldl_cons, Act.put, List.setIfInBounds_toArray, List.set_cons_zero, List.set_cons_succ, h5, h6]
                  have Hg := H.grew hg
                  have HT9 := tabA_shut_of HEX.out HCELLS.out Hg pk pk pk
                  refine OneStep.call2 Try.func100 (by kernel_rfl) rfl rfl rfl rfl ((HE2.out w' (HT9.get .here)).mono ?_)
                  rintro e w'' ⟨ev, hv, cv, P', rfl, hent, hst⟩
                  obtain ⟨a1, n1, c1, a2, n2, c2, a3, n3, c3, rfl, rfl, rfl⟩ := hent.shape
                  refine ⟨_, rfl, hst.below, a1, n1, c1, a2, n2, c2, a3, n3, c3, P', rfl, hent, hst.ho _ (by simp), fun b hb => ?_⟩
                  rcases hst.own (poolA P') (by simp) b hb with h | h
                  · exact Nat.le_trans hg.size h
                  · simp at h
                case fin =>
                  intro vals w' hg hd _
                  have h0 : vals 0 = .pointer (some ⟨T.p, 0, none⟩) := hd.1
                  have h1 : vals 1 = .pointer (some ⟨T.p, 0, none⟩) := hd.2.1
                  have h2 : vals 2 = .pointer (some ⟨T.p, 7, none⟩) := hd.2.2.1
                  have h3 : vals 3 = .map (some T.km) := hd.2.2.2.1
                  have h4 : vals 4 = .int .i64 ((i + 1 : Nat) : Int) := hd.2.2.2.2.1
                  have h5 : vals 5 = .pointer (some ⟨T.p, 0, none⟩) := hd.2.2.2.2.2.1
                  have h6 : vals 6 = .agg #[.int .i64 x.r.kind, .int .u8 x.r.letter, .int .i64 x.r.left, .int .i64 x.r.right, .int .i64 x.r.times] := hd.2.2.2.2.2.2.1
                  have h7 := hd.2.2.2.2.2.2.2.1
                  clear hd
                  obtain ⟨a1, n1, c1, a2, n2, c2, a3, n3, c3, P2, e7, hent, hpo, hown⟩ : IsEnt S T' i x wr.heap.size (vals 7) w' := h7
                  replace H := (H.grew hg).take_pool H.size hpo hown (fun A hA b hb => H.fpLt hA b hb)
                  simp only [putS, List.foldl_nil, List.foldl_cons, Act.put, List.setIfInBounds_toArray, List.set_cons_zero, List.set_cons_succ, List.drop_succ_cons, List.drop_zero, h0, h1, h2, h3, h4, h5, h6, e7]
                  obtain ⟨lk, hlk⟩ := id_key (i := i + 1) (by omega)
                  have HLKK := Lib.hid hlk
                  have HENT := Lib.hid hent
                  have HNK : Hid (∀ e ∈ T'.es.map entV, e.1 ≠ .int .i64 ((i + 1 : Nat) : Int)) := Lib.hid fun e he h => by
                    obtain ⟨⟨k9, v9⟩, hm, rfl⟩ := List.mem_map.1 he
                    simp only [entV, Value.int.injEq, true_and] at h
                    have : k9 = i + 1 := by omega
                    subst this
                    exact HKN.out ⟨v9, hm⟩
                  clear h0 h1 h2 h3 h4 h5 h6 e7 hent hpo hown hlk hg
                  go_wp2_with (first | refine sL ?_ | (refine sS ?_; clear H; intro _ H) | (refine sA ?_; clear H; intro _ _ H) | ((with_reducible refine isUpdate ?_); refine AtUpdate.new keyed_32 mt_123 H rfl rfl rfl (es := T'.es.map entV) (k := .int .i64 ((i + 1 : Nat) : Int)) (v := .agg #[.slice a1 n1 c1, .slice a2 n2 c2, .slice a3 n3 c3]) pk rfl rfl HLKK.out HNK.out ?_; clear H; intro _ H; simp only [Act.put, puA, puB, puC]))
                  have hH : Hid (St w M _ _) := Lib.hid ((H.pick (A := rowsA encI 32 1 (.slice (some ⟨g5, 0, none⟩) (sl + 1) c5) ids1) pk))
                  go_roundg (costS st)
                  case measure =>
                    rw [← HCO.out, costS_snoc]
                    have : 0 < 3 ^ (i + 1 + 1) := Nat.pow_pos (by omega)
                    cases op <;> simp only [if_true, Bool.false_eq_true, if_false] <;> omega
                  case rel =>
                    have hkm : ∀ j, T'.Known j → (T'.more P2 (i + 1) (.slice a1 n1 c1, .slice a2 n2 c2, .slice a3 n3 c3)).Known j := fun j h => (Tab.more_ext ..).known h
                    have hkt : (T'.more P2 (i + 1) (.slice a1 n1 c1, .slice a2 n2 c2, .slice a3 n3 c3)).Known (i + 1) := Tab.more_known.2 (.inr rfl)
                    have hx2 := HX.out
                    refine ⟨T'.more P2 (i + 1) (.slice a1 n1 c1, .slice a2 n2 c2, .slice a3 n3 c3), st, HEX.out.trans (Tab.more_ext ..), HT2.out.more hx2 HALL.out HKN.out HENT.out, HST.out.pop hkm hkt, rfl, ?_, ?_⟩
                    · rcases HG.out with h | ⟨b, hb⟩
                      · exact .inl (hkm _ h)
                      · rcases List.mem_append.1 hb with hb | hb
                        · exact .inr ⟨b, hb⟩
                        · simp only [List.mem_singleton, Prod.mk.injEq] at hb
                          rw [hb.1]
                          exact .inl hkt
                    · have h9 := hH.out
                      rw [← HII.out] at h9
                      have H5 := h9.cut encI_len hil
                      have H6 := (H5.pick2 (A := poolA T'.P) (B := poolA P2) pk pk).pool_add
                      have em : (T'.es.map entV) ++ [(.int .i64 ((i + 1 : Nat) : Int), .agg #[.slice a1 n1 c1, .slice a2 n2 c2, .slice a3 n3 c3])] = (T'.more P2 (i + 1) (.slice a1 n1 c1, .slice a2 n2 c2, .slice a3 n3 c3)).es.map entV := by simp [Tab.more, entV]
                      rw [em] at H6
                      have H7 := tabA_shut_of (T' := T'.more P2 (i + 1) (.slice a1 n1 c1, .slice a2 n2 c2, .slice a3 n3 c3)) (HEX.out.trans (Tab.more_ext ..)) HCELLS.out H6 pk .here pk
                      rw [HIDS.out]
                      exact (H7.pick2 (A := rowsA encI 32 1 (.slice (some ⟨g5, 0, none⟩) sl c5) ids) (B := tabA (T'.more P2 (i + 1) (.slice a1 n1 c1, .slice a2 n2 c2, .slice a3 n3 c3))) pk pk).onlyTwo
              · have hnn2 : decide (nw = []) = false := by simp [hnn]
                rw [hnn2]
                go_wp2_with (first | refine sL ?_ | (refine sS ?_; clear H; intro _ H) | (refine sA ?_; clear H; intro _ _ H))
                have hH := Lib.hid H
                have hS9 := HSO.out
                cases op
                · go_roundg (costS (st ++ [(i + 1, true)] ++ nw.map fun r => (r, false)))
                  case measure =>
                    rw [← HCO.out]
                    exact costS_push hS9 HX.out HSB.out hnl2
                  case rel =>
                    refine ⟨T', _, HEX.out, HT2.out, HST.out.push hS9 HX.out HSB.out hnl2 HAL.out, rfl, ?_, ?_⟩
                    · rcases HG.out with h | ⟨b, hb⟩
                      · exact .inl h
                      · rcases List.mem_append.1 hb with hb | hb
                        · exact .inr ⟨b, by simp [hb]⟩
                        · simp only [List.mem_singleton, Prod.mk.injEq] at hb
                          exact .inr ⟨true, by simp [hb.1]⟩
                    · have h9 := hH.out
                      rw [hcs] at h9
                      have H7 := tabA_shut_of HEX.out HCELLS.out h9 pk pk pk
                      have em : (st ++ [(i + 1, true)] ++ nw.map fun r => (r, false)).map (·.1) = ids1 ++ nw := by
                        rw [← HII.out, ← HIDS.out]
                        simp [Function.comp_def]
                      rw [em]
                      exact (H7.pick2 (A := rowsA encI 32 1 (.slice ad5 (ids1.length + nw.length) c5) (ids1 ++ nw)) (B := tabA T') pk pk).onlyTwo
                · exfalso
                  have hk := HST.out.top_open HX.out
                  cases nw with
                  | nil => exact hnn rfl
                  | cons r nw => exact HUN.out r (by simp) (hk r (HSB.out r (by simp)))
end Go.Proofs.Ytijnhpaafhcndaa
end
section
namespace Go.Proofs.Ytijnhpaafhcndaa
open Go.RowKit Go.Maps
attribute [local go_sem] InGr
set_option maxHeartbeats 4000000
set_option maxRecDepth 100000
set_option linter.unusedSimpArgs false
set_option linter.unusedVariables false
def tabC (T : Tab) (gc oc cc gn on cn ga oa ca gh oh ch : Nat) : Array Value := #[.pointer (some ⟨T.s, 0, none⟩), .int .i64 T.mc.start, .slice (some ⟨gc, oc, none⟩) 256 cc, .slice (some ⟨gn, on, none⟩) T.mc.n cn, .slice (some ⟨ga, oa, none⟩) T.mc.n ca, .slice (some ⟨gh, oh, none⟩) T.mc.n ch, .bool T.back, .map (some T.km)]
theorem TabOk.cells {S : Sto} {T : Tab} (hT : TabOk S T) : ∃ gc oc cc gn on cn ga oa ca gh oh ch, tabCells T = tabC T gc oc cc gn on cn ga oa ca gh oh ch := by
  obtain ⟨gc, oc, cc, gn, on, cn, ga, oa, ca, gh, oh, ch, e1, e2, e3, e4⟩ := hT.shapes
  exact ⟨gc, oc, cc, gn, on, cn, ga, oa, ca, gh, oh, ch, by unfold tabCells tabC; rw [e1, e2, e3, e4]⟩
theorem tabA_pool {T : Tab} {w : World} (h : (tabA T).ho w) : (poolA T.P).ho w := (tabA_ks h).ho _ (by simp)
theorem EffAt.rowE {P : PoolT} {m : Mc} {l : List Nat} {ev hv : Value} (h : EffAt P m l ev hv) : RowIn P enc8 1 ev (effE m l) := h.1
theorem EffAt.rowH {P : PoolT} {m : Mc} {l : List Nat} {ev hv : Value} (h : EffAt P m l ev hv) : RowIn P encI 1 hv (effH m l) := h.2
theorem sep_mk {A B : As} {w : World} (h1 : A.ho w) (h2 : B.ho w) (hd : ∀ b ∈ A.fp, b ∉ B.fp) : (A.sep B).ho w := by rw [sep_ho]; exact ⟨h1, h2, hd⟩
theorem store_c {S : Sto} {T : Tab} (hT : TabOk S T) (w : World) (h : (tabA T).ho w) :
    Calls Try.prog 44 #[.pointer (some ⟨T.p, 0, none⟩)] w fun e w' => e = .returned (.pointer (some ⟨T.s, 0, none⟩)) ∧ w' = w := by
  have HK := tabA_ks h
  have H := St.nil w []
  obtain ⟨gc, oc, cc, gn, on, cn, ga, oa, ca, gh, oh, ch, hc⟩ := hT.cells
  rw [hc, tabC] at HK
  clear hc hT h
  go_enter Try.func44, Try.ntmps44
  go_wp2_with (first | refine sL ?_)
  go_ret
  exact ⟨rfl, rfl⟩
theorem back_c {S : Sto} {T : Tab} (hT : TabOk S T) (w : World) (h : (tabA T).ho w) :
    Calls Try.prog 65 #[.pointer (some ⟨T.p, 0, none⟩)] w fun e w' => e = .returned (.bool T.back) ∧ w' = w := by
  have HK := tabA_ks h
  have H := St.nil w []
  obtain ⟨gc, oc, cc, gn, on, cn, ga, oa, ca, gh, oh, ch, hc⟩ := hT.cells
  rw [hc, tabC] at HK
  clear hc hT h
  go_enter Try.func65, Try.ntmps65
  go_wp2_with (first | refine sL ?_)
  go_ret
  exact ⟨rfl, rfl⟩
theorem tcheck_c {S : Sto} {T : Tab} {lv : Value} {m id q : Nat} (hT : TabOk S T) (hid : id ≤ S.list.length) (hq : q < T.mc.n) (w : World) (h : (tabA T).ho w) (hs : (stoA T.s lv m S).ho w) :
    Calls Try.prog 71 #[.pointer (some ⟨T.p, 0, none⟩), .int .i64 id, .int .i64 q] w fun e w' => e = .returned .nilIface ∧ w' = w := by
  have HK := tabA_ks h
  have H := St.nil w []
  obtain ⟨gc, oc, cc, gn, on, cn, ga, oa, ca, gh, oh, ch, hc⟩ := hT.cells
  rw [hc, tabC] at HK
  have HLEN : Hid (Calls Try.prog 66 #[.pointer (some ⟨T.s, 0, none⟩)] w fun e w' => e = .returned (.int .i64 S.list.length) ∧ w' = w) := Lib.hid (len_c w hs)
  have d1 : decide ((id : Int) < 0) = false := by simp
  have d2 : decide (S.list.length < id) = false := by simp; omega
  have d3 : decide ((q : Int) < 0) = false := by simp
  have d4 : decide (T.mc.n ≤ q) = false := by simp; omega
  generalize T.mc.n = n at *
  generalize S.list.length = len at *
  clear hc hT h hs
  go_enter Try.func71, Try.ntmps71
  go_wp2_with (first | refine sL ?_ | (go_at_call 66; with_reducible refine same (HLEN.out) ?_))
  go_ret
  exact ⟨rfl, rfl⟩
theorem range_ok (a b n : Nat) (h : a + b ≤ n) (hn : n ≤ 1152921504606846976) (w : World) :
    Calls Try.prog 35 #[.int .i64 a, .int .i64 b, .int .i64 n] w fun e w' => e = .returned .nilIface ∧ w' = w := by
  have HV : Hid (Calls Try.prog 50 #[.int .i64 n] w fun e w' => e = .returned (.bool true) ∧ w' = w) := Lib.hid (valid_c n true (by symm; rw [decide_eq_true_eq]; omega) w)
  have H := St.nil w []
  have HK := Ks.nil w []
  have d1 : decide ((a : Int) < 0) = false := by simp
  have d2 : decide ((b : Int) < 0) = false := by simp
  have d3 : decide (n < a) = false := by simp; omega
  have d4 : decide ((n : Int) - a < b) = false := by simp; omega
  go_enter Try.func35, Try.ntmps35
  go_wp2_with (first | (go_at_call 50; with_reducible refine same (HV.out) ?_))
  go_ret
  exact ⟨rfl, rfl⟩
theorem eff_look {S : Sto} {T T' : Tab} (hext : T.Ext T') (hT : TabOk S T') {id : Nat} (hid : id ≤ 1048577) (hkn : id = 0 ∨ T'.Known id) : ∃ a1 n1 c1 a2 n2 c2 a3 n3 c3, (∀ w, (mapA Try.prog 32 T.km (T'.es.map entV)).ho w → (Instr.lookup 123 (.map (some T.km)) (.int .i64 (id : Int)) false).run Try.prog w = .ok (.agg #[.slice a1 n1 c1, .slice a2 n2 c2, .slice a3 n3 c3]) w) ∧
    (id ≠ 0 → EffAt T'.P T.mc (dirT T.back (S.txt id)) (.slice a1 n1 c1) (.slice a2 n2 c2)) := by
  obtain ⟨p1, p2, p3, p4, p5, p6⟩ := hext.same
  by_cases h0 : id = 0
  · subst h0
    have hn : ¬ T'.Known 0 := fun ⟨v, hv⟩ => by
      obtain ⟨i, x, h, _⟩ := hT.ents _ hv
      simp at h
    refine ⟨none, 0, 0, none, 0, 0, none, 0, 0, fun w h => ?_, fun h => absurd rfl h⟩
    have := look_unknown (T := T') (i := 0) (by omega) hn (by rw [p3]; exact h) false
    rw [p3] at this
    exact this
  · obtain ⟨e, he⟩ : T'.Known id := by rcases hkn with h | h; exact absurd h h0; exact h
    obtain ⟨a1, n1, c1, a2, n2, c2, a3, n3, c3, rfl⟩ := hT.shape he
    refine ⟨a1, n1, c1, a2, n2, c2, a3, n3, c3, fun w h => ?_, fun _ => ?_⟩
    · have := look_known hT hid he (by rw [p3]; exact h) false
      rw [p3] at this
      exact this
    · obtain ⟨i, x, h1, _, h2⟩ := hT.ents _ he
      simp only at h1 h2
      subst h1
      rw [← p5, ← p6]
      exact h2.eff
def EffPost (S : Sto) (T : Tab) (id : Nat) (M : List Nat) (w : World) (e : Ending) (w' : World) : Prop :=
  ∃ T' a1 n1 c1 a2 n2 c2, e = .returned (.tuple #[.agg #[.slice a1 n1 c1, .slice a2 n2 c2], .nilIface]) ∧ T.Ext T' ∧ TabOk S T' ∧ (id ≠ 0 → EffAt T'.P T.mc (dirT T.back (S.txt id)) (.slice a1 n1 c1) (.slice a2 n2 c2)) ∧ St w M [tabA T'] w'
theorem effect_c {S : Sto} {T : Tab} {lv : Value} {m id q : Nat} (hS : S.Ok) (hT : TabOk S T) (hid : id ≤ S.list.length) (hq : q < T.mc.n) (w : World) (h : ((tabA T).sep (stoA T.s lv m S)).ho w) :
    Calls Try.prog 101 #[.pointer (some ⟨T.p, 0, none⟩), .int .i64 id, .int .i64 q] w (EffPost S T id (tabA T).fp w) := by
  have h0 := h
  rw [sep_ho] at h
  obtain ⟨h1, h2, hd⟩ := h
  have H := St.one h1
  have HK : Ks w (tabA T).fp [stoA T.s lv m S] := ⟨by simpa using h2, by simpa using fun b hb hm => hd b hm hb⟩
  have HC : Hid (∀ w, (tabA T).ho w → (stoA T.s lv m S).ho w → Calls Try.prog 71 #[.pointer (some ⟨T.p, 0, none⟩), .int .i64 id, .int .i64 q] w fun e w' => e = .returned .nilIface ∧ w' = w) := Lib.hid fun w a b => tcheck_c hT hid hq w a b
  have HL : Hid (∀ w, ((tabA T).sep (stoA T.s lv m S)).ho w → Calls Try.prog 72 #[.pointer (some ⟨T.p, 0, none⟩), .int .i64 id] w (fun e w' => ∃ T', e = .returned .nilIface ∧ T.Ext T' ∧ TabOk S T' ∧ (id = 0 ∨ T'.Known id) ∧ St w (tabA T).fp [tabA T'] w')) := Lib.hid fun w h => learn_c hS hT hid w h
  obtain ⟨gc, oc, cc, gn, on, cn, ga, oa, ca, gh, oh, ch, hc⟩ := hT.cells
  have HCELLS := Lib.hid hc
  have hl1 := hS.len
  have hl2 := hS.most
  have HD := Lib.hid hd
  clear hc hT h0 h1 h2 hd
  go_enter Try.func101, Try.ntmps101
  go_wp2_with (first | refine sL ?_ | (refine sS ?_; clear H; intro _ H) | (refine sA ?_; clear H; intro _ _ H) | refine sF ?_ | (go_at_call 71; with_reducible refine Calls.mono (HC.out _ (H.get (A := tabA T) pk) (H.known HK pk)) ?_; rintro e wc ⟨rfl, rfl⟩) | (go_at_call 72; with_reducible refine Calls.mono (HL.out _ (sep_mk (H.get (A := tabA T) pk) (H.known HK pk) HD.out)) ?_; rintro e wc ⟨T', rfl, hext, hT', hkn, hb⟩; replace H := H.pick (A := tabA T) pk; replace H := H.call hb; clear hb; simp only [List.cons_append, List.nil_append] at H; obtain ⟨p1, p2, p3, p4, p5, p6⟩ := hext.same; replace H := tabA_open H; rw [p1, p3, p4, HCELLS.out, tabC] at H; have HX := Lib.hid hext; have HT2 := Lib.hid hT'; have HKN := Lib.hid hkn; obtain ⟨a1, n1, c1, a2, n2, c2, a3, n3, c3, hlk, hef⟩ := eff_look hext hT' (Nat.le_trans (Nat.le_trans hid hl1) (Nat.le_trans hl2 (by omega))) hkn; have HLK := Lib.hid hlk; have HEF := Lib.hid hef; clear hext hT' hkn p1 p2 p3 p4 p5 p6 hlk hef) | ((with_reducible refine isLook ?_); refine AtLook.go rfl rfl rfl rfl (HLK.out _ (H.get pk)) ?_; simp only [Act.put, puA, puB, puC]))
  refine bodyPost_ret (res_row_tmp rfl H rfl pk rfl rfl) rfl ?_
  have H3 := tabA_shut_of HX.out HCELLS.out H pk pk pk
  exact ⟨T', a1, n1, c1, a2, n2, c2, rfl, HX.out, HT2.out, HEF.out, H3.onlyHead⟩
def TabPost (S : Sto) (T : Tab) (v : Value) (M : List Nat) (w : World) (e : Ending) (w' : World) : Prop := ∃ T', e = .returned v ∧ T.Ext T' ∧ TabOk S T' ∧ St w M [tabA T'] w'
theorem end_c {S : Sto} {T : Tab} {lv : Value} {m id q : Nat} (hS : S.Ok) (hT : TabOk S T) (hid : id ≤ S.list.length) (hq : q < T.mc.n) (w : World) (h : ((tabA T).sep (stoA T.s lv m S)).ho w) :
    Calls Try.prog 75 #[.pointer (some ⟨T.p, 0, none⟩), .int .i64 id, .int .i64 q] w (TabPost S T (.tuple #[.int .i64 (T.mc.ends q (dirT T.back (S.txt id)) : Nat), .nilIface]) (tabA T).fp w) := by
  have h0 := h
  rw [sep_ho] at h
  obtain ⟨h1, h2, hd⟩ := h
  have H := St.one h1
  have HK : Ks w (tabA T).fp [stoA T.s lv m S] := ⟨by simpa using h2, by simpa using fun b hb hm => hd b hm hb⟩
  have HE : Hid (∀ w, ((tabA T).sep (stoA T.s lv m S)).ho w → Calls Try.prog 101 #[.pointer (some ⟨T.p, 0, none⟩), .int .i64 id, .int .i64 q] w (fun e w' => ∃ T' a1 n1 c1 a2 n2 c2, e = .returned (.tuple #[.agg #[.slice a1 n1 c1, .slice a2 n2 c2], .nilIface]) ∧ T.Ext T' ∧ TabOk S T' ∧ (id ≠ 0 → EffAt T'.P T.mc (dirT T.back (S.txt id)) (.slice a1 n1 c1) (.slice a2 n2 c2)) ∧ St w (tabA T).fp [tabA T'] w')) := Lib.hid fun w h => effect_c hS hT hid hq w h
  obtain ⟨cn, ok⟩ := hT.ok
  have HOK := Lib.hid ok
  have HD := Lib.hid hd
  by_cases hz : id = 0
  · have e0 : T.mc.ends q (dirT T.back (S.txt id)) = q := by subst hz; rw [S.txt_zero]; unfold dirT; split <;> rfl
    rw [e0]
    have hz0 : ((id : Int) == 0) = true := by simp [hz]
    clear hT h0 h1 h2 hd hz e0
    go_enter Try.func75, Try.ntmps75
    go_wp2_with (first | refine sL ?_ | (refine sS ?_; clear H; intro _ H) | (refine sA ?_; clear H; intro _ _ H) | (go_at_call 101; with_reducible refine Calls.mono (HE.out _ (sep_mk (H.get (A := tabA T) pk) (H.known HK pk) HD.out)) ?_; rintro e wc ⟨T', a1, n1, c1, a2, n2, c2, rfl, hext, hT', hef, hb⟩; replace H := H.pick (A := tabA T) pk; replace H := H.call hb; clear hb; simp only [List.cons_append, List.nil_append] at H; have HX := Lib.hid hext; have HT2 := Lib.hid hT'; skip; clear hext hT' hef))
    go_ret2
    exact ⟨T', rfl, HX.out, HT2.out, (H.pick (A := tabA T') pk).onlyHead⟩
  · have hz0 : ((id : Int) == 0) = false := by simp; omega
    have hget := effE_get hq (dirT T.back (S.txt id))
    have HG := Lib.hid hget
    have HZ := Lib.hid hz
    have hr := ok.ends_lt hq (l := dirT T.back (S.txt id)) fun b hb => S.txt_lt hS hid b (by unfold dirT at hb; split at hb; simpa using hb; exact hb)
    have hn256 := ok.n256
    generalize T.mc.ends q (dirT T.back (S.txt id)) = r at *
    clear hT h0 h1 h2 hd hz hget
    go_enter Try.func75, Try.ntmps75
    go_wp2_with (first | refine sL ?_ | (refine sS ?_; clear H; intro _ H) | (refine sA ?_; clear H; intro _ _ H) | (go_at_call 101; with_reducible refine Calls.mono (HE.out _ (sep_mk (H.get (A := tabA T) pk) (H.known HK pk) HD.out)) ?_; rintro e wc ⟨T', a1, n1, c1, a2, n2, c2, rfl, hext, hT', hef, hb⟩; replace H := H.pick (A := tabA T) pk; replace H := H.call hb; clear hb; simp only [List.cons_append, List.nil_append] at H; have HX := Lib.hid hext; have HT2 := Lib.hid hT'; obtain ⟨g1, o1, d1, he1, hrow⟩ := (EffAt.rowE (hef HZ.out)).hasN (effE_len _ _) (Nat.lt_of_le_of_lt (Nat.zero_le _) hq); injection he1 with x1 x2 x3; subst x1 x2 x3; have HROW := Lib.hid hrow; clear hrow; clear hext hT' hef) | ((with_reducible refine isLoad ?_); refine AtLoad.cel rfl rfl rfl rfl (HROW.out.cell (tabA_pool (H.get (A := tabA T') pk)) enc8_len HG.out rfl) ?_; simp only [Act.put, puA, puB, puC]))
    go_ret2
    exact ⟨T', rfl, HX.out, HT2.out, (H.pick (A := tabA T') pk).onlyHead⟩
end Go.Proofs.Ytijnhpaafhcndaa
end
section
namespace Go.Proofs.Ytijnhpaafhcndaa
open Go.RowKit Go.Maps
attribute [local go_sem] InGr
set_option maxHeartbeats 4000000
set_option maxRecDepth 100000
set_option linter.unusedSimpArgs false
set_option linter.unusedVariables false
theorem send_c {S : Sto} {T : Tab} {lv : Value} {m id q : Nat} (hS : S.Ok) (hT : TabOk S T) (hid : id ≤ S.list.length) (hq : q < T.mc.n) (w : World) (h : ((tabA T).sep (stoA T.s lv m S)).ho w) :
    Calls Try.prog 46 #[.pointer (some ⟨T.p, 0, none⟩), .int .i64 id, .int .i64 q] w (TabPost S T (.int .i64 (T.mc.ends q (dirT T.back (S.txt id)) : Nat)) (tabA T).fp w) := by
  have h0 := h
  rw [sep_ho] at h
  obtain ⟨h1, h2, hd⟩ := h
  have H := St.one h1
  have HK : Ks w (tabA T).fp [stoA T.s lv m S] := ⟨by simpa using h2, by simpa using fun b hb hm => hd b hm hb⟩
  have HD := Lib.hid hd
  have HE : Hid (∀ w, ((tabA T).sep (stoA T.s lv m S)).ho w → Calls Try.prog 75 #[.pointer (some ⟨T.p, 0, none⟩), .int .i64 id, .int .i64 q] w (fun e w' => ∃ T', e = .returned (.tuple #[.int .i64 (T.mc.ends q (dirT T.back (S.txt id)) : Nat), .nilIface]) ∧ T.Ext T' ∧ TabOk S T' ∧ St w (tabA T).fp [tabA T'] w')) := Lib.hid fun w h => end_c hS hT hid hq w h
  generalize T.mc.ends q (dirT T.back (S.txt id)) = r at *
  clear hT h0 h1 h2 hd
  go_enter Try.func46, Try.ntmps46
  go_wp2_with (first | (go_at_call 75; with_reducible refine Calls.mono (HE.out _ (sep_mk (H.get (A := tabA T) pk) (H.known HK pk) HD.out)) ?_; rintro e wc ⟨T', rfl, hext, hT', hb⟩; replace H := H.pick (A := tabA T) pk; replace H := H.call hb; clear hb; simp only [List.cons_append, List.nil_append] at H; have HX := Lib.hid hext; have HT2 := Lib.hid hT'; clear hext hT'))
  go_ret
  exact ⟨T', rfl, HX.out, HT2.out, H⟩
theorem ssize_c {S : Sto} {T : Tab} {lv : Value} {m id : Nat} (hS : S.Ok) (hT : TabOk S T) (hid : id ≤ S.list.length) (w : World) (h : (tabA T).ho w) (hs : (stoA T.s lv m S).ho w) :
    Calls Try.prog 36 #[.pointer (some ⟨T.p, 0, none⟩), .int .i64 id] w fun e w' => e = .returned (.int .i64 (S.txt id).length) ∧ St w [] [] w' := by
  have H := St.nil w []
  have HK : Ks w [] [tabA T, stoA T.s lv m S] := Ks.two h hs
  obtain ⟨x, hx⟩ := enAt_some hid
  have HST : Hid (∀ w, (tabA T).ho w → Calls Try.prog 44 #[.pointer (some ⟨T.p, 0, none⟩)] w fun e w' => e = .returned (.pointer (some ⟨T.s, 0, none⟩)) ∧ w' = w) := Lib.hid fun w h => store_c hT w h
  have HW : Hid (∀ w, (stoA T.s lv m S).ho w → Calls Try.prog 30 #[.pointer (some ⟨T.s, 0, none⟩), .int .i64 (id : Int)] w fun e w' => e = .returned (.tuple #[.agg #[.int .i64 x.w.len, .int .i64 x.w.lines, .int .i64 x.w.head, .int .i64 x.w.tail, .int .u64 x.w.val, .int .u64 x.w.scale], .nilIface]) ∧ St w [] [] w') := Lib.hid fun w h => weight_c hx w h
  have hl := S.txt_len hS hx
  rw [hl]
  clear hT h hs hl
  go_enter Try.func36, Try.ntmps36
  go_wp2_with (first | refine sL ?_ | (refine sS ?_; clear H; intro _ H) | (refine sA ?_; clear H; intro _ _ H) | (go_at_call 44; with_reducible refine Calls.mono (HST.out _ (H.known HK pk)) ?_; rintro e wc ⟨rfl, rfl⟩) | (go_at_call 30; with_reducible refine Calls.mono (HW.out _ (H.known HK pk)) ?_; rintro e wc ⟨rfl, hb⟩; replace H := H.grew hb.below; clear hb))
  go_ret
  exact ⟨rfl, H.nix⟩
theorem lcheck_c {S : Sto} {T : Tab} {lv : Value} {m id : Nat} (hT : TabOk S T) (hb : T.back = false) (hid : id ≤ S.list.length) (w : World) (h : (tabA T).ho w) (hs : (stoA T.s lv m S).ho w) :
    Calls Try.prog 34 #[.pointer (some ⟨T.p, 0, none⟩), .int .i64 id] w fun e w' => e = .returned .nilIface ∧ w' = w := by
  have H := St.nil w []
  have HK := Ks.nil w []
  have HST : Hid (Calls Try.prog 44 #[.pointer (some ⟨T.p, 0, none⟩)] w fun e w' => e = .returned (.pointer (some ⟨T.s, 0, none⟩)) ∧ w' = w) := Lib.hid (store_c hT w h)
  have HBK : Hid (Calls Try.prog 65 #[.pointer (some ⟨T.p, 0, none⟩)] w fun e w' => e = .returned (.bool false) ∧ w' = w) := Lib.hid (hb ▸ back_c hT w h)
  have HLEN : Hid (Calls Try.prog 66 #[.pointer (some ⟨T.s, 0, none⟩)] w fun e w' => e = .returned (.int .i64 S.list.length) ∧ w' = w) := Lib.hid (len_c w hs)
  have d1 : decide ((id : Int) < 0) = false := by simp
  have d2 : decide (S.list.length < id) = false := by simp; omega
  generalize S.list.length = len at *
  clear hT h hs hb
  go_enter Try.func34, Try.ntmps34
  go_wp2_with (first | (go_at_call 44; with_reducible refine same (HST.out) ?_) | (go_at_call 65; with_reducible refine same (HBK.out) ?_) | (go_at_call 66; with_reducible refine same (HLEN.out) ?_))
  go_ret
  exact ⟨rfl, rfl⟩
theorem machine_c {S : Sto} {T : Tab} (hT : TabOk S T) (w : World) (h : (tabA T).ho w) :
    Calls Try.prog 39 #[.pointer (some ⟨T.p, 0, none⟩)] w (CloPost T.mc w) := by
  have HK := tabA_ks h
  have H := St.nil w []
  obtain ⟨c, ok⟩ := hT.ok
  have hmac := hT.mac
  obtain ⟨gc, oc, cc, gn, on, cn, ga, oa, ca, gh, oh, ch, e1, e2, e3, e4⟩ := hT.shapes
  have hc : tabCells T = tabC T gc oc cc gn on cn ga oa ca gh oh ch := by unfold tabCells tabC; rw [e1, e2, e3, e4]
  rw [e1, e2, e3] at hmac
  rw [hc, tabC] at HK
  have HCL : Hid (∀ w, (poolA T.P).ho w → Calls Try.prog 59 #[.agg #[.int .i64 T.mc.start, .slice (some ⟨gc, oc, none⟩) 256 cc, .slice (some ⟨gn, on, none⟩) T.mc.n cn, .slice (some ⟨ga, oa, none⟩) T.mc.n ca]] w fun e w' => ∃ g1 o1 c1 g2 o2 c2 g3 o3 c3 rvs P, e = .returned (.agg #[.int .i64 T.mc.start, .slice (some ⟨g1, o1, none⟩) 256 c1, .slice (some ⟨g2, o2, none⟩) T.mc.n c2, .slice (some ⟨g3, o3, none⟩) T.mc.n c3]) ∧ MacAt P (.slice (some ⟨g1, o1, none⟩) 256 c1) (.slice (some ⟨g2, o2, none⟩) T.mc.n c2) (.slice (some ⟨g3, o3, none⟩) T.mc.n c3) rvs T.mc ∧ St w [] [poolA P] w') := Lib.hid fun w hp => by
    refine (clone_c ok hmac w hp).mono ?_
    rintro e w' ⟨cv, nv, av, rvs, P, he, hm, hs⟩
    obtain ⟨g1, o1, c1, rfl, _⟩ := hm.cls.hasN ok.cls (by omega)
    obtain ⟨g2, o2, c2, rfl, _⟩ := hm.next.hasN hm.len ok.n1
    obtain ⟨g3, o3, c3, rfl, _⟩ := hm.acc.hasN ok.acc ok.n1
    exact ⟨g1, o1, c1, g2, o2, c2, g3, o3, c3, rvs, P, he, hm, hs⟩
  clear hc hT h hmac ok e1 e2 e3 e4
  go_enter Try.func39, Try.ntmps39
  go_wp2_with (first | refine sL ?_ | (refine sS ?_; clear H; intro _ H) | (refine sA ?_; clear H; intro _ _ H) | (go_at_call 59; with_reducible refine Calls.mono (HCL.out _ (H.known HK pk)) ?_; rintro e wc ⟨g1, o1, c1, g2, o2, c2, g3, o3, c3, rvs, P, rfl, hm, hb⟩; replace H := H.call0 hb; have HM := Lib.hid hm; clear hb hm; simp only [List.cons_append, List.nil_append] at H))
  refine bodyPost_ret (res_row rfl H rfl pk rfl) rfl ?_
  exact ⟨_, _, _, rvs, P, rfl, HM.out, (H.pick (A := poolA P) pk).onlyHead⟩
end Go.Proofs.Ytijnhpaafhcndaa
end
section
namespace Go.Proofs
open Go.Shelf
def Try.laysRp_ren : Go.Shelf.Ren := ⟨fun | 35 => 98 | n => n, fun | 22 => 171 | 23 => 173 | n => n, fun | n => n⟩
theorem Try.laysRp : Go.Proofs.SlLaysE0.n35 Try.prog Try.laysRp_ren := {
  mixed := by kernel_rfl
  f35 := ⟨Try.f98.name, by decide, Try.func98.trans (congrArg some (by kernel_rfl))⟩
  t0 := Try.underlying0
  a0 := Try.isAgg0
  z0 := Try.sizeOf0
  v0 := Try.zeroValue0
  t3 := Try.underlying3
  a3 := Try.isAgg3
  z3 := Try.sizeOf3
  v3 := Try.zeroValue3
  t4 := Try.underlying4
  a4 := Try.isAgg4
  z4 := Try.sizeOf4
  v4 := Try.zeroValue4
  t22 := Try.underlying171
  a22 := Try.isAgg171
  z22 := Try.sizeOf171
  v22 := Try.zeroValue171 }
end Go.Proofs
namespace Go.Proofs.Ytijnhpaafhcndaa
open Go.RowKit Go.Maps Go.Sort
set_option maxHeartbeats 2000000
set_option maxRecDepth 100000
set_option linter.unusedSimpArgs false
set_option linter.unusedVariables false
section
variable {α : Type} [Inhabited α] {enc : α → List Value} {e k g n c : Nat} {xs : List α} {w : World}
theorem flatK_list (hk : ∀ x, (enc x).length = k) (hk0 : 0 < k) (xs : List α) (j : Nat) (hj : j < xs.length * k) : (flatG enc xs)[j]? = some ((flatK enc k xs.toArray)[j]!) := by
  rw [get_flatK enc k xs.toArray j (by simpa using hj)]
  have h1 : j / k < xs.length := Nat.div_lt_of_lt_mul (by rw [Nat.mul_comm]; exact hj)
  have h2 := Nat.mod_lt j hk0
  have h3 := flatG_get enc k hk xs (j / k) xs[j / k] (by simp) (j % k) h2
  rw [Nat.mul_comm, Nat.div_add_mod] at h3
  rw [h3]
  have h4 : (xs.toArray)[j / k]! = xs[j / k] := by rw [getElem!_pos _ _ (by simpa using h1)]; simp
  rw [h4]
  have h5 : j % k < (enc xs[j / k]).length := by rw [hk]; exact h2
  rw [List.getElem?_eq_getElem h5, getElem!_pos (enc xs[j / k]) (j % k) h5]
theorem holdsK_of (hk : ∀ x, (enc x).length = k) (hk0 : 0 < k) (h : (rowsA enc e k (.slice (some ⟨g, 0, none⟩) n c) xs).ho w) : HoldsK enc k w g 0 xs.toArray := by
  intro j hj
  rw [size_flatK] at hj
  simp at hj
  rw [rowsA_ho] at h
  have hf := flatK_list hk hk0 xs j hj
  have hcell := World.ownsRow.cells h (g := g) rfl j _ hf
  rw [Addr.add_mid] at hcell
  refine ⟨hcell, ?_⟩
  rcases h.2 with ⟨h', _⟩ | ⟨g', cap, cur, h', _, hg, _⟩
  · cases h'
  · injection h' with e1
    injection e1 with e1
    injection e1 with e1
    subst e1
    simp [World.frozen?, hg]
theorem rowsA_put (hk : ∀ x, (enc x).length = k) (hk0 : 0 < k) {ys : List α} (hy : ys.length = xs.length) (m : Nat) (h : (rowsA enc e k (.slice (some ⟨g, 0, none⟩) n c) xs).ho w) :
    St w (rowsA enc e k (.slice (some ⟨g, 0, none⟩) n c) xs).fp [rowsA enc e k (.slice (some ⟨g, 0, none⟩) n c) ys] (putRowK enc k (Go.Sort.ahead w m) g 0 ys.toArray) := by
  have hh := holdsK_of hk hk0 h
  rw [rowsA_ho] at h
  obtain ⟨hlen, h2⟩ := h
  rcases h2 with ⟨h', _⟩ | ⟨g', cap, cur, h', h3, hg, h5, h6, h7, h8⟩
  · cases h'
  · injection h' with e1 e2 e3
    injection e1 with e1
    injection e1 with e1
    subst e1 e2 e3
    have hfk : (flatK enc k ys.toArray).size = xs.length * k := by rw [size_flatK]; simp [hy]
    have hnew : (putRowK enc k (Go.Sort.ahead w m) g 0 ys.toArray).heap[g]? = some (.cells (putCells id 0 (flatK enc k ys.toArray) cur) e) := by
      unfold putRowK putRow mapBlock
      simp [Array.getElem?_modify, Go.Sort.ahead, hg, onCells]
    refine ⟨rfl, rfl, rfl, by simp [putRowK, Go.Sort.ahead], fun b hb hm => ?_, fun A hA => ?_, fun A hA b hb => ?_, by simp⟩
    · rw [rowsA_fp'] at hm
      simp [Value.ownBlock] at hm
      unfold putRowK putRow mapBlock
      simp [Array.getElem?_modify, Go.Sort.ahead, Ne.symm hm]
    · simp only [List.mem_singleton] at hA
      subst hA
      rw [rowsA_ho]
      refine ⟨flatG_len enc k hk ys, .inr ⟨g, c, _, by rw [hy], h3, hnew, by omega, h6, by simp [putCells, h7], ?_⟩⟩
      apply List.ext_getElem?
      intro j
      by_cases hj : j < ys.length * k
      · rw [List.getElem?_take, if_pos hj, flatK_list hk hk0 ys j hj]
        have hcs : j < cur.size := by rw [h7]; exact Nat.lt_of_lt_of_le hj (Nat.mul_le_mul_right _ (by omega))
        simp only [putCells, Array.getElem?_toList, Array.getElem?_mapIdx, Array.getElem?_eq_getElem hcs, Option.map_some, id_eq, Nat.zero_add, Nat.sub_zero]
        rw [if_pos ⟨Nat.zero_le _, by rw [hfk, ← hy]; exact hj⟩]
      · rw [List.getElem?_eq_none (by rw [List.length_take]; omega), List.getElem?_eq_none (by rw [flatG_len enc k hk]; omega)]
    · simp only [List.mem_singleton] at hA
      subst hA
      rw [rowsA_fp'] at hb ⊢
      exact .inr hb
end
def encC (p : Pc) : List Value := [.int .i64 p.id, .int .i64 p.at_, .int .i64 p.n]
theorem encC_len (p : Pc) : (encC p).length = 3 := rfl
theorem encC_one (p : Pc) : ∀ u ∈ encC p, u.oneCell' = true := by
  intro u hu
  simp only [encC, List.mem_cons, List.not_mem_nil, or_false] at hu
  rcases hu with rfl | rfl | rfl <;> rfl
instance : Inhabited Pc := ⟨⟨0, 0, 0⟩⟩
theorem rev_c {ad : Option Addr} {c n : Nat} {xs : List Pc} (hn : xs.length = n) (hx : n ≤ 16777216) (w : World) (h : (rowsA encC 173 3 (.slice ad n c) xs).ho w) :
    Calls Try.prog 98 #[.slice ad n c] w fun e w' => e = .returned (.tuple #[]) ∧ St w (rowsA encC 173 3 (.slice ad n c) xs).fp [rowsA encC 173 3 (.slice ad n c) xs.reverse] w' := by
  subst hn
  by_cases h0 : xs.length = 0
  · have hxs : xs = [] := List.eq_nil_of_length_eq_zero h0
    subst hxs
    have := AnyQ.slices_Reverse_empty Try.laysRp ad c w
    refine this.mono ?_
    rintro e w' ⟨rfl, rfl⟩
    exact ⟨rfl, St.one h⟩
  · obtain ⟨g, c', he, _, _⟩ := rowsA_cases h (by omega)
    injection he with e1 e2 e3
    subst e1 e3
    have hK := holdsK_of encC_len (by omega) h
    have := AnyQ.slices_Reverse Try.laysRp 3 Try.isAgg173 Try.sizeOf173 encC encC_len encC_one g 0 c xs.toArray w hK (by simp; omega)
    refine this.mono ?_
    rintro e w' ⟨rfl, m, rfl⟩
    have e5 : xs.toArray.reverse = xs.reverse.toArray := by simp
    rw [e5]
    exact ⟨rfl, rowsA_put encC_len (by omega) (by simp) m h⟩
end Go.Proofs.Ytijnhpaafhcndaa
end
section
namespace Go.Proofs.Ytijnhpaafhcndaa
open Go.RowKit Go.Maps
attribute [local go_sem] InGr
set_option maxHeartbeats 4000000
set_option maxRecDepth 100000
set_option linter.unusedSimpArgs false
set_option linter.unusedVariables false
def PPost (M : List Nat) (ys : List Pc) (w : World) (e : Ending) (w' : World) : Prop := ∃ ad c, e = .returned (.slice ad ys.length c) ∧ St w M [rowsA encC 173 3 (.slice ad ys.length c) ys] w'
theorem ppair_hi {ad : Option Addr} {c : Nat} (i L R s n len s' : Nat) (hle : len ≤ s) (hs' : s' = s - len) (hb : s ≤ 1152921504606846976) (w : World) (h : (rowsA encC 173 3 (.slice ad 0 c) []).ho w) :
    Calls Try.prog 95 #[.slice ad 0 c, .agg #[.int .i64 (2 : Nat), .int .u8 (0 : Nat), .int .i64 L, .int .i64 R, .int .i64 (0 : Nat)], .agg #[.int .i64 i, .int .i64 s, .int .i64 n], .int .i64 len] w (PPost (rowsA encC 173 3 (.slice ad 0 c) []).fp [⟨R, s', n⟩] w) := by
  have H := St.one h
  have HK := Ks.nil w (rowsA encC 173 3 (.slice ad 0 c) []).fp
  generalize (rowsA encC 173 3 (.slice ad 0 c) []).fp = M at *
  have hsub : (s : Int) - len = (s' : Nat) := by omega
  clear h hs'
  go_enter Try.func95, Try.ntmps95
  go_wp2_with (first | refine sL ?_ | (refine sB ?_; clear H; intro _ _ H) | ((with_reducible refine isSlice ?_); refine AtSlice.one H rfl rfl rfl rfl rfl rfl rfl rfl rfl ?_; clear H; intro b _ H; simp only [Act.put, puA, puB, puC]) | ((with_reducible refine isAppend ?_); refine AtAppend.go (enc := encC) (xs := []) H rfl rfl rfl rfl rfl (by decide) (by decide) rfl pk rfl (H.at pk) [⟨R, s', n⟩] rfl (by simp [flatG, encC]) encC_len encC_one (by simp) ?_; clear H; intro ad9 cp9 _ H; simp only [Act.put, puA, puB, puC]))
  go_ret
  exact ⟨ad9, cp9, rfl, H.onlyHead⟩
theorem ppair_lo {ad : Option Addr} {c : Nat} (i L R s n len n' m : Nat) (hlt : s < len) (hn' : n' = min n (len - s)) (hm : m = n - n') (hb : len ≤ 1152921504606846976) (hb2 : n ≤ 1152921504606846976) (w : World) (h : (rowsA encC 173 3 (.slice ad 0 c) []).ho w) :
    Calls Try.prog 95 #[.slice ad 0 c, .agg #[.int .i64 (2 : Nat), .int .u8 (0 : Nat), .int .i64 L, .int .i64 R, .int .i64 (0 : Nat)], .agg #[.int .i64 i, .int .i64 s, .int .i64 n], .int .i64 len] w (PPost (rowsA encC 173 3 (.slice ad 0 c) []).fp [⟨L, s, n'⟩, ⟨R, 0, m⟩] w) := by
  have H := St.one h
  have HK := Ks.nil w (rowsA encC 173 3 (.slice ad 0 c) []).fp
  generalize (rowsA encC 173 3 (.slice ad 0 c) []).fp = M at *
  have hmin : min (n : Int) ((len : Int) - s) = (n' : Nat) := by omega
  have hsub : (n : Int) - n' = (m : Nat) := by omega
  clear h hn' hm
  go_enter Try.func95, Try.ntmps95
  go_wp2_with (first | refine sL ?_ | (refine sB ?_; clear H; intro _ _ H) | ((with_reducible refine isSlice ?_); refine AtSlice.two encC H rfl rfl rfl rfl rfl rfl rfl rfl ⟨L, s, n'⟩ ⟨R, 0, m⟩ rfl rfl encC_len ?_; clear H; intro b _ H; simp only [Act.put, puA, puB, puC]) | ((with_reducible refine isAppend ?_); refine AtAppend.go (enc := encC) (xs := []) H rfl rfl rfl rfl rfl (by decide) (by decide) rfl pk rfl (H.at pk) [⟨L, s, n'⟩, ⟨R, 0, m⟩] rfl rfl encC_len encC_one (by simp) ?_; clear H; intro ad9 cp9 _ H; simp only [Act.put, puA, puB, puC]))
  go_ret
  exact ⟨ad9, cp9, rfl, H.onlyHead⟩
theorem tmod_nat (a b : Nat) : (a : Int).tmod b = ((a % b : Nat) : Int) := by rw [Int.tmod_eq_emod_of_nonneg (by omega)]; rfl
theorem ppower_on {ad : Option Addr} {c : Nat} (i L k s n len at_ n' s2 n2 rest n3 : Nat) (hlen : 0 < len) (hat : at_ = s % len) (hpos : 0 < at_) (hn' : n' = min n (len - at_)) (hs2 : s2 = s + n') (hn2 : n2 = n - n') (hr : rest = n2 % len) (hn3 : n3 = n2 - rest) (hb : s + n ≤ 1152921504606846976) (hb2 : len ≤ 1152921504606846976) (w : World) (h : (rowsA encC 173 3 (.slice ad 0 c) []).ho w) :
    Calls Try.prog 96 #[.slice ad 0 c, .agg #[.int .i64 (3 : Nat), .int .u8 (0 : Nat), .int .i64 L, .int .i64 (0 : Nat), .int .i64 k], .agg #[.int .i64 i, .int .i64 s, .int .i64 n], .int .i64 len] w (PPost (rowsA encC 173 3 (.slice ad 0 c) []).fp [⟨L, at_, n'⟩, ⟨i, s2, n3⟩, ⟨L, 0, rest⟩] w) := by
  have H := St.one h
  have HK := Ks.nil w (rowsA encC 173 3 (.slice ad 0 c) []).fp
  generalize (rowsA encC 173 3 (.slice ad 0 c) []).fp = M at *
  have hatl := Nat.mod_lt s hlen
  have hrl := Nat.mod_lt n2 hlen
  have hrle := Nat.mod_le n2 len
  have e1 : (s : Int) % len = (at_ : Nat) := by rw [hat]; rfl
  have e1' : (s : Int).tmod len = (at_ : Nat) := by rw [tmod_nat, hat]
  have e2 : min (n : Int) ((len : Int) - at_) = (n' : Nat) := by omega
  have e3 : (s : Int) + n' = (s2 : Nat) := by omega
  have e4 : (n : Int) - n' = (n2 : Nat) := by omega
  have e5 : (n2 : Int) % len = (rest : Nat) := by rw [hr]; rfl
  have e5' : (n2 : Int).tmod len = (rest : Nat) := by rw [tmod_nat, hr]
  have e6 : (n2 : Int) - rest = (n3 : Nat) := by omega
  have e7 : ((len : Int) == 0) = false := by simp; omega
  have b1 : n' ≤ n := by omega
  have b2 : s2 ≤ 1152921504606846976 := by omega
  have b3 : n2 ≤ n := by omega
  have b4 : rest ≤ n2 := by omega
  clear h hat hn' hs2 hn2 hr hn3 hatl hrl hrle
  go_enter Try.func96, Try.ntmps96
  go_wp2_with (first | refine sL ?_ | (refine sS ?_; clear H; intro _ H) | (refine sB ?_; clear H; intro _ _ H) | ((with_reducible refine isSlice ?_); refine AtSlice.two encC H rfl rfl rfl rfl rfl rfl rfl rfl ⟨i, s2, n3⟩ ⟨L, 0, rest⟩ rfl rfl encC_len ?_; clear H; intro b _ H; simp only [Act.put, puA, puB, puC]) | ((with_reducible refine isSlice ?_); refine AtSlice.one H rfl rfl rfl rfl rfl rfl rfl rfl rfl ?_; clear H; intro b _ H; simp only [Act.put, puA, puB, puC]) | ((with_reducible refine isAppend ?_); refine AtAppend.go (enc := encC) (xs := []) H rfl rfl rfl rfl rfl (by decide) (by decide) rfl pk rfl (H.at pk) [⟨L, at_, n'⟩] rfl (by simp [flatG, encC]) encC_len encC_one (by simp) ?_; clear H; intro ad9 cp9 _ H; simp only [Act.put, puA, puB, puC]) | ((with_reducible refine isAppend ?_); refine AtAppend.go (enc := encC) (xs := [⟨L, at_, n'⟩]) H rfl rfl rfl rfl rfl (by decide) (by decide) rfl pk rfl (H.at pk) [⟨i, s2, n3⟩, ⟨L, 0, rest⟩] rfl rfl encC_len encC_one (by simp) ?_; clear H; intro ad8 cp8 _ H; simp only [Act.put, puA, puB, puC]))
  go_ret
  exact ⟨ad8, cp8, rfl, H.onlyHead⟩
theorem ppower_off {ad : Option Addr} {c : Nat} (i L k s n len rest n3 : Nat) (hlen : 0 < len) (hat : s % len = 0) (hr : rest = n % len) (hn3 : n3 = n - rest) (hb : s + n ≤ 1152921504606846976) (hb2 : len ≤ 1152921504606846976) (w : World) (h : (rowsA encC 173 3 (.slice ad 0 c) []).ho w) :
    Calls Try.prog 96 #[.slice ad 0 c, .agg #[.int .i64 (3 : Nat), .int .u8 (0 : Nat), .int .i64 L, .int .i64 (0 : Nat), .int .i64 k], .agg #[.int .i64 i, .int .i64 s, .int .i64 n], .int .i64 len] w (PPost (rowsA encC 173 3 (.slice ad 0 c) []).fp [⟨i, s, n3⟩, ⟨L, 0, rest⟩] w) := by
  have H := St.one h
  have HK := Ks.nil w (rowsA encC 173 3 (.slice ad 0 c) []).fp
  generalize (rowsA encC 173 3 (.slice ad 0 c) []).fp = M at *
  have hrle := Nat.mod_le n len
  have e1 : (s : Int) % len = 0 := by omega
  have e1' : (s : Int).tmod len = 0 := by rw [tmod_nat, hat]; rfl
  have e5 : (n : Int) % len = (rest : Nat) := by rw [hr]; rfl
  have e5' : (n : Int).tmod len = (rest : Nat) := by rw [tmod_nat, hr]
  have e6 : (n : Int) - rest = (n3 : Nat) := by omega
  have e7 : ((len : Int) == 0) = false := by simp; omega
  have b4 : rest ≤ n := by omega
  clear h hat hr hn3 hrle
  go_enter Try.func96, Try.ntmps96
  go_wp2_with (first | refine sL ?_ | (refine sS ?_; clear H; intro _ H) | (refine sB ?_; clear H; intro _ _ H) | ((with_reducible refine isSlice ?_); refine AtSlice.two encC H rfl rfl rfl rfl rfl rfl rfl rfl ⟨i, s, n3⟩ ⟨L, 0, rest⟩ rfl rfl encC_len ?_; clear H; intro b _ H; simp only [Act.put, puA, puB, puC]) | ((with_reducible refine isAppend ?_); refine AtAppend.go (enc := encC) (xs := []) H rfl rfl rfl rfl rfl (by decide) (by decide) rfl pk rfl (H.at pk) [⟨i, s, n3⟩, ⟨L, 0, rest⟩] rfl rfl encC_len encC_one (by simp) ?_; clear H; intro ad8 cp8 _ H; simp only [Act.put, puA, puB, puC]))
  go_ret
  exact ⟨ad8, cp8, rfl, H.onlyHead⟩
def encT (p : Pt) : List Value := [.int .i64 p.id, .int .i64 p.power, .int .i64 p.times]
theorem encT_len (p : Pt) : (encT p).length = 3 := rfl
theorem encT_one (p : Pt) : ∀ u ∈ encT p, u.oneCell' = true := by
  intro u hu
  simp only [encT, List.mem_cons, List.not_mem_nil, or_false] at hu
  rcases hu with rfl | rfl | rfl <;> rfl
theorem pcopies_one (i L k s n len : Nat) (hn : n = len) (w : World) :
    Calls Try.prog 97 #[.agg #[.int .i64 (3 : Nat), .int .u8 (0 : Nat), .int .i64 L, .int .i64 (0 : Nat), .int .i64 k], .agg #[.int .i64 i, .int .i64 s, .int .i64 n], .int .i64 len] w fun e w' => e = .returned (.agg #[.int .i64 L, .int .i64 (0 : Nat), .int .i64 (1 : Nat)]) ∧ St w [] [] w' := by
  subst hn
  have H := St.nil w []
  have HK := Ks.nil w []
  go_enter Try.func97, Try.ntmps97
  go_wp2_with (first | refine sL ?_ | (refine sS ?_; clear H; intro _ H) | (refine sB ?_; clear H; intro _ _ H) | (refine sA ?_; clear H; intro _ _ H))
  exact bodyPost_ret (res_row rfl H rfl pk rfl) rfl ⟨rfl, H.nix⟩
theorem pcopies_more (i L k s n len q : Nat) (hlen : 0 < len) (hn : n ≠ len) (hq : q = n / len) (hb : n ≤ 1152921504606846976) (w : World) :
    Calls Try.prog 97 #[.agg #[.int .i64 (3 : Nat), .int .u8 (0 : Nat), .int .i64 L, .int .i64 (0 : Nat), .int .i64 k], .agg #[.int .i64 i, .int .i64 s, .int .i64 n], .int .i64 len] w fun e w' => e = .returned (.agg #[.int .i64 L, .int .i64 i, .int .i64 q]) ∧ St w [] [] w' := by
  have H := St.nil w []
  have HK := Ks.nil w []
  have e1 : ((n : Int) == len) = false := by simp; omega
  have e2 : (n : Int) / len = (q : Nat) := by rw [hq]; rfl
  have e2' : (n : Int).tdiv len = (q : Nat) := by rw [Int.tdiv_eq_ediv_of_nonneg (by omega), hq]; rfl
  have e7 : ((len : Int) == 0) = false := by simp; omega
  have hql := Nat.div_le_self n len
  rw [← hq] at hql
  clear hn hq
  go_enter Try.func97, Try.ntmps97
  go_wp2_with (first | refine sL ?_ | (refine sS ?_; clear H; intro _ H) | (refine sB ?_; clear H; intro _ _ H) | (refine sA ?_; clear H; intro _ _ H))
  refine wp_region_h H 9 [] [] (by kernel_rfl) (by kernel_rfl) ?_
  apply Exists.intro
  refine ⟨fun w1 hw1 HX => ?_, fun bs wr Hr => ?_⟩
  · refine sG ?_
    repeat (first | refine sQ ?_ | fail | go_big_quiet_step (fail))
    exact wpQuiet_nil rfl
  clear H
  have H := Hr
  clear Hr
  replace H := sH H; refine sT ?_
  go_wp2_with (first | refine sL ?_ | (refine sS ?_; clear H; intro _ H) | (refine sB ?_; clear H; intro _ _ H) | (refine sA ?_; clear H; intro _ _ H))
  exact bodyPost_ret (res_row rfl H rfl pk rfl) rfl ⟨rfl, H.nix⟩
end Go.Proofs.Ytijnhpaafhcndaa
end
section
namespace Go.Proofs.Ytijnhpaafhcndaa
set_option linter.unusedSimpArgs false
set_option linter.unusedVariables false
def textP (S : Sto) (ps : List Pt) : List Nat := (ps.map S.ptTxt).flatten
def textC (S : Sto) (st : List Pc) : List Nat := (st.map S.pcTxt).flatten
theorem textP_snoc (S : Sto) (ps : List Pt) (t : Pt) : textP S (ps ++ [t]) = textP S ps ++ S.ptTxt t := by simp [textP]
theorem textC_append (S : Sto) (a b : List Pc) : textC S (a ++ b) = textC S a ++ textC S b := by simp [textC]
theorem textC_cons (S : Sto) (p : Pc) (b : List Pc) : textC S (p :: b) = S.pcTxt p ++ textC S b := by simp [textC]
structure PInv (S : Sto) (K : Nat → Prop) (goal : List Nat) (ps : List Pt) (st : List Pc) (d : Nat) : Prop where
  text : textP S ps ++ textC S st.reverse = goal
  pts : ∀ t ∈ ps, PtOk S K t
  pcs : ∀ p ∈ st, PcOk S K p
  cost : CostL S st.reverse d
  bound : ps.length + d ≤ 6 * S.list.length + 6
section
variable {S : Sto} {K : Nat → Prop} {goal : List Nat} {ps : List Pt} {st : List Pc} {p : Pc} {d : Nat}
theorem PInv.split (h : PInv S K goal ps (st ++ [p]) d) : ∃ c e, Cost S p c ∧ CostL S st.reverse e ∧ d = c + e := by
  have := h.cost
  rw [List.reverse_append] at this
  simp only [List.reverse_cons, List.reverse_nil, List.nil_append, List.singleton_append] at this
  cases this with
  | cons hc hs => exact ⟨_, _, hc, hs, rfl⟩
theorem PInv.tops (h : PInv S K goal ps (st ++ [p]) d) : textP S ps ++ (S.pcTxt p ++ textC S st.reverse) = goal := by
  have := h.text
  rw [List.reverse_append] at this
  simpa [textC_cons] using this
theorem PInv.skip (h : PInv S K goal ps (st ++ [p]) d) (hp : S.pcTxt p = []) : ∃ d', d' < d ∧ PInv S K goal ps st d' := by
  obtain ⟨c, e, hc, hs, rfl⟩ := h.split
  have := hc.pos
  have ht := h.tops
  rw [hp, List.nil_append] at ht
  exact ⟨e, by omega, ht, h.pts, fun q hq => h.pcs q (by simp [hq]), hs, by have := h.bound; omega⟩
theorem PInv.take (h : PInv S K goal ps (st ++ [p]) d) {t : Pt} (ht : S.ptTxt t = S.pcTxt p) (ok : PtOk S K t) : ∃ d', d' < d ∧ PInv S K goal (ps ++ [t]) st d' := by
  obtain ⟨c, e, hc, hs, rfl⟩ := h.split
  have := hc.pos
  refine ⟨e, by omega, ?_, fun u hu => ?_, fun q hq => h.pcs q (by simp [hq]), hs, by have := h.bound; simp; omega⟩
  · rw [textP_snoc, List.append_assoc, ht]; exact h.tops
  · rcases List.mem_append.1 hu with hu | hu
    · exact h.pts u hu
    · simp at hu; subst hu; exact ok
theorem PInv.cut (h : PInv S K goal ps (st ++ [p]) d) {nx : List Pc} (ht : textC S nx = S.pcTxt p) (ok : ∀ q ∈ nx, PcOk S K q) (hc : ∀ c, Cost S p c → ∃ e, CostL S nx e ∧ e < c) : ∃ d', d' < d ∧ PInv S K goal ps (st ++ nx.reverse) d' := by
  obtain ⟨c, e, hc1, hs, rfl⟩ := h.split
  obtain ⟨e', he', hlt⟩ := hc c hc1
  refine ⟨e' + e, by omega, ?_, h.pts, fun q hq => ?_, ?_, by have := h.bound; omega⟩
  · rw [List.reverse_append, List.reverse_reverse, textC_append, ht]; exact h.tops
  · rcases List.mem_append.1 hq with hq | hq
    · exact h.pcs q (by simp [hq])
    · exact ok q (List.mem_reverse.1 hq)
  · rw [List.reverse_append, List.reverse_reverse]
    exact he'.append hs
theorem PInv.len (h : PInv S K goal ps st d) : st.length ≤ d := by
  have := h.cost.len
  simpa using this
theorem PInv.first {i s n : Nat} (hi : i ≤ S.list.length) (hk : i = 0 ∨ K i) (hf : s + n ≤ (S.txt i).length) : ∃ d, PInv S K (S.pcTxt ⟨i, s, n⟩) [] [⟨i, s, n⟩] d := by
  have ok : PcOk S K ⟨i, s, n⟩ := ⟨hi, hk, hf⟩
  by_cases h0 : i = 0
  · subst h0
    have hn : n = 0 := by rw [S.txt_zero] at hf; simp at hf; omega
    exact ⟨1, by simp [textP, textC], by simp, by simpa using ok, .one (.nul hn), by simp⟩
  · exact ⟨6 * i, by simp [textP, textC], by simp, by simpa using ok, .one (.any (by simp only; omega)), by simp; omega⟩
theorem full_part (h : PcOk S K p) (h0 : 1 ≤ p.id) (hn : (S.txt p.id).length ≤ p.n) : S.ptTxt ⟨p.id, 0, 1⟩ = S.pcTxt p ∧ PtOk S K ⟨p.id, 0, 1⟩ := by
  have hf := h.fits
  have hz : p.at_ = 0 := by omega
  refine ⟨?_, h0, h.le, ?_, Nat.le_refl _, .inl rfl⟩
  · simp only [Sto.ptTxt, Sto.pcTxt, rep_one, hz, List.drop_zero]
    rw [List.take_of_length_le hn]
  · rcases h.known with h1 | h1
    · omega
    · exact h1
end
end Go.Proofs.Ytijnhpaafhcndaa
end
section
namespace Go.Proofs.Ytijnhpaafhcndaa
set_option linter.unusedSimpArgs false
set_option linter.unusedVariables false
structure CutOk (S : Sto) (K : Nat → Prop) (p : Pc) (nx : List Pc) : Prop where
  text : textC S nx = S.pcTxt p
  ok : ∀ q ∈ nx, PcOk S K q
  cost : ∀ c, Cost S p c → ∃ e, CostL S nx e ∧ e < c
structure TakeOk (S : Sto) (K : Nat → Prop) (p : Pc) (t : Pt) : Prop where
  text : S.ptTxt t = S.pcTxt p
  ok : PtOk S K t
section
variable {S : Sto} {K : Nat → Prop}
structure PairCase (S : Sto) (K : Nat → Prop) (pi pa pn : Nat) (L R : Nat) : Prop where
  lo1 : L ≤ S.list.length
  hi : (S.txt L).length ≤ pa → CutOk S K ⟨pi, pa, pn⟩ [⟨R, pa - (S.txt L).length, pn⟩]
  lo : pa < (S.txt L).length → ∀ n', n' = min pn ((S.txt L).length - pa) → CutOk S K ⟨pi, pa, pn⟩ [⟨L, pa, n'⟩, ⟨R, 0, pn - n'⟩]
structure PowerCase (S : Sto) (K : Nat → Prop) (pi pa pn : Nat) (L k : Nat) : Prop where
  lo1 : L ≤ S.list.length
  pos : 0 < (S.txt L).length
  one : pa % (S.txt L).length = 0 → pn % (S.txt L).length = 0 → pn = (S.txt L).length → TakeOk S K ⟨pi, pa, pn⟩ ⟨L, 0, 1⟩
  more : pa % (S.txt L).length = 0 → pn % (S.txt L).length = 0 → pn ≠ (S.txt L).length → TakeOk S K ⟨pi, pa, pn⟩ ⟨L, pi, pn / (S.txt L).length⟩
  off : pa % (S.txt L).length = 0 → pn % (S.txt L).length ≠ 0 → CutOk S K ⟨pi, pa, pn⟩ [⟨pi, pa, pn - pn % (S.txt L).length⟩, ⟨L, 0, pn % (S.txt L).length⟩]
  on : pa % (S.txt L).length ≠ 0 → ∀ n', n' = min pn ((S.txt L).length - pa % (S.txt L).length) → CutOk S K ⟨pi, pa, pn⟩ [⟨L, pa % (S.txt L).length, n'⟩, ⟨pi, pa + n', pn - n' - (pn - n') % (S.txt L).length⟩, ⟨L, 0, (pn - n') % (S.txt L).length⟩]
theorem piece_case (hS : S.Ok) (hcl : S.Closed K) {i pa pn : Nat} (hok : PcOk S K ⟨i + 1, pa, pn⟩) (h0 : 0 < pn) (hlt : pn < (S.txt (i + 1)).length) :
    ∃ x, S.list[i]? = some x ∧ ((∃ L R, x.r = ⟨2, 0, L, R, 0⟩ ∧ PairCase S K (i + 1) pa pn L R) ∨ (∃ L k, x.r = ⟨3, 0, L, 0, k⟩ ∧ PowerCase S K (i + 1) pa pn L k)) := by
  have hi : i < S.list.length := hok.le
  obtain ⟨x, hx⟩ : ∃ x, S.list[i]? = some x := ⟨_, List.getElem?_eq_getElem hi⟩
  refine ⟨x, hx, ?_⟩
  cases hS.ents i x hx with
  | letter b hb => rw [S.txt_letter hx] at hlt; simp at hlt; omega
  | pair l r y z hl hr hy hz hs =>
    refine .inl ⟨l + 1, r + 1, rfl, by omega, fun h => ?_, fun h n' hn' => ?_⟩
    · refine ⟨?_, ?_, fun c hc => ?_⟩
      · have := (pair_hi hl hr hx hcl hok h (.any (by simp)) h0 hlt).1
        rw [this]; simp [textC]
      · intro q hq
        simp only [List.mem_singleton] at hq
        subst hq
        exact (pair_hi hl hr hx hcl hok h (.any (by simp)) h0 hlt).2.1
      · obtain ⟨_, _, d, hd, hdc⟩ := pair_hi hl hr hx hcl hok h hc h0 hlt
        exact ⟨d, .one hd, hdc⟩
    · refine ⟨?_, ?_, fun c hc => ?_⟩
      · have := (pair_lo hl hr hx hcl hok h hn' (.any (by simp)) h0 hlt).1
        rw [this]; simp [textC]
      · have := pair_lo hl hr hx hcl hok h hn' (.any (by simp)) h0 hlt
        intro q hq
        simp only [List.mem_cons, List.not_mem_nil, or_false] at hq
        rcases hq with rfl | rfl
        · exact this.2.1
        · exact this.2.2.1
      · obtain ⟨_, _, _, d, e, hd, he, hdc⟩ := pair_lo hl hr hx hcl hok h hn' hc h0 hlt
        exact ⟨d + e, .two hd he, hdc⟩
  | power l k y hl hy hk hs =>
    have hpos : 0 < (S.txt (l + 1)).length := by rw [(S.txt_ok hS l y hy).1]; exact (hS.good l y hy).pos
    have hki : K (i + 1) := by rcases hok.known with h | h; cases h; exact h
    have hkl : K (l + 1) := (hcl i _ hki hx).2 rfl
    refine .inr ⟨l + 1, k, rfl, by omega, hpos, fun h1 h2 h3 => ?_, fun h1 h2 h3 => ?_, fun h1 h2 => ?_, fun h1 n' hn' => ?_⟩
    · obtain ⟨e1, _, _⟩ := power_whole hl hx hcl hok hpos h1 h2 h0
      rw [h3, Nat.div_self hpos] at e1
      exact ⟨by rw [h3, e1]; rfl, by simp, by simp only; omega, hkl, Nat.le_refl _, .inl rfl⟩
    · obtain ⟨e1, e2, e3⟩ := power_whole hl hx hcl hok hpos h1 h2 h0
      exact ⟨by rw [e1]; rfl, by simp, by simp only; omega, hkl, e2, .inr ⟨i, y, k, rfl, hki, hx, e3⟩⟩
    · have hc0 : Cost S ⟨i + 1, pa, pn⟩ (6 * (i + 1)) := .any (by simp)
      have hn0 : (0 : Nat) = if pa % (S.txt (l + 1)).length = 0 then 0 else min pn ((S.txt (l + 1)).length - pa % (S.txt (l + 1)).length) := by rw [if_pos h1]
      have hp := fun c hc => power_cut (c := c) hl hx hcl hok hpos hn0 hc h0 hlt (fun h => h2 h.2)
      simp only [Nat.sub_zero, Nat.add_zero] at hp
      refine ⟨?_, ?_, fun c hc => ?_⟩
      · have := (hp _ hc0).1
        rw [this, S.pcTxt_nul _ rfl]; simp [textC]
      · have := hp _ hc0
        intro q hq
        simp only [List.mem_cons, List.not_mem_nil, or_false] at hq
        rcases hq with rfl | rfl
        · exact this.2.2.1
        · exact this.2.2.2.1
      · obtain ⟨_, _, _, _, d, e, f, _, he, hf, _, hlt2⟩ := hp c hc
        exact ⟨e + f, .two he hf, hlt2 h1⟩
    · have hc0 : Cost S ⟨i + 1, pa, pn⟩ (6 * (i + 1)) := .any (by simp)
      have hn1 : n' = if pa % (S.txt (l + 1)).length = 0 then 0 else min pn ((S.txt (l + 1)).length - pa % (S.txt (l + 1)).length) := by rw [if_neg h1]; exact hn'
      have hp := fun c hc => power_cut (c := c) hl hx hcl hok hpos hn1 hc h0 hlt (fun h => h1 h.1)
      refine ⟨?_, ?_, fun c hc => ?_⟩
      · have := (hp _ hc0).1
        rw [this]; simp [textC]
      · have := hp _ hc0
        intro q hq
        simp only [List.mem_cons, List.not_mem_nil, or_false] at hq
        rcases hq with rfl | rfl | rfl
        · exact this.2.1
        · exact this.2.2.1
        · exact this.2.2.2.1
      · obtain ⟨_, _, _, _, d, e, f, hd, he, hf, hlt2, _⟩ := hp c hc
        exact ⟨d + (e + f), .three hd he hf, hlt2⟩
end
end Go.Proofs.Ytijnhpaafhcndaa
end
section
namespace Go.Proofs.Ytijnhpaafhcndaa
open Go.RowKit Go.Maps
attribute [local go_sem] InGr
set_option maxHeartbeats 4000000
set_option maxRecDepth 100000
set_option linter.unusedSimpArgs false
set_option linter.unusedVariables false
section
variable {ops : Array Oper} {Q : Exit → Act → World → Prop} {rest : List Oper} {a : Act} {w w0 : World} {o1 : Oper} {dst : Option Tmp} {ty0 : TypeId} {pos : String} {aft : Array Edge} {gd : Option (Nat × Bool)}
theorem run_cut0 {t e : TypeId} (hte : sliceO t = some e) {z : Value} {k bytes : Nat} (hi : infoO e = some (z, k, bytes)) {ad : Option Addr} {n c : Nat} (had : ad = none ∨ ∃ g, ad = some ⟨g, 0, none⟩) (w : World) :
    (Instr.sliceAt t (.slice ad n c) none (some (.int .i64 0)) none).run Try.prog w = .ok (.slice ad 0 c) w := by
  obtain ⟨i, h2, h3, h4, h5⟩ := infoO_ok hi
  have hu := sliceO_ok hte
  have hb : (Instr.sliceBound (Value.int .i64 0) c .sliceAcap).run Try.prog w = .ok 0 w := by
    unfold Instr.sliceBound
    simp [asIntOf]
  rcases had with rfl | ⟨g, rfl⟩
  · simp [Instr.sliceAt, Instr.slice, Instr.sliceBounds, run_underlying hu, sizeOf, typeInfo, h2, Sem.run_bind, Result.andThen, hb]
  · simp [Instr.sliceAt, Instr.slice, Instr.sliceBounds, run_underlying hu, sizeOf, typeInfo, h2, Sem.run_bind, Result.andThen, hb, Addr.add]
def AtCut (P : Program) (ops : Array Oper) (Q : Exit → Act → World → Prop) (o : Oper) (_ : TypeId) (_ _ : Operand) (rest : List Oper) (a : Act) (w : World) : Prop := wpList P ops Q (o :: rest) a w
theorem isCut {P : Program} {t : TypeId} {x y : Operand} (h : AtCut P ops Q ⟨dst, .slice t x none (some y) none, ty0, pos, aft, gd⟩ t x y rest a w) : wpList P ops Q (⟨dst, .slice t x none (some y) none, ty0, pos, aft, gd⟩ :: rest) a w := h
theorem AtCut.zero {t e : TypeId} {x y : Operand} (hw : Region.wanted o1 (yielded ops a.tmps) = true) (ho : o1.op = .slice t x none (some y) none) (hte : sliceO t = some e) {z : Value} {k bytes : Nat} (hi : infoO e = some (z, k, bytes)) {ad : Option Addr} {n c : Nat} (hx : a.eval x = .slice ad n c) (hy : a.eval y = .int .i64 0) (had : ad = none ∨ ∃ g, ad = some ⟨g, 0, none⟩)
    (h : wpList Try.prog ops Q rest (a.put o1.dst (.slice ad 0 c)) w) : AtCut Try.prog ops Q o1 t x y rest a w :=
  wpList_step fun _ hK => by
    rw [if_pos hw]
    unfold Oper.wp execOp
    simp only [ho, hx, hy, Option.map_none, Option.map_some, Sem.run_bind, run_cut0 hte hi had, Result.andThen_ok, Sem.run_pure]
    exact hK _ _ h
theorem AtAppend.rows {α : Type} {enc : α → List Value} {t e : TypeId} {x y : Operand} {M : List Nat} {L R : List As} (H : St w0 M L w) (hw : Region.wanted o1 (yielded ops a.tmps) = true) (ho : o1.op = .call ⟨.builtin .append, #[x, y], #[t, t]⟩) (hte : sliceO t = some e) {z : Value} {k bytes : Nat} (hi : infoO e = some (z, k, bytes))
    (hz : z.cells.size = k) (hk0 : 0 < k) (hb0 : 0 < bytes) {v : Value} (hx : evalO a x = some v) {xs : List α} (hp : Pick L (rowsA enc e k v xs) R) {u : Value} (hy : evalO a y = some u) {ys : List α} (hu : (rowsA enc e k u ys).ho w) (hk : ∀ x, (enc x).length = k) (h1 : ∀ x, ∀ u ∈ enc x, u.oneCell' = true) (hb : (xs.length + ys.length) * bytes ≤ 140737488355328)
    (h : ∀ ad cp w', St w0 M (rowsA enc e k (.slice ad (xs.length + ys.length) cp) (xs ++ ys) :: R) w' → wpList Try.prog ops Q rest (a.put o1.dst (.slice ad (xs.length + ys.length) cp)) w') : AtAppend Try.prog ops Q o1 t x y rest a w :=
  wpList_step fun _ hK => by
    rw [if_pos hw]
    have H' := H.pick hp
    obtain ⟨v', w', hr, hst⟩ := run_append_rows (ty := o1.type) hte hi hz hk0 hb0 (H'.ho _ List.mem_cons_self) hu hk h1 hb
    unfold Oper.wp execOp
    simp only [ho, resolve, invoke, builtin, Sem.run_bind, Sem.run_pure, Result.andThen_ok, List.map_toArray, List.map_cons, List.map_nil, evalO_eq hx, evalO_eq hy, hr]
    obtain ⟨ad, cp, rfl, _⟩ := rowsA_shape (hst.ho _ List.mem_cons_self)
    have hst2 := H'.call hst
    simp only [List.length_append] at hst2 ⊢
    exact hK _ _ (h ad cp w' hst2)
end
theorem rowsA_zero {α : Type} {enc : α → List Value} {e k n c : Nat} {ad : Option Addr} {xs : List α} {w : World} (h : (rowsA enc e k (.slice ad n c) xs).ho w) : (rowsA enc e k (.slice ad 0 c) ([] : List α)).ho w := by
  rw [rowsA_ho] at h ⊢
  rcases h.2 with ⟨h', hn⟩ | ⟨g', cap, cur, h', h3, h4, h5, h6, h7, h8⟩
  · injection h' with e1 e2 e3
    subst e1 e3
    exact ⟨by simp [flatG], .inl ⟨rfl, rfl⟩⟩
  · injection h' with e1 e2 e3
    subst e1 e3
    exact ⟨by simp [flatG], .inr ⟨g', c, cur, rfl, h3, h4, Nat.zero_le _, h6, h7, by simp [flatG]⟩⟩
theorem rowsA_ad {α : Type} {enc : α → List Value} {e k n c : Nat} {ad : Option Addr} {xs : List α} {w : World} (h : (rowsA enc e k (.slice ad n c) xs).ho w) : ad = none ∨ ∃ g, ad = some ⟨g, 0, none⟩ := by
  rw [rowsA_ho] at h
  rcases h.2 with ⟨h', _⟩ | ⟨g', cap, cur, h', _⟩
  · injection h' with e1; exact .inl e1
  · injection h' with e1; exact .inr ⟨g', e1⟩
theorem St.zero {α : Type} {enc : α → List Value} {e k n c : Nat} {ad : Option Addr} {xs : List α} {w0 w : World} {M : List Nat} {R : List As} (h : St w0 M (rowsA enc e k (.slice ad n c) xs :: R) w) : St w0 M (rowsA enc e k (.slice ad 0 c) ([] : List α) :: R) w :=
  h.conv (by rw [rowsA_fp', rowsA_fp']; cases ad <;> rfl) rowsA_zero
theorem wlen_c {p m : Nat} {lv : Value} {S : Sto} (hS : S.Ok) {i : Nat} (hi : i ≤ S.list.length) : ∃ a1 a2 a3 a4 a5 : Nat, ∀ w, (stoA p lv m S).ho w → Calls Try.prog 30 #[.pointer (some ⟨p, 0, none⟩), .int .i64 (i : Int)] w fun e w' => e = .returned (.tuple #[.agg #[.int .i64 (S.txt i).length, .int .i64 a1, .int .i64 a2, .int .i64 a3, .int .u64 a4, .int .u64 a5], .nilIface]) ∧ St w [] [] w' := by
  obtain ⟨x, hx⟩ := enAt_some hi
  refine ⟨x.w.lines, x.w.head, x.w.tail, x.w.val, x.w.scale, fun w h => ?_⟩
  rw [S.txt_len hS hx]
  exact weight_c hx w h
theorem txt_max {S : Sto} (hS : S.Ok) {i : Nat} (hi : i ≤ S.list.length) : (S.txt i).length ≤ 1152921504606846976 := by
  cases i with
  | zero => rw [S.txt_zero]; simp
  | succ i =>
    obtain ⟨x, hx⟩ : ∃ x, S.list[i]? = some x := ⟨_, List.getElem?_eq_getElem (by omega)⟩
    rw [(S.txt_ok hS i x hx).1]
    have := maxT_eq
    cases hS.ents i x hx with
    | letter b hb => simp [letterE, letter_len]
    | pair l r y z hl hr hy hz h => simp only [pairE, Wt.join]; omega
    | power l k y hl hy hk h => simp only [powerE, Wt.rep]; omega
theorem piece_case2 {S : Sto} {K : Nat → Prop} (hS : S.Ok) (hcl : S.Closed K) {pi pa pn : Nat} (h1 : 1 ≤ pi) (hok : PcOk S K ⟨pi, pa, pn⟩) (h0 : 0 < pn) (hlt : pn < (S.txt pi).length) :
    ∃ x, S.list[pi - 1]? = some x ∧ ((∃ L R, x.r = ⟨2, 0, L, R, 0⟩ ∧ PairCase S K pi pa pn L R) ∨ (∃ L k, x.r = ⟨3, 0, L, 0, k⟩ ∧ PowerCase S K pi pa pn L k)) := by
  obtain ⟨i, rfl⟩ : ∃ i, pi = i + 1 := ⟨pi - 1, by omega⟩
  exact piece_case hS hcl hok h0 hlt
theorem rule_lit {p m : Nat} {lv : Value} {S : Sto} {pi : Nat} {x : En} {r : Rl} (h1 : 1 ≤ pi) (hx : S.list[pi - 1]? = some x) (hr : x.r = r) (w : World) (h : (stoA p lv m S).ho w) : Calls Try.prog 45 #[.pointer (some ⟨p, 0, none⟩), .int .i64 (pi : Int)] w fun e w' => e = .returned (.tuple #[.agg #[.int .i64 r.kind, .int .u8 r.letter, .int .i64 r.left, .int .i64 r.right, .int .i64 r.times], .nilIface]) ∧ St w [] [] w' := by
  subst hr
  exact rule_c hx _ (by omega) w h
def OfPost (S : Sto) (K : Nat → Prop) (goal : List Nat) (w : World) (e : Ending) (w' : World) : Prop :=
  ∃ ad c ps, e = .returned (.tuple #[.slice ad ps.length c, .nilIface]) ∧ textP S ps = goal ∧ (∀ t ∈ ps, PtOk S K t) ∧ ps.length ≤ 6 * S.list.length + 6 ∧ St w [] [rowsA encT 135 3 (.slice ad ps.length c) ps] w'
def OfRel (S : Sto) (K : Nat → Prop) (goal : List Nat) (w : World) (k : Nat) (v10 v11 v12 : Value) (wr : World) : Prop :=
  ∃ ps nx st, PInv S K goal ps st k ∧ St w [] [rowsA encT 135 3 v10 ps, rowsA encC 173 3 v11 nx, rowsA encC 173 3 v12 st] wr
theorem of_c {p m : Nat} {lv : Value} {S : Sto} {K : Nat → Prop} (hS : S.Ok) (hcl : S.Closed K) {i s n : Nat} (hi : i ≤ S.list.length) (hk : i = 0 ∨ K i) (hf : s + n ≤ (S.txt i).length) (w : World) (h : (stoA p lv m S).ho w) :
    Calls Try.prog 69 #[.pointer (some ⟨p, 0, none⟩), .int .i64 i, .int .i64 s, .int .i64 n] w (OfPost S K (S.pcTxt ⟨i, s, n⟩) w) := by
  have HK := Ks.one h
  have H := St.nil w []
  have HSO := Lib.hid hS
  have HCL := Lib.hid hcl
  have HL1 := Lib.hid hS.len
  have HL2 := Lib.hid hS.most
  obtain ⟨d0, hinv⟩ := PInv.first (K := K) hi hk hf
  generalize hgoal : S.pcTxt ⟨i, s, n⟩ = goal at *
  have HI0 := Lib.hid hinv
  clear h hS hcl hinv hgoal
  go_enter Try.func69, Try.ntmps69
  go_wp2_with (first | refine sL ?_ | (refine sS ?_; clear H; intro _ H) | (refine sA ?_; clear H; intro _ _ H) | ((with_reducible refine isSlice ?_); refine AtSlice.one H rfl rfl rfl rfl rfl rfl rfl rfl rfl ?_; clear H; intro b _ H; simp only [Act.put, puA, puB, puC]))
  replace H := H.conv (A' := rowsA encC 173 3 (.slice (some ⟨b, 0, none⟩) 1 1) [⟨i, s, n⟩]) (by rw [rowsA_fp', blk_fp]; rfl) fun hb => rowsA_of_blk (xs := [(⟨i, s, n⟩ : Pc)]) (by rw [blk_ho] at hb; exact hb) (by simp [maxLen]) (by simp [flatG, encC]) encC_len
  replace H := H.empty (A := rowsA encC 173 3 (.slice none 0 0) []) (rowsA_nil _) (by rw [rowsA_fp']; rfl)
  replace H := H.empty (A := rowsA encT 135 3 (.slice none 0 0) []) (rowsA_nil _) (by rw [rowsA_fp']; rfl)
  go_loopg [10, 11, 12] d0 (fun k v10 v11 v12 wr => OfRel S K goal w k v10 v11 v12 wr)
  case atStart => exact ⟨[], [], [⟨i, s, n⟩], HI0.out, H⟩
  case round =>
    clear H HI0
    obtain ⟨ps, nx, st0, hinv, H⟩ := hrel
    obtain ⟨ad1, c1, rfl, hps⟩ := rowsA_shape (H.get (A := rowsA encT 135 3 u10 ps) pk)
    obtain ⟨ad2, c2, rfl, _⟩ := rowsA_shape (H.get (A := rowsA encC 173 3 u11 nx) pk)
    have HAD := Lib.hid (rowsA_ad (H.get (A := rowsA encC 173 3 (.slice ad2 nx.length c2) nx) pk))
    rcases List.eq_nil_or_concat st0 with rfl | ⟨st, ⟨pi, pa, pn⟩, rfl⟩
    · obtain ⟨ad3, c3, rfl, _⟩ := rowsA_shape (H.get (A := rowsA encC 173 3 u12 []) pk)
      have HINV := Lib.hid hinv
      clear hinv
      go_wp2_with (first | refine sL ?_ | (refine sS ?_; clear H; intro _ H) | (refine sA ?_; clear H; intro _ _ H))
      go_ret2
      have h9 := HINV.out
      have ht := h9.text
      simp only [List.reverse_nil, textC, List.map_nil, List.flatten_nil, List.append_nil] at ht
      exact ⟨ad1, c1, ps, rfl, ht, h9.pts, by have := h9.bound; omega, (H.pick (A := rowsA encT 135 3 (.slice ad1 ps.length c1) ps) pk).onlyHead⟩
    · simp only [List.concat_eq_append] at H hinv
      obtain ⟨g3, c3, rfl, hgc3, hcm3⟩ := rowsA_cases (H.get (A := rowsA encC 173 3 u12 (st ++ [⟨pi, pa, pn⟩])) pk) (by simp)
      simp only [List.length_append, List.length_singleton] at H hgc3
      unfold maxLen at hcm3
      have hpok := hinv.pcs ⟨pi, pa, pn⟩ (by simp)
      have hple : pi ≤ S.list.length := hpok.le
      have hpfit : pa + pn ≤ (S.txt pi).length := hpok.fits
      have hpmax := txt_max HSO.out hple
      have hstl := hinv.len
      have hbd := hinv.bound
      have hl1 := HL1.out
      have hl2 := HL2.out
      simp only [List.length_append, List.length_singleton] at hstl
      have hlast : (st ++ [(⟨pi, pa, pn⟩ : Pc)])[st.length]? = some ⟨pi, pa, pn⟩ := by simp
      have HLAST := Lib.hid hlast
      have HINV := Lib.hid hinv
      have HPOK := Lib.hid hpok
      have hstb : st.length ≤ 7000000 := by omega
      have hpsb : ps.length ≤ 7000000 := by omega
      have hnxl : nx.length ≤ nx.length := Nat.le_refl _
      generalize hsl : st.length = sl at *
      generalize hpl : ps.length = pl at *
      clear hlast hinv hpok hstl hbd hl1 hl2 hps
      by_cases hz : pn = 0 ∨ pi = 0
      · have hskip : S.pcTxt ⟨pi, pa, pn⟩ = [] := by
          rcases hz with h | h
          · exact S.pcTxt_nul _ h
          · exact S.pcTxt_zero _ h
        obtain ⟨d', hd', hinv'⟩ := HINV.out.skip hskip
        have HD := Lib.hid (And.intro hd' hinv')
        clear hd' hinv' hskip
        have d_i0 : pi = 0 → ((pi : Int) == 0) = true := fun h => by simp [h]
        by_cases hpn : pn = 0
        · subst hpn
          go_wp2_with (first | refine sL ?_ | (refine sS ?_; clear H; intro _ H) | (refine sA ?_; clear H; intro _ _ H) | ((with_reducible refine isLoad ?_); refine AtLoad.rngT (vs := [.int .i64 pi, .int .i64 pa, .int .i64 (0 : Nat)]) rfl rfl rfl (H.rngL (enc := encC) (xs := st ++ [⟨pi, pa, 0⟩]) pk encC_len HLAST.out) rfl ?_; replace H := (H.pick (A := rowsA encC 173 3 (.slice (some ⟨g3, 0, none⟩) (sl + 1) c3) (st ++ [⟨pi, pa, 0⟩])) pk).cut encC_len hsl; simp only [Act.put, puA, puB, puC]))
          have HH := Lib.hid (St.only3 H (A := rowsA encT 135 3 (.slice ad1 pl c1) ps) (B := rowsA encC 173 3 (.slice ad2 nx.length c2) nx) (C := rowsA encC 173 3 (.slice (some ⟨g3, 0, none⟩) sl c3) st) pk pk pk)
          go_roundg d'
          case measure => exact HD.out.1
          case rel => exact ⟨ps, nx, st, HD.out.2, HH.out⟩
        · have d_n : decide ((pn : Int) ≤ 0) = false := by simp; omega
          have d_i := d_i0 (by rcases hz with h | h; exact absurd h hpn; exact h)
          clear hz
          go_wp2_with (first | refine sL ?_ | (refine sS ?_; clear H; intro _ H) | (refine sA ?_; clear H; intro _ _ H) | ((with_reducible refine isLoad ?_); refine AtLoad.rngT (vs := [.int .i64 pi, .int .i64 pa, .int .i64 pn]) rfl rfl rfl (H.rngL (enc := encC) (xs := st ++ [⟨pi, pa, pn⟩]) pk encC_len HLAST.out) rfl ?_; replace H := (H.pick (A := rowsA encC 173 3 (.slice (some ⟨g3, 0, none⟩) (sl + 1) c3) (st ++ [⟨pi, pa, pn⟩])) pk).cut encC_len hsl; simp only [Act.put, puA, puB, puC]))
          have HH := Lib.hid (St.only3 H (A := rowsA encT 135 3 (.slice ad1 pl c1) ps) (B := rowsA encC 173 3 (.slice ad2 nx.length c2) nx) (C := rowsA encC 173 3 (.slice (some ⟨g3, 0, none⟩) sl c3) st) pk pk pk)
          go_roundg d'
          case measure => exact HD.out.1
          case rel => exact ⟨ps, nx, st, HD.out.2, HH.out⟩
      · have d_n : decide ((pn : Int) ≤ 0) = false := by simp; omega
        have d_i : ((pi : Int) == 0) = false := by simp; omega
        have hn0 : 0 < pn := by omega
        have hi1 : 1 ≤ pi := by omega
        obtain ⟨a1, a2, a3, a4, a5, hw1⟩ := wlen_c (p := p) (m := m) (lv := lv) HSO.out hple
        have HW1 := Lib.hid hw1
        clear hw1 hz
        generalize hln : (S.txt pi).length = ln at *
        by_cases hge : ln ≤ pn
        · obtain ⟨ht, hok⟩ := full_part HPOK.out hi1 (by simp only; rw [hln]; exact hge)
          obtain ⟨d', hd', hinv'⟩ := HINV.out.take ht hok
          have HD := Lib.hid (And.intro hd' hinv')
          clear hd' hinv' ht hok
          go_wp2_with (first | refine sL ?_ | (refine sS ?_; clear H; intro _ H) | (refine sA ?_; clear H; intro _ _ H) | ((with_reducible refine isLoad ?_); refine AtLoad.rngT (vs := [.int .i64 pi, .int .i64 pa, .int .i64 pn]) rfl rfl rfl (H.rngL (enc := encC) (xs := st ++ [⟨pi, pa, pn⟩]) pk encC_len HLAST.out) rfl ?_; replace H := (H.pick (A := rowsA encC 173 3 (.slice (some ⟨g3, 0, none⟩) (sl + 1) c3) (st ++ [⟨pi, pa, pn⟩])) pk).cut encC_len hsl; simp only [Act.put, puA, puB, puC]) | (go_at_call 30; with_reducible refine Calls.mono (HW1.out _ (H.known HK pk)) ?_; rintro e wc ⟨rfl, hb⟩; replace H := H.grew hb.below; clear hb) | ((with_reducible refine isSlice ?_); refine AtSlice.one H rfl rfl rfl rfl rfl rfl rfl rfl rfl ?_; clear H; intro b _ H; simp only [Act.put, puA, puB, puC]) | ((with_reducible refine isAppend ?_); refine AtAppend.go (enc := encT) H rfl rfl rfl rfl rfl (by decide) (by decide) rfl pk rfl (H.at pk) [⟨pi, 0, 1⟩] rfl (by simp [flatG, encT]) encT_len encT_one (by simp; omega) ?_; clear H; intro ad9 cp9 _ H; simp only [Act.put, puA, puB, puC]))
          have HH := Lib.hid (St.only3 H (A := rowsA encT 135 3 (.slice ad9 (ps.length + 1) cp9) (ps ++ [⟨pi, 0, 1⟩])) (B := rowsA encC 173 3 (.slice ad2 nx.length c2) nx) (C := rowsA encC 173 3 (.slice (some ⟨g3, 0, none⟩) sl c3) st) pk pk pk)
          go_roundg d'
          case measure => exact HD.out.1
          case rel => exact ⟨_, nx, st, HD.out.2, by have h := HH.out; rw [hpl] at h; exact h⟩
        · obtain ⟨x, hx, hcase⟩ := piece_case2 HSO.out HCL.out hi1 HPOK.out hn0 (by rw [hln]; omega)
          have d_ge : decide (ln ≤ pn) = false := by simp; omega
          clear hge
          rcases hcase with ⟨L, R, hr, hp⟩ | ⟨L, k, hr, hp⟩
          · obtain ⟨b1, b2, b3, b4, b5, hw2⟩ := wlen_c (p := p) (m := m) (lv := lv) HSO.out hp.lo1
            have hlmax := txt_max HSO.out hp.lo1
            have HRU := Lib.hid (show ∀ w, (stoA p lv m S).ho w → Calls Try.prog 45 #[.pointer (some ⟨p, 0, none⟩), .int .i64 (pi : Int)] w fun e w' => e = .returned (.tuple #[.agg #[.int .i64 (2 : Int), .int .u8 (0 : Int), .int .i64 L, .int .i64 R, .int .i64 (0 : Int)], .nilIface]) ∧ St w [] [] w' from fun w h => rule_lit hi1 hx hr w h)
            have HW2 := Lib.hid hw2
            have HP := Lib.hid hp
            clear hw2 hp hx hr
            by_cases hle : (S.txt L).length ≤ pa
            · have hc := HP.out.hi hle
              generalize (S.txt L).length = ll at *
              generalize hs' : pa - ll = s' at *
              obtain ⟨d', hd', hinv'⟩ := HINV.out.cut hc.text hc.ok hc.cost
              have HD := Lib.hid (And.intro hd' hinv')
              have HPP := Lib.hid (show ∀ w, (rowsA encC 173 3 (.slice ad2 0 c2) ([] : List Pc)).ho w → Calls Try.prog 95 #[.slice ad2 0 c2, .agg #[.int .i64 (2 : Int), .int .u8 (0 : Int), .int .i64 L, .int .i64 R, .int .i64 (0 : Int)], .agg #[.int .i64 pi, .int .i64 pa, .int .i64 pn], .int .i64 ll] w fun e w' => ∃ ad c, e = .returned (.slice ad 1 c) ∧ St w (rowsA encC 173 3 (.slice ad2 0 c2) ([] : List Pc)).fp [rowsA encC 173 3 (.slice ad 1 c) ([⟨R, s', pn⟩] : List Pc)] w' from fun w h => ppair_hi pi L R pa pn ll s' hle hs'.symm (by omega) w h)
              have HRV := Lib.hid (show ∀ ad c w, (rowsA encC 173 3 (.slice ad 1 c) ([⟨R, s', pn⟩] : List Pc)).ho w → Calls Try.prog 98 #[.slice ad 1 c] w fun e w' => e = .returned (.tuple #[]) ∧ St w (rowsA encC 173 3 (.slice ad 1 c) ([⟨R, s', pn⟩] : List Pc)).fp [rowsA encC 173 3 (.slice ad 1 c) ([⟨R, s', pn⟩] : List Pc)] w' from fun ad c w h => rev_c (xs := [⟨R, s', pn⟩]) rfl (by simp) w h)
              clear hd' hinv' hc hs' hle
              go_wp2_with (first | refine sL ?_ | (refine sS ?_; clear H; intro _ H) | (refine sA ?_; clear H; intro _ _ H) | ((with_reducible refine isLoad ?_); refine AtLoad.rngT (vs := [.int .i64 pi, .int .i64 pa, .int .i64 pn]) rfl rfl rfl (H.rngL (enc := encC) (xs := st ++ [⟨pi, pa, pn⟩]) pk encC_len HLAST.out) rfl ?_; replace H := (H.pick (A := rowsA encC 173 3 (.slice (some ⟨g3, 0, none⟩) (sl + 1) c3) (st ++ [⟨pi, pa, pn⟩])) pk).cut encC_len hsl; simp only [Act.put, puA, puB, puC]) | (go_at_call 30; first | (with_reducible refine Calls.mono (HW1.out _ (H.known HK pk)) ?_; rintro e wc ⟨rfl, hb⟩; replace H := H.grew hb.below; clear hb) | (with_reducible refine Calls.mono (HW2.out _ (H.known HK pk)) ?_; rintro e wc ⟨rfl, hb⟩; replace H := H.grew hb.below; clear hb)) | (go_at_call 45; with_reducible refine Calls.mono (HRU.out _ (H.known HK pk)) ?_; rintro e wc ⟨rfl, hb⟩; replace H := H.grew hb.below; clear hb) | ((with_reducible refine isCut ?_); refine AtCut.zero rfl rfl rfl rfl rfl rfl HAD.out ?_; replace H := (H.pick (A := rowsA encC 173 3 (.slice ad2 nx.length c2) nx) pk).zero; simp only [Act.put, puA, puB, puC]) | (go_at_call 95; with_reducible refine Calls.mono (HPP.out _ (H.get (A := rowsA encC 173 3 (.slice ad2 0 c2) []) pk)) ?_; rintro e wc ⟨ad5, c5, rfl, hb⟩; replace H := H.pick (A := rowsA encC 173 3 (.slice ad2 0 c2) []) pk; replace H := H.call hb; clear hb; simp only [List.cons_append, List.nil_append] at H) | (go_at_call 98; with_reducible refine Calls.mono (HRV.out _ _ _ (H.get (A := rowsA encC 173 3 (.slice ad5 1 c5) [⟨R, s', pn⟩]) pk)) ?_; rintro e wc ⟨rfl, hb⟩; replace H := H.pick (A := rowsA encC 173 3 (.slice ad5 1 c5) [⟨R, s', pn⟩]) pk; replace H := H.call hb; clear hb; simp only [List.cons_append, List.nil_append] at H) | ((with_reducible refine isAppend ?_); refine AtAppend.rows (enc := encC) (xs := st) (ys := [⟨R, s', pn⟩]) H rfl rfl rfl rfl rfl (by decide) (by decide) rfl pk rfl (H.get (A := rowsA encC 173 3 (.slice ad5 1 c5) [⟨R, s', pn⟩]) pk) encC_len encC_one (by simp; omega) ?_; clear H; intro ad9 cp9 _ H; simp only [hsl, List.length_cons, List.length_nil, Nat.zero_add, Nat.add_zero, Nat.reduceAdd, List.append_nil] at H; simp only [Act.put, puA, puB, puC]))
              have HH := Lib.hid (St.only3 H (A := rowsA encT 135 3 (.slice ad1 pl c1) ps) (B := rowsA encC 173 3 (.slice ad5 1 c5) [⟨R, s', pn⟩]) (C := rowsA encC 173 3 (.slice ad9 (sl + 1) cp9) (st ++ [⟨R, s', pn⟩])) pk pk pk)
              go_roundg d'
              case measure => exact HD.out.1
              case rel =>
                try simp only [hsl, List.length_cons, List.length_nil, Nat.zero_add, Nat.add_zero, Nat.reduceAdd]
                exact ⟨ps, [⟨R, s', pn⟩], st ++ [⟨R, s', pn⟩], HD.out.2, HH.out⟩
            · obtain ⟨n', hn'⟩ : ∃ n', n' = min pn ((S.txt L).length - pa) := ⟨_, rfl⟩
              have hc := HP.out.lo (by omega) n' hn'
              generalize (S.txt L).length = ll at *
              generalize hm' : pn - n' = m' at *
              obtain ⟨d', hd', hinv'⟩ := HINV.out.cut hc.text hc.ok hc.cost
              have HD := Lib.hid (And.intro hd' hinv')
              have HPP := Lib.hid (show ∀ w, (rowsA encC 173 3 (.slice ad2 0 c2) ([] : List Pc)).ho w → Calls Try.prog 95 #[.slice ad2 0 c2, .agg #[.int .i64 (2 : Int), .int .u8 (0 : Int), .int .i64 L, .int .i64 R, .int .i64 (0 : Int)], .agg #[.int .i64 pi, .int .i64 pa, .int .i64 pn], .int .i64 ll] w fun e w' => ∃ ad c, e = .returned (.slice ad 2 c) ∧ St w (rowsA encC 173 3 (.slice ad2 0 c2) ([] : List Pc)).fp [rowsA encC 173 3 (.slice ad 2 c) ([⟨L, pa, n'⟩, ⟨R, 0, m'⟩] : List Pc)] w' from fun w h => ppair_lo pi L R pa pn ll n' m' (by omega) hn' hm'.symm (by omega) (by omega) w h)
              have HRV := Lib.hid (show ∀ ad c w, (rowsA encC 173 3 (.slice ad 2 c) ([⟨L, pa, n'⟩, ⟨R, 0, m'⟩] : List Pc)).ho w → Calls Try.prog 98 #[.slice ad 2 c] w fun e w' => e = .returned (.tuple #[]) ∧ St w (rowsA encC 173 3 (.slice ad 2 c) ([⟨L, pa, n'⟩, ⟨R, 0, m'⟩] : List Pc)).fp [rowsA encC 173 3 (.slice ad 2 c) ([⟨R, 0, m'⟩, ⟨L, pa, n'⟩] : List Pc)] w' from fun ad c w h => rev_c (xs := [⟨L, pa, n'⟩, ⟨R, 0, m'⟩]) rfl (by simp) w h)
              clear hd' hinv' hc hm' hle hn'
              go_wp2_with (first | refine sL ?_ | (refine sS ?_; clear H; intro _ H) | (refine sA ?_; clear H; intro _ _ H) | ((with_reducible refine isLoad ?_); refine AtLoad.rngT (vs := [.int .i64 pi, .int .i64 pa, .int .i64 pn]) rfl rfl rfl (H.rngL (enc := encC) (xs := st ++ [⟨pi, pa, pn⟩]) pk encC_len HLAST.out) rfl ?_; replace H := (H.pick (A := rowsA encC 173 3 (.slice (some ⟨g3, 0, none⟩) (sl + 1) c3) (st ++ [⟨pi, pa, pn⟩])) pk).cut encC_len hsl; simp only [Act.put, puA, puB, puC]) | (go_at_call 30; first | (with_reducible refine Calls.mono (HW1.out _ (H.known HK pk)) ?_; rintro e wc ⟨rfl, hb⟩; replace H := H.grew hb.below; clear hb) | (with_reducible refine Calls.mono (HW2.out _ (H.known HK pk)) ?_; rintro e wc ⟨rfl, hb⟩; replace H := H.grew hb.below; clear hb)) | (go_at_call 45; with_reducible refine Calls.mono (HRU.out _ (H.known HK pk)) ?_; rintro e wc ⟨rfl, hb⟩; replace H := H.grew hb.below; clear hb) | ((with_reducible refine isCut ?_); refine AtCut.zero rfl rfl rfl rfl rfl rfl HAD.out ?_; replace H := (H.pick (A := rowsA encC 173 3 (.slice ad2 nx.length c2) nx) pk).zero; simp only [Act.put, puA, puB, puC]) | (go_at_call 95; with_reducible refine Calls.mono (HPP.out _ (H.get (A := rowsA encC 173 3 (.slice ad2 0 c2) []) pk)) ?_; rintro e wc ⟨ad5, c5, rfl, hb⟩; replace H := H.pick (A := rowsA encC 173 3 (.slice ad2 0 c2) []) pk; replace H := H.call hb; clear hb; simp only [List.cons_append, List.nil_append] at H) | (go_at_call 98; with_reducible refine Calls.mono (HRV.out _ _ _ (H.get (A := rowsA encC 173 3 (.slice ad5 2 c5) [⟨L, pa, n'⟩, ⟨R, 0, m'⟩]) pk)) ?_; rintro e wc ⟨rfl, hb⟩; replace H := H.pick (A := rowsA encC 173 3 (.slice ad5 2 c5) [⟨L, pa, n'⟩, ⟨R, 0, m'⟩]) pk; replace H := H.call hb; clear hb; simp only [List.cons_append, List.nil_append] at H) | ((with_reducible refine isAppend ?_); refine AtAppend.rows (enc := encC) (xs := st) (ys := [⟨R, 0, m'⟩, ⟨L, pa, n'⟩]) H rfl rfl rfl rfl rfl (by decide) (by decide) rfl pk rfl (H.get (A := rowsA encC 173 3 (.slice ad5 2 c5) [⟨R, 0, m'⟩, ⟨L, pa, n'⟩]) pk) encC_len encC_one (by simp; omega) ?_; clear H; intro ad9 cp9 _ H; simp only [hsl, List.length_cons, List.length_nil, Nat.zero_add, Nat.add_zero, Nat.reduceAdd, List.append_nil] at H; simp only [Act.put, puA, puB, puC]))
              have HH := Lib.hid (St.only3 H (A := rowsA encT 135 3 (.slice ad1 pl c1) ps) (B := rowsA encC 173 3 (.slice ad5 2 c5) [⟨R, 0, m'⟩, ⟨L, pa, n'⟩]) (C := rowsA encC 173 3 (.slice ad9 (sl + 2) cp9) (st ++ [⟨R, 0, m'⟩, ⟨L, pa, n'⟩])) pk pk pk)
              go_roundg d'
              case measure => exact HD.out.1
              case rel =>
                try simp only [hsl, List.length_cons, List.length_nil, Nat.zero_add, Nat.add_zero, Nat.reduceAdd]
                exact ⟨ps, [⟨R, 0, m'⟩, ⟨L, pa, n'⟩], st ++ [⟨R, 0, m'⟩, ⟨L, pa, n'⟩], HD.out.2, HH.out⟩
          · obtain ⟨b1, b2, b3, b4, b5, hw2⟩ := wlen_c (p := p) (m := m) (lv := lv) HSO.out hp.lo1
            have hlmax := txt_max HSO.out hp.lo1
            have hlpos := hp.pos
            have HRU := Lib.hid (show ∀ w, (stoA p lv m S).ho w → Calls Try.prog 45 #[.pointer (some ⟨p, 0, none⟩), .int .i64 (pi : Int)] w fun e w' => e = .returned (.tuple #[.agg #[.int .i64 (3 : Int), .int .u8 (0 : Int), .int .i64 L, .int .i64 (0 : Int), .int .i64 k], .nilIface]) ∧ St w [] [] w' from fun w h => rule_lit hi1 hx hr w h)
            have HW2 := Lib.hid hw2
            have HP := Lib.hid hp
            clear hw2 hp hx hr
            have e7 : (((S.txt L).length : Int) == 0) = false := beq_eq_false_iff_ne.2 (by omega)
            by_cases h1 : pa % (S.txt L).length = 0
            · have e1 : (pa : Int) % ((S.txt L).length : Int) = 0 := by rw [show (pa : Int) % ((S.txt L).length : Int) = ((pa % (S.txt L).length : Nat) : Int) from rfl, h1]; rfl
              have e1' : (pa : Int).tmod ((S.txt L).length : Int) = 0 := by rw [tmod_nat, h1]; rfl
              by_cases h2 : pn % (S.txt L).length = 0
              · have e2 : (pn : Int) % ((S.txt L).length : Int) = 0 := by rw [show (pn : Int) % ((S.txt L).length : Int) = ((pn % (S.txt L).length : Nat) : Int) from rfl, h2]; rfl
                have e2' : (pn : Int).tmod ((S.txt L).length : Int) = 0 := by rw [tmod_nat, h2]; rfl
                by_cases h3 : pn = (S.txt L).length
                · have ht := HP.out.one h1 h2 h3
                  generalize (S.txt L).length = ll at *
                  obtain ⟨d', hd', hinv'⟩ := HINV.out.take ht.text ht.ok
                  have HD := Lib.hid (And.intro hd' hinv')
                  have HPP := Lib.hid (show ∀ w, Calls Try.prog 97 #[.agg #[.int .i64 (3 : Int), .int .u8 (0 : Int), .int .i64 L, .int .i64 (0 : Int), .int .i64 k], .agg #[.int .i64 pi, .int .i64 pa, .int .i64 pn], .int .i64 ll] w fun e w' => e = .returned (.agg #[.int .i64 L, .int .i64 (0 : Int), .int .i64 (1 : Int)]) ∧ St w [] [] w' from fun w => pcopies_one pi L k pa pn ll h3 w)
                  have HRV := Lib.hid (show ∀ ad c w, (rowsA encC 173 3 (.slice ad 0 c) ([] : List Pc)).ho w → Calls Try.prog 98 #[.slice ad 0 c] w fun e w' => e = .returned (.tuple #[]) ∧ St w (rowsA encC 173 3 (.slice ad 0 c) ([] : List Pc)).fp [rowsA encC 173 3 (.slice ad 0 c) ([] : List Pc)] w' from fun ad c w h => rev_c (xs := []) rfl (by simp) w h)
                  clear hd' hinv' ht h1 h2 h3
                  go_wp2_with (first | refine sL ?_ | (refine sS ?_; clear H; intro _ H) | (refine sA ?_; clear H; intro _ _ H) | ((with_reducible refine isLoad ?_); refine AtLoad.rngT (vs := [.int .i64 pi, .int .i64 pa, .int .i64 pn]) rfl rfl rfl (H.rngL (enc := encC) (xs := st ++ [⟨pi, pa, pn⟩]) pk encC_len HLAST.out) rfl ?_; replace H := (H.pick (A := rowsA encC 173 3 (.slice (some ⟨g3, 0, none⟩) (sl + 1) c3) (st ++ [⟨pi, pa, pn⟩])) pk).cut encC_len hsl; simp only [Act.put, puA, puB, puC]) | (go_at_call 30; first | (with_reducible refine Calls.mono (HW1.out _ (H.known HK pk)) ?_; rintro e wc ⟨rfl, hb⟩; replace H := H.grew hb.below; clear hb) | (with_reducible refine Calls.mono (HW2.out _ (H.known HK pk)) ?_; rintro e wc ⟨rfl, hb⟩; replace H := H.grew hb.below; clear hb)) | (go_at_call 45; with_reducible refine Calls.mono (HRU.out _ (H.known HK pk)) ?_; rintro e wc ⟨rfl, hb⟩; replace H := H.grew hb.below; clear hb) | ((with_reducible refine isCut ?_); refine AtCut.zero rfl rfl rfl rfl rfl rfl HAD.out ?_; replace H := (H.pick (A := rowsA encC 173 3 (.slice ad2 nx.length c2) nx) pk).zero; simp only [Act.put, puA, puB, puC]) | (go_at_call 97; with_reducible refine Calls.mono (HPP.out _) ?_; rintro e wc ⟨rfl, hb⟩; replace H := H.grew hb.below; clear hb) | ((with_reducible refine isSlice ?_); refine AtSlice.one H rfl rfl rfl rfl rfl rfl rfl rfl rfl ?_; clear H; intro b _ H; simp only [Act.put, puA, puB, puC]) | ((with_reducible refine isAppend ?_); refine AtAppend.go (enc := encT) H rfl rfl rfl rfl rfl (by decide) (by decide) rfl pk rfl (H.at pk) [⟨L, 0, 1⟩] rfl (by simp [flatG, encT]) encT_len encT_one (by simp; omega) ?_; clear H; intro ad8 cp8 _ H; simp only [hpl] at H; simp only [Act.put, puA, puB, puC]) | (go_at_call 98; with_reducible refine Calls.mono (HRV.out _ _ _ (H.get (A := rowsA encC 173 3 (.slice ad2 0 c2) ([] : List Pc)) pk)) ?_; rintro e wc ⟨rfl, hb⟩; replace H := H.pick (A := rowsA encC 173 3 (.slice ad2 0 c2) ([] : List Pc)) pk; replace H := H.call hb; clear hb; simp only [List.cons_append, List.nil_append] at H) | ((with_reducible refine isAppend ?_); refine AtAppend.rows (enc := encC) (xs := st) (ys := ([] : List Pc)) H rfl rfl rfl rfl rfl (by decide) (by decide) rfl pk rfl (H.get (A := rowsA encC 173 3 (.slice ad2 0 c2) ([] : List Pc)) pk) encC_len encC_one (by simp; omega) ?_; clear H; intro ad9 cp9 _ H; simp only [hsl, List.length_cons, List.length_nil, Nat.zero_add, Nat.add_zero, Nat.reduceAdd, List.append_nil] at H; simp only [Act.put, puA, puB, puC]))
                  have HH := Lib.hid (St.only3 H (A := rowsA encT 135 3 (.slice ad8 (pl + 1) cp8) (ps ++ [⟨L, 0, 1⟩])) (B := rowsA encC 173 3 (.slice ad2 0 c2) []) (C := rowsA encC 173 3 (.slice ad9 sl cp9) st) pk pk pk)
                  go_roundg d'
                  case measure => exact HD.out.1
                  case rel =>
                    try simp only [hsl, List.length_cons, List.length_nil, Nat.zero_add, Nat.add_zero, Nat.reduceAdd]
                    exact ⟨_, [], st, HD.out.2, HH.out⟩
                · have ht := HP.out.more h1 h2 h3
                  generalize (S.txt L).length = ll at *
                  obtain ⟨q, hq⟩ : ∃ q, q = pn / ll := ⟨_, rfl⟩
                  rw [← hq] at ht
                  obtain ⟨d', hd', hinv'⟩ := HINV.out.take ht.text ht.ok
                  have HD := Lib.hid (And.intro hd' hinv')
                  have HPP := Lib.hid (show ∀ w, Calls Try.prog 97 #[.agg #[.int .i64 (3 : Int), .int .u8 (0 : Int), .int .i64 L, .int .i64 (0 : Int), .int .i64 k], .agg #[.int .i64 pi, .int .i64 pa, .int .i64 pn], .int .i64 ll] w fun e w' => e = .returned (.agg #[.int .i64 L, .int .i64 pi, .int .i64 q]) ∧ St w [] [] w' from fun w => pcopies_more pi L k pa pn ll q hlpos h3 hq (by omega) w)
                  have HRV := Lib.hid (show ∀ ad c w, (rowsA encC 173 3 (.slice ad 0 c) ([] : List Pc)).ho w → Calls Try.prog 98 #[.slice ad 0 c] w fun e w' => e = .returned (.tuple #[]) ∧ St w (rowsA encC 173 3 (.slice ad 0 c) ([] : List Pc)).fp [rowsA encC 173 3 (.slice ad 0 c) ([] : List Pc)] w' from fun ad c w h => rev_c (xs := []) rfl (by simp) w h)
                  clear hd' hinv' ht h1 h2 h3 hq
                  go_wp2_with (first | refine sL ?_ | (refine sS ?_; clear H; intro _ H) | (refine sA ?_; clear H; intro _ _ H) | ((with_reducible refine isLoad ?_); refine AtLoad.rngT (vs := [.int .i64 pi, .int .i64 pa, .int .i64 pn]) rfl rfl rfl (H.rngL (enc := encC) (xs := st ++ [⟨pi, pa, pn⟩]) pk encC_len HLAST.out) rfl ?_; replace H := (H.pick (A := rowsA encC 173 3 (.slice (some ⟨g3, 0, none⟩) (sl + 1) c3) (st ++ [⟨pi, pa, pn⟩])) pk).cut encC_len hsl; simp only [Act.put, puA, puB, puC]) | (go_at_call 30; first | (with_reducible refine Calls.mono (HW1.out _ (H.known HK pk)) ?_; rintro e wc ⟨rfl, hb⟩; replace H := H.grew hb.below; clear hb) | (with_reducible refine Calls.mono (HW2.out _ (H.known HK pk)) ?_; rintro e wc ⟨rfl, hb⟩; replace H := H.grew hb.below; clear hb)) | (go_at_call 45; with_reducible refine Calls.mono (HRU.out _ (H.known HK pk)) ?_; rintro e wc ⟨rfl, hb⟩; replace H := H.grew hb.below; clear hb) | ((with_reducible refine isCut ?_); refine AtCut.zero rfl rfl rfl rfl rfl rfl HAD.out ?_; replace H := (H.pick (A := rowsA encC 173 3 (.slice ad2 nx.length c2) nx) pk).zero; simp only [Act.put, puA, puB, puC]) | (go_at_call 97; with_reducible refine Calls.mono (HPP.out _) ?_; rintro e wc ⟨rfl, hb⟩; replace H := H.grew hb.below; clear hb) | ((with_reducible refine isSlice ?_); refine AtSlice.one H rfl rfl rfl rfl rfl rfl rfl rfl rfl ?_; clear H; intro b _ H; simp only [Act.put, puA, puB, puC]) | ((with_reducible refine isAppend ?_); refine AtAppend.go (enc := encT) H rfl rfl rfl rfl rfl (by decide) (by decide) rfl pk rfl (H.at pk) [⟨L, pi, q⟩] rfl (by simp [flatG, encT]) encT_len encT_one (by simp; omega) ?_; clear H; intro ad8 cp8 _ H; simp only [hpl] at H; simp only [Act.put, puA, puB, puC]) | (go_at_call 98; with_reducible refine Calls.mono (HRV.out _ _ _ (H.get (A := rowsA encC 173 3 (.slice ad2 0 c2) ([] : List Pc)) pk)) ?_; rintro e wc ⟨rfl, hb⟩; replace H := H.pick (A := rowsA encC 173 3 (.slice ad2 0 c2) ([] : List Pc)) pk; replace H := H.call hb; clear hb; simp only [List.cons_append, List.nil_append] at H) | ((with_reducible refine isAppend ?_); refine AtAppend.rows (enc := encC) (xs := st) (ys := ([] : List Pc)) H rfl rfl rfl rfl rfl (by decide) (by decide) rfl pk rfl (H.get (A := rowsA encC 173 3 (.slice ad2 0 c2) ([] : List Pc)) pk) encC_len encC_one (by simp; omega) ?_; clear H; intro ad9 cp9 _ H; simp only [hsl, List.length_cons, List.length_nil, Nat.zero_add, Nat.add_zero, Nat.reduceAdd, List.append_nil] at H; simp only [Act.put, puA, puB, puC]))
                  have HH := Lib.hid (St.only3 H (A := rowsA encT 135 3 (.slice ad8 (pl + 1) cp8) (ps ++ [⟨L, pi, q⟩])) (B := rowsA encC 173 3 (.slice ad2 0 c2) []) (C := rowsA encC 173 3 (.slice ad9 sl cp9) st) pk pk pk)
                  go_roundg d'
                  case measure => exact HD.out.1
                  case rel =>
                    try simp only [hsl, List.length_cons, List.length_nil, Nat.zero_add, Nat.add_zero, Nat.reduceAdd]
                    exact ⟨_, [], st, HD.out.2, HH.out⟩
              · have hc := HP.out.off h1 h2
                generalize (S.txt L).length = ll at *
                obtain ⟨r, hrr⟩ : ∃ r, r = pn % ll := ⟨_, rfl⟩
                rw [← hrr] at hc
                obtain ⟨n3, hn3⟩ : ∃ n3, n3 = pn - r := ⟨_, rfl⟩
                rw [← hn3] at hc
                have e2 : (pn : Int) % (ll : Int) = (r : Nat) := by rw [hrr]; rfl
                have e2' : (pn : Int).tmod (ll : Int) = (r : Nat) := by rw [tmod_nat, hrr]
                have e3 : ((r : Int) == 0) = false := beq_eq_false_iff_ne.2 (by omega)
                obtain ⟨d', hd', hinv'⟩ := HINV.out.cut hc.text hc.ok hc.cost
                have HD := Lib.hid (And.intro hd' hinv')
                have HPP := Lib.hid (show ∀ w, (rowsA encC 173 3 (.slice ad2 0 c2) ([] : List Pc)).ho w → Calls Try.prog 96 #[.slice ad2 0 c2, .agg #[.int .i64 (3 : Int), .int .u8 (0 : Int), .int .i64 L, .int .i64 (0 : Int), .int .i64 k], .agg #[.int .i64 pi, .int .i64 pa, .int .i64 pn], .int .i64 ll] w fun e w' => ∃ ad c, e = .returned (.slice ad 2 c) ∧ St w (rowsA encC 173 3 (.slice ad2 0 c2) ([] : List Pc)).fp [rowsA encC 173 3 (.slice ad 2 c) ([⟨pi, pa, n3⟩, ⟨L, 0, r⟩] : List Pc)] w' from fun w h => ppower_off pi L k pa pn ll r n3 hlpos h1 hrr hn3 (by omega) (by omega) w h)
                have HRV := Lib.hid (show ∀ ad c w, (rowsA encC 173 3 (.slice ad 2 c) ([⟨pi, pa, n3⟩, ⟨L, 0, r⟩] : List Pc)).ho w → Calls Try.prog 98 #[.slice ad 2 c] w fun e w' => e = .returned (.tuple #[]) ∧ St w (rowsA encC 173 3 (.slice ad 2 c) ([⟨pi, pa, n3⟩, ⟨L, 0, r⟩] : List Pc)).fp [rowsA encC 173 3 (.slice ad 2 c) ([⟨L, 0, r⟩, ⟨pi, pa, n3⟩] : List Pc)] w' from fun ad c w h => rev_c (xs := [⟨pi, pa, n3⟩, ⟨L, 0, r⟩]) rfl (by simp) w h)
                clear hd' hinv' hc hn3 hrr h1 h2
                go_wp2_with (first | refine sL ?_ | (refine sS ?_; clear H; intro _ H) | (refine sA ?_; clear H; intro _ _ H) | ((with_reducible refine isLoad ?_); refine AtLoad.rngT (vs := [.int .i64 pi, .int .i64 pa, .int .i64 pn]) rfl rfl rfl (H.rngL (enc := encC) (xs := st ++ [⟨pi, pa, pn⟩]) pk encC_len HLAST.out) rfl ?_; replace H := (H.pick (A := rowsA encC 173 3 (.slice (some ⟨g3, 0, none⟩) (sl + 1) c3) (st ++ [⟨pi, pa, pn⟩])) pk).cut encC_len hsl; simp only [Act.put, puA, puB, puC]) | (go_at_call 30; first | (with_reducible refine Calls.mono (HW1.out _ (H.known HK pk)) ?_; rintro e wc ⟨rfl, hb⟩; replace H := H.grew hb.below; clear hb) | (with_reducible refine Calls.mono (HW2.out _ (H.known HK pk)) ?_; rintro e wc ⟨rfl, hb⟩; replace H := H.grew hb.below; clear hb)) | (go_at_call 45; with_reducible refine Calls.mono (HRU.out _ (H.known HK pk)) ?_; rintro e wc ⟨rfl, hb⟩; replace H := H.grew hb.below; clear hb) | ((with_reducible refine isCut ?_); refine AtCut.zero rfl rfl rfl rfl rfl rfl HAD.out ?_; replace H := (H.pick (A := rowsA encC 173 3 (.slice ad2 nx.length c2) nx) pk).zero; simp only [Act.put, puA, puB, puC]) | (go_at_call 96; with_reducible refine Calls.mono (HPP.out _ (H.get (A := rowsA encC 173 3 (.slice ad2 0 c2) []) pk)) ?_; rintro e wc ⟨ad5, c5, rfl, hb⟩; replace H := H.pick (A := rowsA encC 173 3 (.slice ad2 0 c2) []) pk; replace H := H.call hb; clear hb; simp only [List.cons_append, List.nil_append] at H) | (go_at_call 98; with_reducible refine Calls.mono (HRV.out _ _ _ (H.get (A := rowsA encC 173 3 (.slice ad5 2 c5) [⟨pi, pa, n3⟩, ⟨L, 0, r⟩]) pk)) ?_; rintro e wc ⟨rfl, hb⟩; replace H := H.pick (A := rowsA encC 173 3 (.slice ad5 2 c5) [⟨pi, pa, n3⟩, ⟨L, 0, r⟩]) pk; replace H := H.call hb; clear hb; simp only [List.cons_append, List.nil_append] at H) | ((with_reducible refine isAppend ?_); refine AtAppend.rows (enc := encC) (xs := st) (ys := [⟨L, 0, r⟩, ⟨pi, pa, n3⟩]) H rfl rfl rfl rfl rfl (by decide) (by decide) rfl pk rfl (H.get (A := rowsA encC 173 3 (.slice ad5 2 c5) [⟨L, 0, r⟩, ⟨pi, pa, n3⟩]) pk) encC_len encC_one (by simp; omega) ?_; clear H; intro ad9 cp9 _ H; simp only [hsl, List.length_cons, List.length_nil, Nat.zero_add, Nat.add_zero, Nat.reduceAdd, List.append_nil] at H; simp only [Act.put, puA, puB, puC]))
                have HH := Lib.hid (St.only3 H (A := rowsA encT 135 3 (.slice ad1 pl c1) ps) (B := rowsA encC 173 3 (.slice ad5 2 c5) [⟨L, 0, r⟩, ⟨pi, pa, n3⟩]) (C := rowsA encC 173 3 (.slice ad9 (sl + 2) cp9) (st ++ [⟨L, 0, r⟩, ⟨pi, pa, n3⟩])) pk pk pk)
                go_roundg d'
                case measure => exact HD.out.1
                case rel =>
                  try simp only [hsl, List.length_cons, List.length_nil, Nat.zero_add, Nat.add_zero, Nat.reduceAdd]
                  exact ⟨ps, [⟨L, 0, r⟩, ⟨pi, pa, n3⟩], st ++ [⟨L, 0, r⟩, ⟨pi, pa, n3⟩], HD.out.2, HH.out⟩
            · obtain ⟨n', hn'⟩ : ∃ n', n' = min pn ((S.txt L).length - pa % (S.txt L).length) := ⟨_, rfl⟩
              have hc := HP.out.on h1 n' hn'
              generalize (S.txt L).length = ll at *
              obtain ⟨a, ha⟩ : ∃ a, a = pa % ll := ⟨_, rfl⟩
              rw [← ha] at hc h1 hn'
              have e1 : (pa : Int) % (ll : Int) = (a : Nat) := by rw [ha]; rfl
              have e1' : (pa : Int).tmod (ll : Int) = (a : Nat) := by rw [tmod_nat, ha]
              have e3 : ((a : Int) == 0) = false := beq_eq_false_iff_ne.2 (by omega)
              obtain ⟨s2, hs2⟩ : ∃ s2, s2 = pa + n' := ⟨_, rfl⟩
              obtain ⟨n2, hn2⟩ : ∃ n2, n2 = pn - n' := ⟨_, rfl⟩
              rw [← hs2, ← hn2] at hc
              obtain ⟨r, hrr⟩ : ∃ r, r = n2 % ll := ⟨_, rfl⟩
              rw [← hrr] at hc
              obtain ⟨n3, hn3⟩ : ∃ n3, n3 = n2 - r := ⟨_, rfl⟩
              rw [← hn3] at hc
              obtain ⟨d', hd', hinv'⟩ := HINV.out.cut hc.text hc.ok hc.cost
              have HD := Lib.hid (And.intro hd' hinv')
              have HPP := Lib.hid (show ∀ w, (rowsA encC 173 3 (.slice ad2 0 c2) ([] : List Pc)).ho w → Calls Try.prog 96 #[.slice ad2 0 c2, .agg #[.int .i64 (3 : Int), .int .u8 (0 : Int), .int .i64 L, .int .i64 (0 : Int), .int .i64 k], .agg #[.int .i64 pi, .int .i64 pa, .int .i64 pn], .int .i64 ll] w fun e w' => ∃ ad c, e = .returned (.slice ad 3 c) ∧ St w (rowsA encC 173 3 (.slice ad2 0 c2) ([] : List Pc)).fp [rowsA encC 173 3 (.slice ad 3 c) ([⟨L, a, n'⟩, ⟨pi, s2, n3⟩, ⟨L, 0, r⟩] : List Pc)] w' from fun w h => ppower_on pi L k pa pn ll a n' s2 n2 r n3 hlpos ha (by omega) hn' hs2 hn2 hrr hn3 (by omega) (by omega) w h)
              have HRV := Lib.hid (show ∀ ad c w, (rowsA encC 173 3 (.slice ad 3 c) ([⟨L, a, n'⟩, ⟨pi, s2, n3⟩, ⟨L, 0, r⟩] : List Pc)).ho w → Calls Try.prog 98 #[.slice ad 3 c] w fun e w' => e = .returned (.tuple #[]) ∧ St w (rowsA encC 173 3 (.slice ad 3 c) ([⟨L, a, n'⟩, ⟨pi, s2, n3⟩, ⟨L, 0, r⟩] : List Pc)).fp [rowsA encC 173 3 (.slice ad 3 c) ([⟨L, 0, r⟩, ⟨pi, s2, n3⟩, ⟨L, a, n'⟩] : List Pc)] w' from fun ad c w h => rev_c (xs := [⟨L, a, n'⟩, ⟨pi, s2, n3⟩, ⟨L, 0, r⟩]) rfl (by simp) w h)
              clear hd' hinv' hc hn3 hrr hn2 hs2 ha hn' h1
              go_wp2_with (first | refine sL ?_ | (refine sS ?_; clear H; intro _ H) | (refine sA ?_; clear H; intro _ _ H) | ((with_reducible refine isLoad ?_); refine AtLoad.rngT (vs := [.int .i64 pi, .int .i64 pa, .int .i64 pn]) rfl rfl rfl (H.rngL (enc := encC) (xs := st ++ [⟨pi, pa, pn⟩]) pk encC_len HLAST.out) rfl ?_; replace H := (H.pick (A := rowsA encC 173 3 (.slice (some ⟨g3, 0, none⟩) (sl + 1) c3) (st ++ [⟨pi, pa, pn⟩])) pk).cut encC_len hsl; simp only [Act.put, puA, puB, puC]) | (go_at_call 30; first | (with_reducible refine Calls.mono (HW1.out _ (H.known HK pk)) ?_; rintro e wc ⟨rfl, hb⟩; replace H := H.grew hb.below; clear hb) | (with_reducible refine Calls.mono (HW2.out _ (H.known HK pk)) ?_; rintro e wc ⟨rfl, hb⟩; replace H := H.grew hb.below; clear hb)) | (go_at_call 45; with_reducible refine Calls.mono (HRU.out _ (H.known HK pk)) ?_; rintro e wc ⟨rfl, hb⟩; replace H := H.grew hb.below; clear hb) | ((with_reducible refine isCut ?_); refine AtCut.zero rfl rfl rfl rfl rfl rfl HAD.out ?_; replace H := (H.pick (A := rowsA encC 173 3 (.slice ad2 nx.length c2) nx) pk).zero; simp only [Act.put, puA, puB, puC]) | (go_at_call 96; with_reducible refine Calls.mono (HPP.out _ (H.get (A := rowsA encC 173 3 (.slice ad2 0 c2) []) pk)) ?_; rintro e wc ⟨ad5, c5, rfl, hb⟩; replace H := H.pick (A := rowsA encC 173 3 (.slice ad2 0 c2) []) pk; replace H := H.call hb; clear hb; simp only [List.cons_append, List.nil_append] at H) | (go_at_call 98; with_reducible refine Calls.mono (HRV.out _ _ _ (H.get (A := rowsA encC 173 3 (.slice ad5 3 c5) [⟨L, a, n'⟩, ⟨pi, s2, n3⟩, ⟨L, 0, r⟩]) pk)) ?_; rintro e wc ⟨rfl, hb⟩; replace H := H.pick (A := rowsA encC 173 3 (.slice ad5 3 c5) [⟨L, a, n'⟩, ⟨pi, s2, n3⟩, ⟨L, 0, r⟩]) pk; replace H := H.call hb; clear hb; simp only [List.cons_append, List.nil_append] at H) | ((with_reducible refine isAppend ?_); refine AtAppend.rows (enc := encC) (xs := st) (ys := [⟨L, 0, r⟩, ⟨pi, s2, n3⟩, ⟨L, a, n'⟩]) H rfl rfl rfl rfl rfl (by decide) (by decide) rfl pk rfl (H.get (A := rowsA encC 173 3 (.slice ad5 3 c5) [⟨L, 0, r⟩, ⟨pi, s2, n3⟩, ⟨L, a, n'⟩]) pk) encC_len encC_one (by simp; omega) ?_; clear H; intro ad9 cp9 _ H; simp only [hsl, List.length_cons, List.length_nil, Nat.zero_add, Nat.add_zero, Nat.reduceAdd, List.append_nil] at H; simp only [Act.put, puA, puB, puC]))
              have HH := Lib.hid (St.only3 H (A := rowsA encT 135 3 (.slice ad1 pl c1) ps) (B := rowsA encC 173 3 (.slice ad5 3 c5) [⟨L, 0, r⟩, ⟨pi, s2, n3⟩, ⟨L, a, n'⟩]) (C := rowsA encC 173 3 (.slice ad9 (sl + 3) cp9) (st ++ [⟨L, 0, r⟩, ⟨pi, s2, n3⟩, ⟨L, a, n'⟩])) pk pk pk)
              go_roundg d'
              case measure => exact HD.out.1
              case rel =>
                try simp only [hsl, List.length_cons, List.length_nil, Nat.zero_add, Nat.add_zero, Nat.reduceAdd]
                exact ⟨ps, [⟨L, 0, r⟩, ⟨pi, s2, n3⟩, ⟨L, a, n'⟩], st ++ [⟨L, 0, r⟩, ⟨pi, s2, n3⟩, ⟨L, a, n'⟩], HD.out.2, HH.out⟩
end Go.Proofs.Ytijnhpaafhcndaa
end
section
namespace Go.Proofs
open Go.Shelf
def Try.laysRq_ren : Go.Shelf.Ren := ⟨fun | 35 => 70 | n => n, fun | 22 => 87 | 23 => 135 | n => n, fun | n => n⟩
theorem Try.laysRq : Go.Proofs.SlLaysE0.n35 Try.prog Try.laysRq_ren := {
  mixed := by kernel_rfl
  f35 := ⟨Try.f70.name, by decide, Try.func70.trans (congrArg some (by kernel_rfl))⟩
  t0 := Try.underlying0
  a0 := Try.isAgg0
  z0 := Try.sizeOf0
  v0 := Try.zeroValue0
  t3 := Try.underlying3
  a3 := Try.isAgg3
  z3 := Try.sizeOf3
  v3 := Try.zeroValue3
  t4 := Try.underlying4
  a4 := Try.isAgg4
  z4 := Try.sizeOf4
  v4 := Try.zeroValue4
  t22 := Try.underlying87
  a22 := Try.isAgg87
  z22 := Try.sizeOf87
  v22 := Try.zeroValue87 }
end Go.Proofs
namespace Go.Proofs.Ytijnhpaafhcndaa
open Go.RowKit Go.Maps Go.Sort
set_option maxHeartbeats 2000000
set_option maxRecDepth 100000
set_option linter.unusedSimpArgs false
set_option linter.unusedVariables false
instance : Inhabited Pt := ⟨⟨0, 0, 0⟩⟩
theorem revT_c {ad : Option Addr} {c n : Nat} {xs : List Pt} (hn : xs.length = n) (hx : n ≤ 16777216) (w : World) (h : (rowsA encT 135 3 (.slice ad n c) xs).ho w) :
    Calls Try.prog 70 #[.slice ad n c] w fun e w' => e = .returned (.tuple #[]) ∧ St w (rowsA encT 135 3 (.slice ad n c) xs).fp [rowsA encT 135 3 (.slice ad n c) xs.reverse] w' := by
  subst hn
  by_cases h0 : xs.length = 0
  · have hxs : xs = [] := List.eq_nil_of_length_eq_zero h0
    subst hxs
    have := AnyQ.slices_Reverse_empty Try.laysRq ad c w
    refine this.mono ?_
    rintro e w' ⟨rfl, rfl⟩
    exact ⟨rfl, St.one h⟩
  · obtain ⟨g, c', he, _, _⟩ := rowsA_cases h (by omega)
    injection he with e1 e2 e3
    subst e1 e3
    have hK := holdsK_of encT_len (by omega) h
    have := AnyQ.slices_Reverse Try.laysRq 3 Try.isAgg135 Try.sizeOf135 encT encT_len encT_one g 0 c xs.toArray w hK (by simp; omega)
    refine this.mono ?_
    rintro e w' ⟨rfl, m, rfl⟩
    have e5 : xs.toArray.reverse = xs.reverse.toArray := by simp
    rw [e5]
    exact ⟨rfl, rowsA_put encT_len (by omega) (by simp) m h⟩
end Go.Proofs.Ytijnhpaafhcndaa
end
section
namespace Go.Proofs.Ytijnhpaafhcndaa
set_option linter.unusedSimpArgs false
set_option linter.unusedVariables false
theorem rep_reverse (k : Nat) (l : List Nat) : (rep k l).reverse = rep k l.reverse := by
  induction k with
  | zero => simp [rep]
  | succ k ih =>
    rw [rep_succ, List.reverse_append, ih, rep_add k 1, rep_one]
def partsB (b : Bool) (ps : List Pt) : List Pt := if b then ps.reverse else ps
theorem partsB_len (b : Bool) (ps : List Pt) : (partsB b ps).length = ps.length := by cases b <;> simp [partsB]
theorem partsB_mem {b : Bool} {ps : List Pt} {t : Pt} (h : t ∈ partsB b ps) : t ∈ ps := by cases b <;> simpa [partsB] using h
def runP (S : Sto) (b : Bool) (ps : List Pt) : List Nat := (ps.map fun t => dirT b (S.ptTxt t)).flatten
theorem runP_nil (S : Sto) (b : Bool) : runP S b [] = [] := rfl
theorem runP_append (S : Sto) (b : Bool) (x y : List Pt) : runP S b (x ++ y) = runP S b x ++ runP S b y := by simp [runP]
theorem runP_all (S : Sto) (b : Bool) (ps : List Pt) : runP S b (partsB b ps) = dirT b (textP S ps) := by
  cases b with
  | false => rfl
  | true =>
    simp only [partsB, if_true, dirT]
    induction ps with
    | nil => rfl
    | cons t ps ih =>
      rw [List.reverse_cons, runP_append, ih]
      simp [textP, runP, dirT]
theorem runP_take (S : Sto) (b : Bool) {ps : List Pt} {j : Nat} {t : Pt} (h : ps[j]? = some t) : runP S b (ps.take (j + 1)) = runP S b (ps.take j) ++ dirT b (S.ptTxt t) := by
  rw [List.take_add_one, h, runP_append]
  simp [runP]
def PRun (m : Mc) (q0 : Nat) (l : List Nat) (q h : Nat) : Prop := q = m.ends q0 l ∧ h = capN (m.sum q0 l)
theorem PRun.nil (m : Mc) (q0 : Nat) : PRun m q0 [] q0 0 := ⟨rfl, rfl⟩
theorem PRun.app {m : Mc} {q0 : Nat} {l : List Nat} {q h : Nat} (r : PRun m q0 l q h) (l2 : List Nat) : PRun m q0 (l ++ l2) (m.ends q l2) (capN (h + m.sum q l2)) := by
  obtain ⟨rfl, rfl⟩ := r
  refine ⟨(m.ends_append q0 l l2).symm, ?_⟩
  rw [m.sum_append]
  unfold capN beyond; omega
theorem PRun.le {m : Mc} {q0 : Nat} {l : List Nat} {q h : Nat} (r : PRun m q0 l q h) : h ≤ beyond := by rw [r.2]; exact capN_le _
def BRun (m : Mc) (q0 : Nat) (l base : List Nat) (t j k q h : Nat) : Prop := k = t / 2 ^ j ∧ PRun m q0 (l ++ rep (t % 2 ^ j) base) q h
theorem BRun.first {m : Mc} {q0 : Nat} {l base : List Nat} {t q h : Nat} (r : PRun m q0 l q h) : BRun m q0 l base t 0 t q h := by
  refine ⟨by simp, ?_⟩
  rw [Nat.pow_zero, Nat.mod_one, rep_zero, List.append_nil]
  exact r
theorem bit_mod (t j : Nat) : t % 2 ^ (j + 1) = t % 2 ^ j + 2 ^ j * (t / 2 ^ j % 2) := by
  rw [Nat.pow_succ, Nat.mod_mul]
theorem BRun.on {m : Mc} {q0 : Nat} {l base : List Nat} {t j k q h : Nat} (r : BRun m q0 l base t j k q h) (hb : k % 2 = 1) : BRun m q0 l base t (j + 1) (k / 2) (m.ends q (rep (2 ^ j) base)) (capN (h + m.sum q (rep (2 ^ j) base))) := by
  obtain ⟨rfl, r⟩ := r
  refine ⟨by rw [Nat.pow_succ, Nat.div_div_eq_div_mul], ?_⟩
  rw [bit_mod, hb, Nat.mul_one, rep_add, ← List.append_assoc]
  exact r.app _
theorem BRun.off {m : Mc} {q0 : Nat} {l base : List Nat} {t j k q h : Nat} (r : BRun m q0 l base t j k q h) (hb : k % 2 = 0) : BRun m q0 l base t (j + 1) (k / 2) q h := by
  obtain ⟨rfl, r⟩ := r
  refine ⟨by rw [Nat.pow_succ, Nat.div_div_eq_div_mul], ?_⟩
  rw [bit_mod, hb, Nat.mul_zero, Nat.add_zero]
  exact r
theorem BRun.last {m : Mc} {q0 : Nat} {l base : List Nat} {t j k q h : Nat} (r : BRun m q0 l base t j k q h) (hk : k = 0) : PRun m q0 (l ++ rep t base) q h := by
  obtain ⟨rfl, r⟩ := r
  have : t % 2 ^ j = t := Nat.mod_eq_of_lt (by
    rcases Nat.lt_or_ge t (2 ^ j) with h | h
    · exact h
    · have := Nat.div_pos h (Nat.two_pow_pos j); omega)
  rwa [this] at r
theorem BRun.lt {m : Mc} {q0 : Nat} {l base : List Nat} {t j k q h n : Nat} (r : BRun m q0 l base t j k q h) (hk : 0 < k) (ht : t < 2 ^ n) : j < n := by
  obtain ⟨rfl, _⟩ := r
  rcases Nat.lt_or_ge j n with h | h
  · exact h
  · have h2 : 2 ^ n ≤ 2 ^ j := Nat.pow_le_pow_right (by omega) h
    rw [Nat.div_eq_of_lt (by omega)] at hk
    omega
end Go.Proofs.Ytijnhpaafhcndaa
end
section
namespace Go.Proofs.Ytijnhpaafhcndaa
open Go.RowKit Go.Maps
attribute [local go_sem] InGr
set_option maxHeartbeats 4000000
set_option maxRecDepth 100000
set_option linter.unusedSimpArgs false
set_option linter.unusedVariables false
theorem copies_look {S : Sto} {T T' : Tab} (hext : T.Ext T') (hT : TabOk S T') {i tid k : Nat} {x : En} (hi : i + 1 ≤ 1048577) (hkn : T'.Known (i + 1)) (hx : S.list[i]? = some (powerE x tid k)) :
    ∃ a1 n1 c1 a2 n2 c2 g o n c, ∃ cps : List (Value × Value), (∀ w, (mapA Try.prog 32 T.km (T'.es.map entV)).ho w → (Instr.lookup 123 (.map (some T.km)) (.int .i64 ((i + 1 : Nat) : Int)) false).run Try.prog w = .ok (.agg #[.slice a1 n1 c1, .slice a2 n2 c2, .slice (some ⟨g, o, none⟩) n c]) w) ∧ cps.length = n ∧ n ≤ 64 ∧ k < 2 ^ n ∧ RowIn T'.P encP 2 (.slice (some ⟨g, o, none⟩) n c) cps ∧ ∀ (j : Nat) (p : Value × Value), cps[j]? = some p → EffAt T'.P T.mc (dirT T.back (rep (2 ^ j) (S.txt tid))) p.1 p.2 := by
  obtain ⟨p1, p2, p3, p4, p5, p6⟩ := hext.same
  obtain ⟨⟨v1, v2, v3⟩, hv⟩ := hkn
  obtain ⟨i', x', h1, h2, h3⟩ := hT.ents _ hv
  have h1' : i + 1 = i' + 1 := h1
  obtain rfl : i = i' := by omega
  rw [hx] at h2
  cases h2
  obtain ⟨cps, r1, r2, r3, r4, r5⟩ := h3.copies rfl
  obtain ⟨cn, ok⟩ := hT.ok
  obtain ⟨g, o, c, g', o', c', e1, e2⟩ := h3.eff.shape ok.n1
  obtain ⟨gc, oc, cc, e3, r1'⟩ := r1.hasN rfl (by omega)
  refine ⟨some ⟨g, o, none⟩, T'.mc.n, c, some ⟨g', o', none⟩, T'.mc.n, c', gc, oc, cps.length, cc, cps, fun w h => ?_, rfl, r3, r4, r1', fun j p hp => ?_⟩
  · rw [← p3] at h ⊢
    have := look_known hT hi hv h false
    have f1 : v1 = _ := e1
    have f2 : v2 = _ := e2
    have f3 : v3 = _ := e3
    subst f1 f2 f3
    exact this
  · rw [← p5, ← p6]; exact r5 j p hp
theorem St.only4 {w0 w : World} {M : List Nat} {L R1 R2 R3 R4 : List As} {A B C D : As} (h : St w0 M L w) (h1 : Pick L A R1) (h2 : Pick R1 B R2) (h3 : Pick R2 C R3) (h4 : Pick R3 D R4) : St w0 M [A, B, C, D] w :=
  (h.perm (L' := [A, B, C, D] ++ R4) (h1.perm.trans ((h2.perm.trans ((h3.perm.trans ((h4.perm).cons _)).cons _)).cons _))).heads
theorem power_le {S : Sto} (hS : S.Ok) {i tid k : Nat} {x : En} (hx : S.list[i]? = some (powerE x tid k)) : k ≤ 1152921504606846976 := by
  generalize hy : powerE x tid k = y at hx
  have hm := maxT_eq
  cases hS.ents i y hx with
  | letter b hb => simp [powerE, letterE] at hy
  | pair l r y z hl hr hy' hz h => simp [powerE, pairE] at hy
  | power l k' y' hl hy' hk h =>
    have hp := (hS.good l y' hy').pos
    have e : k = k' := by simp [powerE] at hy; omega
    subst e
    have := Nat.le_mul_of_pos_left k hp
    omega
theorem capN_big {s : Nat} : (capN s ≤ 1152921504606846976 ↔ s ≤ 1152921504606846976) ∧ (s ≤ 1152921504606846976 → capN s = s) := by
  unfold capN beyond; omega
def PaRel (S : Sto) (T T' : Tab) (cs : Array Value) (M : List Nat) (w : World) (q0 : Nat) (ad : Option Addr) (c pl : Nat) (ps : List Pt) (v4 v11 v78 : Value) (wr : World) : Prop :=
  ∃ j q h : Nat, v4 = .int .i64 q ∧ v11 = .int .i64 h ∧ v78 = .int .i64 j ∧ j ≤ pl ∧ q < T.mc.n ∧ PRun T.mc q0 (runP S T.back (ps.take j)) q h ∧ St w M [blk T.p (.cells cs 125), poolA T'.P, mapA Try.prog 32 T.km (T'.es.map entV), rowsA encT 135 3 (.slice ad pl c) ps] wr
def BiRel (S : Sto) (T T' : Tab) (cs : Array Value) (M : List Nat) (w : World) (q0 : Nat) (ad : Option Addr) (c pl : Nat) (ps : List Pt) (l base : List Nat) (tt : Nat) (v4 v11 v21 v22 : Value) (wr : World) : Prop :=
  ∃ j k q h : Nat, v4 = .int .i64 q ∧ v11 = .int .i64 h ∧ v21 = .int .i64 j ∧ v22 = .int .i64 k ∧ j ≤ 65 ∧ k ≤ tt ∧ q < T.mc.n ∧ BRun T.mc q0 l base tt j k q h ∧ St w M [blk T.p (.cells cs 125), poolA T'.P, mapA Try.prog 32 T.km (T'.es.map entV), rowsA encT 135 3 (.slice ad pl c) ps] wr
def PartPost (S : Sto) (T : Tab) (q0 : Nat) (l : List Nat) (M : List Nat) (w : World) (e : Ending) (w' : World) : Prop :=
  ∃ T', e = .returned (if T.mc.sum q0 l ≤ 1152921504606846976 then .tuple #[.int .i64 (T.mc.ends q0 l : Nat), .int .i64 (T.mc.sum q0 l : Nat), .nilIface] else .tuple #[.int .i64 0, .int .i64 0, .iface 42 (.int .i64 2)]) ∧ T.Ext T' ∧ TabOk S T' ∧ St w M [tabA T'] w'
theorem part_c {S : Sto} {T : Tab} {lv : Value} {m id s n q : Nat} (hS : S.Ok) (hT : TabOk S T) (hid : id ≤ S.list.length) (hq : q < T.mc.n) (hf : s + n ≤ (S.txt id).length) (w : World) (h : ((tabA T).sep (stoA T.s lv m S)).ho w) :
    Calls Try.prog 40 #[.pointer (some ⟨T.p, 0, none⟩), .int .i64 id, .int .i64 s, .int .i64 n, .int .i64 q] w (PartPost S T q (dirT T.back (S.pcTxt ⟨id, s, n⟩)) (tabA T).fp w) := by
  have h0 := h
  rw [sep_ho] at h
  obtain ⟨h1, h2, hd⟩ := h
  have H := St.one h1
  have HK : Ks w (tabA T).fp [stoA T.s lv m S] := ⟨by simpa using h2, by simpa using fun b hb hm => hd b hm hb⟩
  have HC : Hid (∀ w, (tabA T).ho w → (stoA T.s lv m S).ho w → Calls Try.prog 71 #[.pointer (some ⟨T.p, 0, none⟩), .int .i64 id, .int .i64 q] w fun e w' => e = .returned .nilIface ∧ w' = w) := Lib.hid fun w a b => tcheck_c hT hid hq w a b
  have HL : Hid (∀ w, ((tabA T).sep (stoA T.s lv m S)).ho w → Calls Try.prog 72 #[.pointer (some ⟨T.p, 0, none⟩), .int .i64 id] w (fun e w' => ∃ T', e = .returned .nilIface ∧ T.Ext T' ∧ TabOk S T' ∧ (id = 0 ∨ T'.Known id) ∧ St w (tabA T).fp [tabA T'] w')) := Lib.hid fun w h => learn_c hS hT hid w h
  obtain ⟨a1, a2, a3, a4, a5, hw1⟩ := wlen_c (p := T.s) (m := m) (lv := lv) hS hid
  have HW1 := Lib.hid hw1
  have hmax := txt_max hS hid
  have HR := Lib.hid (fun w => range_ok s n (S.txt id).length hf hmax w)
  have HO : Hid (∀ T', TabOk S T' → (id = 0 ∨ T'.Known id) → ∀ w, (stoA T.s lv m S).ho w → Calls Try.prog 69 #[.pointer (some ⟨T.s, 0, none⟩), .int .i64 id, .int .i64 s, .int .i64 n] w fun e w' => ∃ ad c ps, e = .returned (.tuple #[.slice ad ps.length c, .nilIface]) ∧ textP S ps = S.pcTxt ⟨id, s, n⟩ ∧ (∀ t ∈ ps, PtOk S T'.Known t) ∧ ps.length ≤ 6 * S.list.length + 6 ∧ St w [] [rowsA encT 135 3 (.slice ad ps.length c) ps] w') := Lib.hid fun T' hT' hkn w h => of_c hS hT'.closed hid hkn hf w h
  obtain ⟨gc, oc, cc, gn, on, cn, ga, oa, ca, gh, oh, ch, hc⟩ := hT.cells
  have HCELLS := Lib.hid hc
  obtain ⟨cm, okm⟩ := hT.ok
  have HOKM := Lib.hid okm
  have hl1 := hS.len
  have hl2 := hS.most
  have HD := Lib.hid hd
  have HSO := Lib.hid hS
  have hq0 := hq
  have HQ := Lib.hid hq
  generalize hln : (S.txt id).length = ln at *
  generalize hgoal : S.pcTxt ⟨id, s, n⟩ = goal at *
  clear hc hT h0 h1 h2 hd hw1 okm hS hq hf hgoal hq0 hln
  have HRV := Lib.hid (show ∀ (ps : List Pt) ad c, ps.length ≤ 16777216 → ∀ w, (rowsA encT 135 3 (.slice ad ps.length c) ps).ho w → Calls Try.prog 70 #[.slice ad ps.length c] w fun e w' => e = .returned (.tuple #[]) ∧ St w (rowsA encT 135 3 (.slice ad ps.length c) ps).fp [rowsA encT 135 3 (.slice ad ps.length c) ps.reverse] w' from fun ps ad c hl w h => revT_c rfl hl w h)
  rcases hbk : T.back with _ | _
  · have HBK := Lib.hid hbk
    have HC2 : Hid (tabCells T = #[.pointer (some ⟨T.s, 0, none⟩), .int .i64 T.mc.start, .slice (some ⟨gc, oc, none⟩) 256 cc, .slice (some ⟨gn, on, none⟩) T.mc.n cn, .slice (some ⟨ga, oa, none⟩) T.mc.n ca, .slice (some ⟨gh, oh, none⟩) T.mc.n ch, .bool false, .map (some T.km)]) := Lib.hid (by rw [HCELLS.out, tabC, hbk])
    rw [← hbk]
    clear hbk
    go_enter Try.func40, Try.ntmps40
    go_wp2_with (first | refine sL ?_ | (refine sS ?_; clear H; intro _ H) | (refine sA ?_; clear H; intro _ _ H) | refine sF ?_ | (go_at_call 71; with_reducible refine Calls.mono (HC.out _ (H.get (A := tabA T) pk) (H.known HK pk)) ?_; rintro e wc ⟨rfl, hwc⟩; obtain rfl := hwc.symm; replace H := tabA_open H; rw [HC2.out] at H) | (go_at_call 30; with_reducible refine Calls.mono (HW1.out _ (H.known HK pk)) ?_; rintro e wc ⟨rfl, hb⟩; replace H := H.grew hb.below; clear hb) | (go_at_call 35; with_reducible refine Calls.mono (HR.out _) ?_; rintro e wc ⟨rfl, hwc⟩; obtain rfl := hwc.symm) | (go_at_call 72; replace H := tabA_shut_of (Tab.Ext.refl T) HC2.out H pk pk pk; with_reducible refine Calls.mono (HL.out _ (sep_mk (H.get (A := tabA T) pk) (H.known HK pk) HD.out)) ?_; rintro e wc ⟨T', rfl, hext, hT', hkn, hb⟩; replace H := H.pick (A := tabA T) pk; replace H := H.call hb; clear hb; simp only [List.cons_append, List.nil_append] at H; obtain ⟨p1, p2, p3, p4, p5, p6⟩ := hext.same; replace H := tabA_open H; rw [p1, p3, p4, HC2.out] at H; have HX := Lib.hid hext; have HT2 := Lib.hid hT'; have HKN := Lib.hid hkn; clear hext hT' hkn p1 p2 p3 p4 p5 p6) | (go_at_call 69; with_reducible refine Calls.mono (HO.out T' HT2.out HKN.out _ (H.known HK pk)) ?_; rintro e wc ⟨ad, c, ps, rfl, htx, hpts, hpl, hb⟩; replace H := H.call0 hb; clear hb; simp only [List.cons_append, List.nil_append] at H; have HTX := Lib.hid htx; have HPT := Lib.hid hpts; have hpsb : ps.length ≤ 7000000 := (by omega); clear htx hpts hpl) | (go_at_call 70; with_reducible refine Calls.mono (HRV.out ps ad c (by omega) _ (H.get (A := rowsA encT 135 3 (.slice ad ps.length c) ps) pk)) ?_; rintro e wc ⟨rfl, hb⟩; replace H := H.pick (A := rowsA encT 135 3 (.slice ad ps.length c) ps) pk; replace H := H.call hb; clear hb; simp only [List.cons_append, List.nil_append] at H))
    generalize hpl : ps.length = pl at *
    obtain ⟨lp, hlp⟩ : ∃ lp, lp = partsB false ps := ⟨_, rfl⟩
    rw [show ps = lp from hlp.symm] at H
    have HLEN := Lib.hid (show lp.length = pl from by rw [hlp, partsB_len, hpl])
    have HRUN := Lib.hid (show runP S T.back lp = dirT T.back goal from by rw [hlp, ← HTX.out, HBK.out]; exact runP_all S false ps)
    have HPS := Lib.hid (show ∀ t ∈ lp, PtOk S T'.Known t from fun t ht => HPT.out t (partsB_mem (hlp ▸ ht)))
    clear hlp hpl HTX HPT
    obtain ⟨cs, hcs⟩ : ∃ cs : Array Value, cs = #[.pointer (some ⟨T.s, 0, none⟩), .int .i64 T.mc.start, .slice (some ⟨gc, oc, none⟩) 256 cc, .slice (some ⟨gn, on, none⟩) T.mc.n cn, .slice (some ⟨ga, oa, none⟩) T.mc.n ca, .slice (some ⟨gh, oh, none⟩) T.mc.n ch, .bool false, .map (some T.km)] := ⟨_, rfl⟩
    rw [← hcs] at H
    go_loopw [4, 11, 78] (fun v4 v11 v78 wr => PaRel S T T' cs (tabA T).fp w q ad c pl lp v4 v11 v78 wr) (fun _ _ v78 _ => pl - (intOf v78).toNat)
    case atStart => exact ⟨0, q, 0, rfl, rfl, rfl, Nat.zero_le _, HQ.out, PRun.nil _ _, H.only4 (A := blk T.p (.cells cs 125)) (B := poolA T'.P) (C := mapA Try.prog 32 T.km (T'.es.map entV)) (D := rowsA encT 135 3 (.slice ad pl c) lp) pk pk pk pk⟩
    case round =>
      clear H
      obtain ⟨j, q1, h1, rfl, rfl, rfl, hj, hq1, hrun, H⟩ := hrel
      have hh1 := hrun.le
      unfold beyond at hh1
      have HRN := Lib.hid hrun
      have HQ1 := Lib.hid hq1
      have hn256 := HOKM.out.n256
      clear hrun
      by_cases hlt : j < pl
      · obtain ⟨⟨ti, tp, tt⟩, ht⟩ : ∃ t, lp[j]? = some t := ⟨_, List.getElem?_eq_getElem (by rw [HLEN.out]; exact hlt)⟩
        have HPO := Lib.hid (HPS.out _ (List.mem_of_getElem? ht))
        have HTK := Lib.hid (runP_take S T.back ht)
        have HLK := Lib.hid ht
        obtain ⟨gr, cr, hadr, _, _⟩ := rowsA_cases (H.get (A := rowsA encT 135 3 (.slice ad pl c) lp) pk) (by rw [HLEN.out]; omega)
        injection hadr with x1 x2 x3
        subst x1 x3
        clear ht x2
        have htid := HPO.out.le
        have htid1 := HPO.out.pos
        have htt := HPO.out.times
        simp only at htid htid1 htt
        by_cases h1t : tt = 1
        · obtain ⟨e1, n1, c1, e2, n2, c2, e3, n3, c3, hlk, hef⟩ := eff_look HX.out HT2.out (id := ti) (by omega) (.inr HPO.out.known)
          have hef' := hef (by omega)
          have hpt : S.ptTxt ⟨ti, tp, tt⟩ = S.txt ti := by rw [h1t]; exact rep_one _
          have hlt' : ∀ b ∈ dirT T.back (S.txt ti), b < 256 := fun b hb => S.txt_lt HSO.out htid b (by unfold dirT at hb; split at hb; simpa using hb; exact hb)
          have hqn := HOKM.out.ends_lt hq1 hlt'
          have HRC := Lib.hid (fun w hp => run_c HOKM.out hlt' hef' hq1 HRN.out.le w hp)
          have HNX := Lib.hid (show PRun T.mc q (runP S T.back (lp.take (j + 1))) (T.mc.ends q1 (dirT T.back (S.txt ti))) (capN (h1 + T.mc.sum q1 (dirT T.back (S.txt ti)))) from by rw [HTK.out, hpt]; exact HRN.out.app _)
          have HLO := Lib.hid hlk
          have hcn := HNX.out.le
          unfold beyond at hcn
          generalize T.mc.ends q1 (dirT T.back (S.txt ti)) = q2 at *
          generalize capN (h1 + T.mc.sum q1 (dirT T.back (S.txt ti))) = h2 at *
          have HQ2 := Lib.hid hqn
          subst h1t
          clear hlk hef hef' hpt hlt' hqn htt
          rw [hcs] at H
          go_wp2_with (first | refine sL ?_ | (refine sS ?_; clear H; intro _ H) | (refine sA ?_; clear H; intro _ _ H) | refine sF ?_ | ((with_reducible refine isLoad ?_); refine AtLoad.rngT (vs := [.int .i64 ti, .int .i64 tp, .int .i64 (1 : Nat)]) rfl rfl rfl (H.rngL (enc := encT) (xs := lp) pk encT_len HLK.out) rfl ?_; simp only [Act.put, puA, puB, puC]))
          refine wp_region_h H 16 [] [] (by kernel_rfl) (by kernel_rfl) ?_
          apply Exists.intro
          refine ⟨fun w1 hw1 HX => ?_, fun bs wr Hr => ?_⟩
          · refine sG ?_
            repeat (first | refine sQ ?_ | ((with_reducible refine isQLook ?_); refine QtLook.go (kt := 0) (et := 0) rfl rfl rfl _ (fun z => HLO.out _ ((HX z).get pk)) rfl ?_; simp only [Act.put, puA, puB, puC]) | ((with_reducible refine isQField ?_); refine QtField.rowT rfl rfl rfl rfl rfl rfl ?_; simp only [Act.put, puA, puB, puC]) | go_big_quiet_step ((go_at_call 73; with_reducible exact quiet_st_x (HRC.out _ ((HX _).get (A := poolA T'.P) pk)))) | go_big_quiet_step (fail))
            exact wpQuiet_nil rfl
          clear H
          have H := Hr
          clear Hr
          replace H := sH H; refine sT ?_
          go_wp2_with (first | refine sL ?_ | (refine sS ?_; clear H; intro _ H) | (refine sA ?_; clear H; intro _ _ H) | refine sF ?_)
          rw [← hcs] at H
          refine ⟨⟨j + 1, q2, h2, rfl, rfl, by go_num, by omega, HQ2.out, HNX.out, H.only4 (A := blk T.p (.cells cs 125)) (B := poolA T'.P) (C := mapA Try.prog 32 T.km (T'.es.map entV)) (D := rowsA encT 135 3 (.slice (some ⟨gr, 0, none⟩) pl c) lp) pk pk pk pk⟩, by simp [intOf]; omega⟩
        · obtain ⟨i, x, k, hp, hk, hx, hle⟩ : ∃ (i : Nat) (x : En) (k : Nat), tp = i + 1 ∧ T'.Known (i + 1) ∧ S.list[i]? = some (powerE x ti k) ∧ tt ≤ k := by rcases HPO.out.copies with h | h; exact absurd h h1t; exact h
          have hil := getElem_len hx
          have hkb : k ≤ 1152921504606846976 := power_le HSO.out hx
          obtain ⟨e1, n1, c1, e2, n2, c2, g5, o5, n5, c5, cps, hlk, hcl, hc64, hk2, hrow, hef⟩ := copies_look HX.out HT2.out (by omega) hk hx
          have hlk' : ∀ w, (mapA Try.prog 32 T.km (T'.es.map entV)).ho w → (Instr.lookup 123 (.map (some T.km)) (.int .i64 (tp : Int)) false).run Try.prog w = .ok (.agg #[.slice e1 n1 c1, .slice e2 n2 c2, .slice (some ⟨g5, o5, none⟩) n5 c5]) w := by rw [hp]; exact hlk
          have hpt : S.ptTxt ⟨ti, tp, tt⟩ = rep tt (S.txt ti) := rfl
          have HNX := Lib.hid (show runP S T.back (lp.take (j + 1)) = runP S T.back (lp.take j) ++ rep tt (dirT T.back (S.txt ti)) from by rw [HTK.out, hpt, dirT_rep])
          have hlt' : ∀ b ∈ dirT T.back (S.txt ti), b < 256 := fun b hb => S.txt_lt HSO.out htid b (by unfold dirT at hb; split at hb; simpa using hb; exact hb)
          have HLT := Lib.hid hlt'
          have HLO := Lib.hid hlk'
          have HROW := Lib.hid hrow
          have HEF := Lib.hid hef
          have HCL := Lib.hid hcl
          have HK2 := Lib.hid (show tt < 2 ^ n5 from by omega)
          have h1f : ((tt : Int) == 1) = false := by simp; omega
          have htb : tt ≤ 1152921504606846976 := by omega
          clear hlk hlk' hef hpt hlt' hrow hcl hk2 hp hx hk hil
          rw [hcs] at H
          go_wp2_with (first | refine sL ?_ | (refine sS ?_; clear H; intro _ H) | (refine sA ?_; clear H; intro _ _ H) | refine sF ?_ | ((with_reducible refine isLoad ?_); refine AtLoad.rngT (vs := [.int .i64 ti, .int .i64 tp, .int .i64 tt]) rfl rfl rfl (H.rngL (enc := encT) (xs := lp) pk encT_len HLK.out) rfl ?_; simp only [Act.put, puA, puB, puC]))
          refine wp_region_h H 9 [] [] (by kernel_rfl) (by kernel_rfl) ?_
          apply Exists.intro
          refine ⟨fun w1 hw1 HX => ?_, fun bs wr Hr => ?_⟩
          · refine sG ?_
            repeat (first | refine sQ ?_ | ((with_reducible refine isQLook ?_); refine QtLook.go (kt := 0) (et := 0) rfl rfl rfl _ (fun z => HLO.out _ ((HX z).get pk)) rfl ?_; simp only [Act.put, puA, puB, puC]) | ((with_reducible refine isQField ?_); refine QtField.cellT rfl rfl rfl rfl rfl rfl ?_; simp only [Act.put, puA, puB, puC]) | go_big_quiet_step (fail))
            exact wpQuiet_nil rfl
          clear H
          have H := Hr
          clear Hr
          replace H := sH H; refine sT ?_
          go_wp2_with (first | refine sL ?_ | (refine sS ?_; clear H; intro _ H) | (refine sA ?_; clear H; intro _ _ H) | refine sF ?_)
          refine wp_region_h H 4 [] [] (by kernel_rfl) (by kernel_rfl) ?_
          apply Exists.intro
          refine ⟨fun w1 hw1 HX => ?_, fun bs wr Hr => ?_⟩
          · refine sG ?_
            repeat (first | refine sQ ?_ | fail | go_big_quiet_step (fail))
            exact wpQuiet_nil rfl
          clear H
          have H := Hr
          clear Hr
          replace H := sH H; refine sT ?_
          go_wp2_with (first | refine sL ?_ | (refine sS ?_; clear H; intro _ H) | (refine sA ?_; clear H; intro _ _ H) | refine sF ?_)
          rw [← hcs] at H
          go_loopw [4, 11, 21, 22] (fun v4 v11 v21 v22 wr => BiRel S T T' cs (tabA T).fp w q (some ⟨gr, 0, none⟩) c pl lp (runP S T.back (lp.take j)) (dirT T.back (S.txt ti)) tt v4 v11 v21 v22 wr) (fun _ _ _ v22 _ => (intOf v22).toNat)
          case atStart => exact ⟨0, tt, q1, h1, rfl, rfl, rfl, rfl, by omega, Nat.le_refl _, HQ1.out, BRun.first HRN.out, H.only4 (A := blk T.p (.cells cs 125)) (B := poolA T'.P) (C := mapA Try.prog 32 T.km (T'.es.map entV)) (D := rowsA encT 135 3 (.slice (some ⟨gr, 0, none⟩) pl c) lp) pk pk pk pk⟩
          case round =>
            clear H
            obtain ⟨jb, kk, q3, h3, rfl, rfl, rfl, rfl, hjb, hkk, hq3, hbr, H⟩ := hrel
            have HBR := Lib.hid hbr
            have hh3 := hbr.2.le
            unfold beyond at hh3
            clear hbr
            rw [hcs] at H
            by_cases hz : 0 < kk
            · have hjn : jb < n5 := HBR.out.lt hz HK2.out
              have hand := and_one_i64 kk (by omega)
              by_cases hod : kk % 2 = 1
              · have hob : ((kk : Int) % 2 == 1) = true := by rw [odd_dec]; simpa using hod
                obtain ⟨⟨ev, hv⟩, hcp⟩ : ∃ p, cps[jb]? = some p := ⟨_, List.getElem?_eq_getElem (by rw [HCL.out]; exact hjn)⟩
                have hef1 := HEF.out jb _ hcp
                rw [dirT_rep] at hef1
                have hl9 : ∀ b ∈ rep (2 ^ jb) (dirT T.back (S.txt ti)), b < 256 := fun b hb => HLT.out b (rep_mem hb)
                have hqn := HOKM.out.ends_lt hq3 hl9
                have HRC := Lib.hid (fun w hp => run_c HOKM.out hl9 hef1 hq3 HBR.out.2.le w hp)
                have HBN := Lib.hid (HBR.out.on hod)
                have hcn := HBN.out.2.le
                unfold beyond at hcn
                generalize T.mc.ends q3 (rep (2 ^ jb) (dirT T.back (S.txt ti))) = q4 at *
                generalize capN (h3 + T.mc.sum q3 (rep (2 ^ jb) (dirT T.back (S.txt ti)))) = h4 at *
                have HQ4 := Lib.hid hqn
                have HCP := Lib.hid hcp
                clear hef1 hl9 hqn hod hcp
                go_wp2_with (first | refine sL ?_ | (refine sS ?_; clear H; intro _ H) | (refine sA ?_; clear H; intro _ _ H) | refine sF ?_ | ((with_reducible refine isLoad ?_); refine AtLoad.rngT (vs := [ev, hv]) rfl rfl rfl (HROW.out.rng (H.get (A := poolA T'.P) pk) encP_len HCP.out) rfl ?_; simp only [Act.put, puA, puB, puC]) | (go_at_call 73; with_reducible refine Calls.mono (HRC.out _ (H.get (A := poolA T'.P) pk)) ?_; rintro e wc ⟨rfl, hb⟩; replace H := H.grew hb.below; clear hb))
                rw [← hcs] at H
                refine ⟨⟨jb + 1, kk / 2, q4, h4, rfl, rfl, by go_num, by first | rfl | go_num, by omega, by omega, HQ4.out, HBN.out, H.only4 (A := blk T.p (.cells cs 125)) (B := poolA T'.P) (C := mapA Try.prog 32 T.km (T'.es.map entV)) (D := rowsA encT 135 3 (.slice (some ⟨gr, 0, none⟩) pl c) lp) pk pk pk pk⟩, by simp only [intOf]; omega⟩
              · have hob : ((kk : Int) % 2 == 1) = false := by rw [odd_dec]; simpa using hod
                have HBN := Lib.hid (HBR.out.off (by omega))
                have HQ4 := Lib.hid hq3
                clear hod
                go_wp2_with (first | refine sL ?_ | (refine sS ?_; clear H; intro _ H) | (refine sA ?_; clear H; intro _ _ H) | refine sF ?_)
                rw [← hcs] at H
                refine ⟨⟨jb + 1, kk / 2, q3, h3, rfl, rfl, by go_num, by first | rfl | go_num, by omega, by omega, HQ4.out, HBN.out, H.only4 (A := blk T.p (.cells cs 125)) (B := poolA T'.P) (C := mapA Try.prog 32 T.km (T'.es.map entV)) (D := rowsA encT 135 3 (.slice (some ⟨gr, 0, none⟩) pl c) lp) pk pk pk pk⟩, by simp only [intOf]; omega⟩
            · have hk0 : kk = 0 := by omega
              have HN2 := Lib.hid (HBR.out.last hk0)
              have HQ2 := Lib.hid hq3
              subst hk0
              go_wp2_with (first | refine sL ?_ | (refine sS ?_; clear H; intro _ H) | (refine sA ?_; clear H; intro _ _ H) | refine sF ?_)
              rw [← hcs] at H
              refine ⟨⟨j + 1, q3, h3, rfl, rfl, by go_num, by omega, HQ2.out, by rw [HNX.out]; exact HN2.out, H.only4 (A := blk T.p (.cells cs 125)) (B := poolA T'.P) (C := mapA Try.prog 32 T.km (T'.es.map entV)) (D := rowsA encT 135 3 (.slice (some ⟨gr, 0, none⟩) pl c) lp) pk pk pk pk⟩, by simp [intOf]; omega⟩
      · have hje : j = pl := by omega
        have hfin : PRun T.mc q (dirT T.back goal) q1 h1 := by have := HRN.out; rw [hje, ← HLEN.out, List.take_length, HRUN.out] at this; exact this
        have hq1' := hfin.1
        have hh1' := hfin.2
        have HF := Lib.hid hfin
        subst hje
        rw [hcs] at H
        by_cases hs : T.mc.sum q (dirT T.back goal) ≤ 1152921504606846976
        · have hh2 : h1 = T.mc.sum q (dirT T.back goal) := by rw [hh1']; exact capN_big.2 hs
          have d1 : decide (1152921504606846976 < h1) = false := by simp; omega
          have d2 : decide ((1152921504606846976 : Int) < (h1 : Nat)) = false := by simp; omega
          have HQ2 := Lib.hid hq1'
          have HH2 := Lib.hid hh2
          have HS2 := Lib.hid hs
          clear hfin hq1' hh1' hh2 hs
          go_wp2_with (first | refine sL ?_ | (refine sS ?_; clear H; intro _ H) | (refine sA ?_; clear H; intro _ _ H) | refine sF ?_)
          go_ret3
          have H3 := tabA_shut_of HX.out HC2.out H pk pk pk
          exact ⟨T', by rw [if_pos HS2.out, ← HQ2.out, ← HH2.out]; rfl, HX.out, HT2.out, H3.onlyHead⟩
        · have hh2 : 1152921504606846976 < h1 := by rw [hh1']; have := (capN_big (s := T.mc.sum q (dirT T.back goal))).1; omega
          have d1 : decide (1152921504606846976 < h1) = true := by simp; omega
          have d2 : decide ((1152921504606846976 : Int) < (h1 : Nat)) = true := by simp; omega
          have HQ2 := Lib.hid hq1'
          have HH2 := Lib.hid hh2
          have HS2 := Lib.hid hs
          clear hfin hq1' hh1' hh2 hs
          go_wp2_with (first | refine sL ?_ | (refine sS ?_; clear H; intro _ H) | (refine sA ?_; clear H; intro _ _ H) | refine sF ?_)
          go_ret3
          have H3 := tabA_shut_of HX.out HC2.out H pk pk pk
          exact ⟨T', by rw [if_neg HS2.out]; rfl, HX.out, HT2.out, H3.onlyHead⟩
  · have HBK := Lib.hid hbk
    have HC2 : Hid (tabCells T = #[.pointer (some ⟨T.s, 0, none⟩), .int .i64 T.mc.start, .slice (some ⟨gc, oc, none⟩) 256 cc, .slice (some ⟨gn, on, none⟩) T.mc.n cn, .slice (some ⟨ga, oa, none⟩) T.mc.n ca, .slice (some ⟨gh, oh, none⟩) T.mc.n ch, .bool true, .map (some T.km)]) := Lib.hid (by rw [HCELLS.out, tabC, hbk])
    rw [← hbk]
    clear hbk
    go_enter Try.func40, Try.ntmps40
    go_wp2_with (first | refine sL ?_ | (refine sS ?_; clear H; intro _ H) | (refine sA ?_; clear H; intro _ _ H) | refine sF ?_ | (go_at_call 71; with_reducible refine Calls.mono (HC.out _ (H.get (A := tabA T) pk) (H.known HK pk)) ?_; rintro e wc ⟨rfl, hwc⟩; obtain rfl := hwc.symm; replace H := tabA_open H; rw [HC2.out] at H) | (go_at_call 30; with_reducible refine Calls.mono (HW1.out _ (H.known HK pk)) ?_; rintro e wc ⟨rfl, hb⟩; replace H := H.grew hb.below; clear hb) | (go_at_call 35; with_reducible refine Calls.mono (HR.out _) ?_; rintro e wc ⟨rfl, hwc⟩; obtain rfl := hwc.symm) | (go_at_call 72; replace H := tabA_shut_of (Tab.Ext.refl T) HC2.out H pk pk pk; with_reducible refine Calls.mono (HL.out _ (sep_mk (H.get (A := tabA T) pk) (H.known HK pk) HD.out)) ?_; rintro e wc ⟨T', rfl, hext, hT', hkn, hb⟩; replace H := H.pick (A := tabA T) pk; replace H := H.call hb; clear hb; simp only [List.cons_append, List.nil_append] at H; obtain ⟨p1, p2, p3, p4, p5, p6⟩ := hext.same; replace H := tabA_open H; rw [p1, p3, p4, HC2.out] at H; have HX := Lib.hid hext; have HT2 := Lib.hid hT'; have HKN := Lib.hid hkn; clear hext hT' hkn p1 p2 p3 p4 p5 p6) | (go_at_call 69; with_reducible refine Calls.mono (HO.out T' HT2.out HKN.out _ (H.known HK pk)) ?_; rintro e wc ⟨ad, c, ps, rfl, htx, hpts, hpl, hb⟩; replace H := H.call0 hb; clear hb; simp only [List.cons_append, List.nil_append] at H; have HTX := Lib.hid htx; have HPT := Lib.hid hpts; have hpsb : ps.length ≤ 7000000 := (by omega); clear htx hpts hpl) | (go_at_call 70; with_reducible refine Calls.mono (HRV.out ps ad c (by omega) _ (H.get (A := rowsA encT 135 3 (.slice ad ps.length c) ps) pk)) ?_; rintro e wc ⟨rfl, hb⟩; replace H := H.pick (A := rowsA encT 135 3 (.slice ad ps.length c) ps) pk; replace H := H.call hb; clear hb; simp only [List.cons_append, List.nil_append] at H))
    generalize hpl : ps.length = pl at *
    obtain ⟨lp, hlp⟩ : ∃ lp, lp = partsB true ps := ⟨_, rfl⟩
    rw [show ps.reverse = lp from hlp.symm] at H
    have HLEN := Lib.hid (show lp.length = pl from by rw [hlp, partsB_len, hpl])
    have HRUN := Lib.hid (show runP S T.back lp = dirT T.back goal from by rw [hlp, ← HTX.out, HBK.out]; exact runP_all S true ps)
    have HPS := Lib.hid (show ∀ t ∈ lp, PtOk S T'.Known t from fun t ht => HPT.out t (partsB_mem (hlp ▸ ht)))
    clear hlp hpl HTX HPT
    obtain ⟨cs, hcs⟩ : ∃ cs : Array Value, cs = #[.pointer (some ⟨T.s, 0, none⟩), .int .i64 T.mc.start, .slice (some ⟨gc, oc, none⟩) 256 cc, .slice (some ⟨gn, on, none⟩) T.mc.n cn, .slice (some ⟨ga, oa, none⟩) T.mc.n ca, .slice (some ⟨gh, oh, none⟩) T.mc.n ch, .bool true, .map (some T.km)] := ⟨_, rfl⟩
    rw [← hcs] at H
    go_loopw [4, 11, 78] (fun v4 v11 v78 wr => PaRel S T T' cs (tabA T).fp w q ad c pl lp v4 v11 v78 wr) (fun _ _ v78 _ => pl - (intOf v78).toNat)
    case atStart => exact ⟨0, q, 0, rfl, rfl, rfl, Nat.zero_le _, HQ.out, PRun.nil _ _, H.only4 (A := blk T.p (.cells cs 125)) (B := poolA T'.P) (C := mapA Try.prog 32 T.km (T'.es.map entV)) (D := rowsA encT 135 3 (.slice ad pl c) lp) pk pk pk pk⟩
    case round =>
      clear H
      obtain ⟨j, q1, h1, rfl, rfl, rfl, hj, hq1, hrun, H⟩ := hrel
      have hh1 := hrun.le
      unfold beyond at hh1
      have HRN := Lib.hid hrun
      have HQ1 := Lib.hid hq1
      have hn256 := HOKM.out.n256
      clear hrun
      by_cases hlt : j < pl
      · obtain ⟨⟨ti, tp, tt⟩, ht⟩ : ∃ t, lp[j]? = some t := ⟨_, List.getElem?_eq_getElem (by rw [HLEN.out]; exact hlt)⟩
        have HPO := Lib.hid (HPS.out _ (List.mem_of_getElem? ht))
        have HTK := Lib.hid (runP_take S T.back ht)
        have HLK := Lib.hid ht
        obtain ⟨gr, cr, hadr, _, _⟩ := rowsA_cases (H.get (A := rowsA encT 135 3 (.slice ad pl c) lp) pk) (by rw [HLEN.out]; omega)
        injection hadr with x1 x2 x3
        subst x1 x3
        clear ht x2
        have htid := HPO.out.le
        have htid1 := HPO.out.pos
        have htt := HPO.out.times
        simp only at htid htid1 htt
        by_cases h1t : tt = 1
        · obtain ⟨e1, n1, c1, e2, n2, c2, e3, n3, c3, hlk, hef⟩ := eff_look HX.out HT2.out (id := ti) (by omega) (.inr HPO.out.known)
          have hef' := hef (by omega)
          have hpt : S.ptTxt ⟨ti, tp, tt⟩ = S.txt ti := by rw [h1t]; exact rep_one _
          have hlt' : ∀ b ∈ dirT T.back (S.txt ti), b < 256 := fun b hb => S.txt_lt HSO.out htid b (by unfold dirT at hb; split at hb; simpa using hb; exact hb)
          have hqn := HOKM.out.ends_lt hq1 hlt'
          have HRC := Lib.hid (fun w hp => run_c HOKM.out hlt' hef' hq1 HRN.out.le w hp)
          have HNX := Lib.hid (show PRun T.mc q (runP S T.back (lp.take (j + 1))) (T.mc.ends q1 (dirT T.back (S.txt ti))) (capN (h1 + T.mc.sum q1 (dirT T.back (S.txt ti)))) from by rw [HTK.out, hpt]; exact HRN.out.app _)
          have HLO := Lib.hid hlk
          have hcn := HNX.out.le
          unfold beyond at hcn
          generalize T.mc.ends q1 (dirT T.back (S.txt ti)) = q2 at *
          generalize capN (h1 + T.mc.sum q1 (dirT T.back (S.txt ti))) = h2 at *
          have HQ2 := Lib.hid hqn
          subst h1t
          clear hlk hef hef' hpt hlt' hqn htt
          rw [hcs] at H
          go_wp2_with (first | refine sL ?_ | (refine sS ?_; clear H; intro _ H) | (refine sA ?_; clear H; intro _ _ H) | refine sF ?_ | ((with_reducible refine isLoad ?_); refine AtLoad.rngT (vs := [.int .i64 ti, .int .i64 tp, .int .i64 (1 : Nat)]) rfl rfl rfl (H.rngL (enc := encT) (xs := lp) pk encT_len HLK.out) rfl ?_; simp only [Act.put, puA, puB, puC]))
          refine wp_region_h H 16 [] [] (by kernel_rfl) (by kernel_rfl) ?_
          apply Exists.intro
          refine ⟨fun w1 hw1 HX => ?_, fun bs wr Hr => ?_⟩
          · refine sG ?_
            repeat (first | refine sQ ?_ | ((with_reducible refine isQLook ?_); refine QtLook.go (kt := 0) (et := 0) rfl rfl rfl _ (fun z => HLO.out _ ((HX z).get pk)) rfl ?_; simp only [Act.put, puA, puB, puC]) | ((with_reducible refine isQField ?_); refine QtField.rowT rfl rfl rfl rfl rfl rfl ?_; simp only [Act.put, puA, puB, puC]) | go_big_quiet_step ((go_at_call 73; with_reducible exact quiet_st_x (HRC.out _ ((HX _).get (A := poolA T'.P) pk)))) | go_big_quiet_step (fail))
            exact wpQuiet_nil rfl
          clear H
          have H := Hr
          clear Hr
          replace H := sH H; refine sT ?_
          go_wp2_with (first | refine sL ?_ | (refine sS ?_; clear H; intro _ H) | (refine sA ?_; clear H; intro _ _ H) | refine sF ?_)
          rw [← hcs] at H
          refine ⟨⟨j + 1, q2, h2, rfl, rfl, by go_num, by omega, HQ2.out, HNX.out, H.only4 (A := blk T.p (.cells cs 125)) (B := poolA T'.P) (C := mapA Try.prog 32 T.km (T'.es.map entV)) (D := rowsA encT 135 3 (.slice (some ⟨gr, 0, none⟩) pl c) lp) pk pk pk pk⟩, by simp [intOf]; omega⟩
        · obtain ⟨i, x, k, hp, hk, hx, hle⟩ : ∃ (i : Nat) (x : En) (k : Nat), tp = i + 1 ∧ T'.Known (i + 1) ∧ S.list[i]? = some (powerE x ti k) ∧ tt ≤ k := by rcases HPO.out.copies with h | h; exact absurd h h1t; exact h
          have hil := getElem_len hx
          have hkb : k ≤ 1152921504606846976 := power_le HSO.out hx
          obtain ⟨e1, n1, c1, e2, n2, c2, g5, o5, n5, c5, cps, hlk, hcl, hc64, hk2, hrow, hef⟩ := copies_look HX.out HT2.out (by omega) hk hx
          have hlk' : ∀ w, (mapA Try.prog 32 T.km (T'.es.map entV)).ho w → (Instr.lookup 123 (.map (some T.km)) (.int .i64 (tp : Int)) false).run Try.prog w = .ok (.agg #[.slice e1 n1 c1, .slice e2 n2 c2, .slice (some ⟨g5, o5, none⟩) n5 c5]) w := by rw [hp]; exact hlk
          have hpt : S.ptTxt ⟨ti, tp, tt⟩ = rep tt (S.txt ti) := rfl
          have HNX := Lib.hid (show runP S T.back (lp.take (j + 1)) = runP S T.back (lp.take j) ++ rep tt (dirT T.back (S.txt ti)) from by rw [HTK.out, hpt, dirT_rep])
          have hlt' : ∀ b ∈ dirT T.back (S.txt ti), b < 256 := fun b hb => S.txt_lt HSO.out htid b (by unfold dirT at hb; split at hb; simpa using hb; exact hb)
          have HLT := Lib.hid hlt'
          have HLO := Lib.hid hlk'
          have HROW := Lib.hid hrow
          have HEF := Lib.hid hef
          have HCL := Lib.hid hcl
          have HK2 := Lib.hid (show tt < 2 ^ n5 from by omega)
          have h1f : ((tt : Int) == 1) = false := by simp; omega
          have htb : tt ≤ 1152921504606846976 := by omega
          clear hlk hlk' hef hpt hlt' hrow hcl hk2 hp hx hk hil
          rw [hcs] at H
          go_wp2_with (first | refine sL ?_ | (refine sS ?_; clear H; intro _ H) | (refine sA ?_; clear H; intro _ _ H) | refine sF ?_ | ((with_reducible refine isLoad ?_); refine AtLoad.rngT (vs := [.int .i64 ti, .int .i64 tp, .int .i64 tt]) rfl rfl rfl (H.rngL (enc := encT) (xs := lp) pk encT_len HLK.out) rfl ?_; simp only [Act.put, puA, puB, puC]))
          refine wp_region_h H 9 [] [] (by kernel_rfl) (by kernel_rfl) ?_
          apply Exists.intro
          refine ⟨fun w1 hw1 HX => ?_, fun bs wr Hr => ?_⟩
          · refine sG ?_
            repeat (first | refine sQ ?_ | ((with_reducible refine isQLook ?_); refine QtLook.go (kt := 0) (et := 0) rfl rfl rfl _ (fun z => HLO.out _ ((HX z).get pk)) rfl ?_; simp only [Act.put, puA, puB, puC]) | ((with_reducible refine isQField ?_); refine QtField.cellT rfl rfl rfl rfl rfl rfl ?_; simp only [Act.put, puA, puB, puC]) | go_big_quiet_step (fail))
            exact wpQuiet_nil rfl
          clear H
          have H := Hr
          clear Hr
          replace H := sH H; refine sT ?_
          go_wp2_with (first | refine sL ?_ | (refine sS ?_; clear H; intro _ H) | (refine sA ?_; clear H; intro _ _ H) | refine sF ?_)
          refine wp_region_h H 4 [] [] (by kernel_rfl) (by kernel_rfl) ?_
          apply Exists.intro
          refine ⟨fun w1 hw1 HX => ?_, fun bs wr Hr => ?_⟩
          · refine sG ?_
            repeat (first | refine sQ ?_ | fail | go_big_quiet_step (fail))
            exact wpQuiet_nil rfl
          clear H
          have H := Hr
          clear Hr
          replace H := sH H; refine sT ?_
          go_wp2_with (first | refine sL ?_ | (refine sS ?_; clear H; intro _ H) | (refine sA ?_; clear H; intro _ _ H) | refine sF ?_)
          rw [← hcs] at H
          go_loopw [4, 11, 21, 22] (fun v4 v11 v21 v22 wr => BiRel S T T' cs (tabA T).fp w q (some ⟨gr, 0, none⟩) c pl lp (runP S T.back (lp.take j)) (dirT T.back (S.txt ti)) tt v4 v11 v21 v22 wr) (fun _ _ _ v22 _ => (intOf v22).toNat)
          case atStart => exact ⟨0, tt, q1, h1, rfl, rfl, rfl, rfl, by omega, Nat.le_refl _, HQ1.out, BRun.first HRN.out, H.only4 (A := blk T.p (.cells cs 125)) (B := poolA T'.P) (C := mapA Try.prog 32 T.km (T'.es.map entV)) (D := rowsA encT 135 3 (.slice (some ⟨gr, 0, none⟩) pl c) lp) pk pk pk pk⟩
          case round =>
            clear H
            obtain ⟨jb, kk, q3, h3, rfl, rfl, rfl, rfl, hjb, hkk, hq3, hbr, H⟩ := hrel
            have HBR := Lib.hid hbr
            have hh3 := hbr.2.le
            unfold beyond at hh3
            clear hbr
            rw [hcs] at H
            by_cases hz : 0 < kk
            · have hjn : jb < n5 := HBR.out.lt hz HK2.out
              have hand := and_one_i64 kk (by omega)
              by_cases hod : kk % 2 = 1
              · have hob : ((kk : Int) % 2 == 1) = true := by rw [odd_dec]; simpa using hod
                obtain ⟨⟨ev, hv⟩, hcp⟩ : ∃ p, cps[jb]? = some p := ⟨_, List.getElem?_eq_getElem (by rw [HCL.out]; exact hjn)⟩
                have hef1 := HEF.out jb _ hcp
                rw [dirT_rep] at hef1
                have hl9 : ∀ b ∈ rep (2 ^ jb) (dirT T.back (S.txt ti)), b < 256 := fun b hb => HLT.out b (rep_mem hb)
                have hqn := HOKM.out.ends_lt hq3 hl9
                have HRC := Lib.hid (fun w hp => run_c HOKM.out hl9 hef1 hq3 HBR.out.2.le w hp)
                have HBN := Lib.hid (HBR.out.on hod)
                have hcn := HBN.out.2.le
                unfold beyond at hcn
                generalize T.mc.ends q3 (rep (2 ^ jb) (dirT T.back (S.txt ti))) = q4 at *
                generalize capN (h3 + T.mc.sum q3 (rep (2 ^ jb) (dirT T.back (S.txt ti)))) = h4 at *
                have HQ4 := Lib.hid hqn
                have HCP := Lib.hid hcp
                clear hef1 hl9 hqn hod hcp
                go_wp2_with (first | refine sL ?_ | (refine sS ?_; clear H; intro _ H) | (refine sA ?_; clear H; intro _ _ H) | refine sF ?_ | ((with_reducible refine isLoad ?_); refine AtLoad.rngT (vs := [ev, hv]) rfl rfl rfl (HROW.out.rng (H.get (A := poolA T'.P) pk) encP_len HCP.out) rfl ?_; simp only [Act.put, puA, puB, puC]) | (go_at_call 73; with_reducible refine Calls.mono (HRC.out _ (H.get (A := poolA T'.P) pk)) ?_; rintro e wc ⟨rfl, hb⟩; replace H := H.grew hb.below; clear hb))
                rw [← hcs] at H
                refine ⟨⟨jb + 1, kk / 2, q4, h4, rfl, rfl, by go_num, by first | rfl | go_num, by omega, by omega, HQ4.out, HBN.out, H.only4 (A := blk T.p (.cells cs 125)) (B := poolA T'.P) (C := mapA Try.prog 32 T.km (T'.es.map entV)) (D := rowsA encT 135 3 (.slice (some ⟨gr, 0, none⟩) pl c) lp) pk pk pk pk⟩, by simp only [intOf]; omega⟩
              · have hob : ((kk : Int) % 2 == 1) = false := by rw [odd_dec]; simpa using hod
                have HBN := Lib.hid (HBR.out.off (by omega))
                have HQ4 := Lib.hid hq3
                clear hod
                go_wp2_with (first | refine sL ?_ | (refine sS ?_; clear H; intro _ H) | (refine sA ?_; clear H; intro _ _ H) | refine sF ?_)
                rw [← hcs] at H
                refine ⟨⟨jb + 1, kk / 2, q3, h3, rfl, rfl, by go_num, by first | rfl | go_num, by omega, by omega, HQ4.out, HBN.out, H.only4 (A := blk T.p (.cells cs 125)) (B := poolA T'.P) (C := mapA Try.prog 32 T.km (T'.es.map entV)) (D := rowsA encT 135 3 (.slice (some ⟨gr, 0, none⟩) pl c) lp) pk pk pk pk⟩, by simp only [intOf]; omega⟩
            · have hk0 : kk = 0 := by omega
              have HN2 := Lib.hid (HBR.out.last hk0)
              have HQ2 := Lib.hid hq3
              subst hk0
              go_wp2_with (first | refine sL ?_ | (refine sS ?_; clear H; intro _ H) | (refine sA ?_; clear H; intro _ _ H) | refine sF ?_)
              rw [← hcs] at H
              refine ⟨⟨j + 1, q3, h3, rfl, rfl, by go_num, by omega, HQ2.out, by rw [HNX.out]; exact HN2.out, H.only4 (A := blk T.p (.cells cs 125)) (B := poolA T'.P) (C := mapA Try.prog 32 T.km (T'.es.map entV)) (D := rowsA encT 135 3 (.slice (some ⟨gr, 0, none⟩) pl c) lp) pk pk pk pk⟩, by simp [intOf]; omega⟩
      · have hje : j = pl := by omega
        have hfin : PRun T.mc q (dirT T.back goal) q1 h1 := by have := HRN.out; rw [hje, ← HLEN.out, List.take_length, HRUN.out] at this; exact this
        have hq1' := hfin.1
        have hh1' := hfin.2
        have HF := Lib.hid hfin
        subst hje
        rw [hcs] at H
        by_cases hs : T.mc.sum q (dirT T.back goal) ≤ 1152921504606846976
        · have hh2 : h1 = T.mc.sum q (dirT T.back goal) := by rw [hh1']; exact capN_big.2 hs
          have d1 : decide (1152921504606846976 < h1) = false := by simp; omega
          have d2 : decide ((1152921504606846976 : Int) < (h1 : Nat)) = false := by simp; omega
          have HQ2 := Lib.hid hq1'
          have HH2 := Lib.hid hh2
          have HS2 := Lib.hid hs
          clear hfin hq1' hh1' hh2 hs
          go_wp2_with (first | refine sL ?_ | (refine sS ?_; clear H; intro _ H) | (refine sA ?_; clear H; intro _ _ H) | refine sF ?_)
          go_ret3
          have H3 := tabA_shut_of HX.out HC2.out H pk pk pk
          exact ⟨T', by rw [if_pos HS2.out, ← HQ2.out, ← HH2.out]; rfl, HX.out, HT2.out, H3.onlyHead⟩
        · have hh2 : 1152921504606846976 < h1 := by rw [hh1']; have := (capN_big (s := T.mc.sum q (dirT T.back goal))).1; omega
          have d1 : decide (1152921504606846976 < h1) = true := by simp; omega
          have d2 : decide ((1152921504606846976 : Int) < (h1 : Nat)) = true := by simp; omega
          have HQ2 := Lib.hid hq1'
          have HH2 := Lib.hid hh2
          have HS2 := Lib.hid hs
          clear hfin hq1' hh1' hh2 hs
          go_wp2_with (first | refine sL ?_ | (refine sS ?_; clear H; intro _ H) | (refine sA ?_; clear H; intro _ _ H) | refine sF ?_)
          go_ret3
          have H3 := tabA_shut_of HX.out HC2.out H pk pk pk
          exact ⟨T', by rw [if_neg HS2.out]; rfl, HX.out, HT2.out, H3.onlyHead⟩
end Go.Proofs.Ytijnhpaafhcndaa
end
section
namespace Go.Proofs.Ytijnhpaafhcndaa
open Go.RowKit Go.Maps
attribute [local go_sem] InGr
set_option maxHeartbeats 4000000
set_option maxRecDepth 100000
set_option linter.unusedSimpArgs false
set_option linter.unusedVariables false
theorem closed_all (S : Sto) : S.Closed fun _ => True := fun _ _ _ _ => ⟨fun _ => ⟨trivial, trivial⟩, fun _ => trivial⟩
def SPartsPost (S : Sto) (b : Bool) (goal : List Nat) (w : World) (e : Ending) (w' : World) : Prop :=
  ∃ ad c lp, e = .returned (.slice ad lp.length c) ∧ runP S b lp = dirT b goal ∧ (∀ t ∈ lp, PtOk S (fun _ => True) t) ∧ lp.length ≤ 6 * S.list.length + 6 ∧ St w [] [rowsA encT 135 3 (.slice ad lp.length c) lp] w'
theorem sparts_c {S : Sto} {T : Tab} {lv : Value} {m id s n : Nat} (hS : S.Ok) (hT : TabOk S T) (hid : id ≤ S.list.length) (hf : s + n ≤ (S.txt id).length) (w : World) (h1 : (tabA T).ho w) (h2 : (stoA T.s lv m S).ho w) :
    Calls Try.prog 38 #[.pointer (some ⟨T.p, 0, none⟩), .int .i64 id, .int .i64 s, .int .i64 n] w (SPartsPost S T.back (S.pcTxt ⟨id, s, n⟩) w) := by
  have H := St.nil w []
  have HK : Ks w [] [tabA T, stoA T.s lv m S] := ⟨fun A hA => by simp at hA; rcases hA with rfl | rfl; exact h1; exact h2, fun A hA b hb => by simp⟩
  have HST : Hid (∀ w, (tabA T).ho w → Calls Try.prog 44 #[.pointer (some ⟨T.p, 0, none⟩)] w fun e w' => e = .returned (.pointer (some ⟨T.s, 0, none⟩)) ∧ w' = w) := Lib.hid fun w h => store_c hT w h
  have HO : Hid (∀ w, (stoA T.s lv m S).ho w → Calls Try.prog 69 #[.pointer (some ⟨T.s, 0, none⟩), .int .i64 id, .int .i64 s, .int .i64 n] w fun e w' => ∃ ad c ps, e = .returned (.tuple #[.slice ad ps.length c, .nilIface]) ∧ textP S ps = S.pcTxt ⟨id, s, n⟩ ∧ (∀ t ∈ ps, PtOk S (fun _ => True) t) ∧ ps.length ≤ 6 * S.list.length + 6 ∧ St w [] [rowsA encT 135 3 (.slice ad ps.length c) ps] w') := Lib.hid fun w h => of_c hS (closed_all S) hid (.inr trivial) hf w h
  have HRV := Lib.hid (show ∀ (ps : List Pt) ad c, ps.length ≤ 16777216 → ∀ w, (rowsA encT 135 3 (.slice ad ps.length c) ps).ho w → Calls Try.prog 70 #[.slice ad ps.length c] w fun e w' => e = .returned (.tuple #[]) ∧ St w (rowsA encT 135 3 (.slice ad ps.length c) ps).fp [rowsA encT 135 3 (.slice ad ps.length c) ps.reverse] w' from fun ps ad c hl w h => revT_c rfl hl w h)
  have hl1 := hS.len
  have hl2 := hS.most
  have HBA : Hid (∀ w, (tabA T).ho w → Calls Try.prog 65 #[.pointer (some ⟨T.p, 0, none⟩)] w fun e w' => e = .returned (.bool T.back) ∧ w' = w) := Lib.hid fun w h => back_c hT w h
  clear hT hS h1 h2 hf
  rcases hbk : T.back with _ | _
  · have HBK := Lib.hid hbk
    have HBA2 : Hid (∀ w, (tabA T).ho w → Calls Try.prog 65 #[.pointer (some ⟨T.p, 0, none⟩)] w fun e w' => e = .returned (.bool false) ∧ w' = w) := Lib.hid (by rw [← hbk]; exact HBA.out)
    clear hbk
    go_enter Try.func38, Try.ntmps38
    go_wp2_with (first | (go_at_call 44; with_reducible refine Calls.mono (HST.out _ (H.known HK pk)) ?_; rintro e wc ⟨rfl, hwc⟩; obtain rfl := hwc.symm) | (go_at_call 65; with_reducible refine Calls.mono (HBA2.out _ (H.known HK pk)) ?_; rintro e wc ⟨rfl, hwc⟩; obtain rfl := hwc.symm) | (go_at_call 69; with_reducible refine Calls.mono (HO.out _ (H.known HK pk)) ?_; rintro e wc ⟨ad, c, ps, rfl, htx, hpts, hpl, hb⟩; replace H := H.call0 hb; clear hb; simp only [List.cons_append, List.nil_append] at H; have HTX := Lib.hid htx; have HPT := Lib.hid hpts; have HPL := Lib.hid hpl; clear htx hpts hpl))
    go_ret
    exact ⟨ad, c, ps, rfl, by rw [← HTX.out]; exact runP_all S false ps, HPT.out, HPL.out, (H.pick (A := rowsA encT 135 3 (.slice ad ps.length c) ps) pk).onlyHead⟩
  · have HBK := Lib.hid hbk
    have HBA2 : Hid (∀ w, (tabA T).ho w → Calls Try.prog 65 #[.pointer (some ⟨T.p, 0, none⟩)] w fun e w' => e = .returned (.bool true) ∧ w' = w) := Lib.hid (by rw [← hbk]; exact HBA.out)
    clear hbk
    go_enter Try.func38, Try.ntmps38
    go_wp2_with (first | (go_at_call 44; with_reducible refine Calls.mono (HST.out _ (H.known HK pk)) ?_; rintro e wc ⟨rfl, hwc⟩; obtain rfl := hwc.symm) | (go_at_call 65; with_reducible refine Calls.mono (HBA2.out _ (H.known HK pk)) ?_; rintro e wc ⟨rfl, hwc⟩; obtain rfl := hwc.symm) | (go_at_call 69; with_reducible refine Calls.mono (HO.out _ (H.known HK pk)) ?_; rintro e wc ⟨ad, c, ps, rfl, htx, hpts, hpl, hb⟩; replace H := H.call0 hb; clear hb; simp only [List.cons_append, List.nil_append] at H; have HTX := Lib.hid htx; have HPT := Lib.hid hpts; have HPL := Lib.hid hpl; have hpsb : ps.length ≤ 16777216 := (by omega); clear htx hpts hpl) | (go_at_call 70; with_reducible refine Calls.mono (HRV.out ps ad c hpsb _ (H.get (A := rowsA encT 135 3 (.slice ad ps.length c) ps) pk)) ?_; rintro e wc ⟨rfl, hb⟩; replace H := H.pick (A := rowsA encT 135 3 (.slice ad ps.length c) ps) pk; replace H := H.call hb; clear hb; simp only [List.cons_append, List.nil_append] at H))
    go_ret
    have hlr : ps.reverse.length = ps.length := List.length_reverse
    refine ⟨ad, c, ps.reverse, by rw [hlr]; rfl, by rw [← HTX.out]; exact runP_all S true ps, fun t ht => HPT.out t (List.mem_reverse.1 ht), by rw [hlr]; exact HPL.out, ?_⟩
    rw [hlr]
    exact (H.pick (A := rowsA encT 135 3 (.slice ad ps.length c) ps.reverse) pk).onlyHead
end Go.Proofs.Ytijnhpaafhcndaa
end
