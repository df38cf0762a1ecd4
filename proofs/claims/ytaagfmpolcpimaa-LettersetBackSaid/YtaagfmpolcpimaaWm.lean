/-
  The walk of letterset's Parse: what it returns. Conditions: bytes below 256, a text that fits memory.
-/
import Derived.Test.YtaagfmpolcpimaaWl
import Derived.Deep.LoopGhost
import Derived.Deep.CutBlock
import Derived.Deep.CutRange
import Derived.Deep.DeepCutAuto
import Derived.Laws.ResultCell
namespace Go.Proofs.Ytaagfmpolcpimaa
open Go.RowKit
attribute [local go_sem] OneStep growAt growUpon
set_option maxHeartbeats 2000000
set_option maxRecDepth 100000
set_option linter.unusedSimpArgs false
set_option linter.unusedVariables false
attribute [local go_sem] strB_len strB_bytes

/-- what the loop of Parse keeps: the result's block, the set's block, the old memory -/
structure Pst (w0 : World) (B : Nat) (s : Nat → Nat) (w : World) : Prop where
  res : w.heap[B]? = some (.cells (AV fun _ => 0) 24)
  set : w.heap[B + 1]? = some (.cells (AV s) 24)
  below : Below B w0 w
  at0 : B = w0.heap.size
theorem Pst.size {w0 : World} {s : Nat → Nat} {B : Nat} {w : World} (h : Pst w0 B s w) : B + 2 ≤ w.heap.size := lt_of_block h.set
theorem Pst.grew {w0 : World} {s : Nat → Nat} {B : Nat} {w w' : World} (h : Pst w0 B s w) (hg : Below w.heap.size w w') : Pst w0 B s w' :=
  ⟨block_below' hg h.res, block_below' hg h.set, h.below.trans (hg.mono (by have := h.size; omega)), h.at0⟩
theorem Pst.put {w0 : World} {s : Nat → Nat} {B : Nat} {w : World} (h : Pst w0 B s w) (t : Nat → Nat) : Pst w0 B t (w.setRow (B + 1) (AV t)) :=
  ⟨(setRow_other _ _ _ _ (by omega)).trans h.res, setRow_heap _ _ _ _ _ _ h.set, h.below.trans ⟨rfl, rfl, rfl, by simp, fun k hk => setRow_other _ _ _ _ (by omega)⟩, h.at0⟩

def prsV : Option (Nat → Nat) → Value
  | none => .tuple #[.agg (AV fun _ => 0), .iface 63 (.int .i64 4)]
  | some s => .tuple #[.agg (AV s), .nilIface]

theorem results_row_tmp {P : Program} {fn : Func} {p u : Tmp} {ty : TypeId} (h : fn.results = #[.cell p ty, .tmp u]) (tmps : Array Value) (w : World) (g : Nat) (t : TypeId) (cs : Array Value) (fr : Nat × Nat) (d : TypeDesc) (x : Value)
    (hp : tmps.getD p undef = .pointer (some ⟨g, 0, none⟩)) (hx : tmps.getD u undef = x) (hg : w.heap[g]? = some (.cells cs t fr))
    (hu : P.underlying ty = some d) (hd : (match d with | .struct _ | .array _ _ => true | _ => false) = true) (hi : (P.info? ty).map (·.size) = some cs.size) :
    (results fn tmps).run P w = .ok (.tuple #[.agg cs, x]) w := by
  rw [results_cell_tmp h, hp, hx]
  simp [asAddr, run_loadVar_row w g t ty cs fr d hg hu hd hi, Result.andThen]
theorem wpList_store_zero {P : Program} {ops : Array Oper} {rest : List Oper} {o : Oper} {a : Act} {w : World} {Q : Exit → Act → World → Prop} (hgd : o.guard = none) (ty : TypeId) (x y : Operand) (ho : o.op = .store ty x y)
    (g : Nat) (hx : a.eval x = .pointer (some ⟨g, 0, none⟩)) (hy : a.eval y = .agg #[.int .u64 0, .int .u64 0, .int .u64 0, .int .u64 0]) (t : TypeId) (s : Nat → Nat)
    (hg : w.heap[g]? = some (.cells (AV s) t)) (hi : (P.info? ty).map (·.size) = some 4)
    (h : wpList P ops Q rest (a.put o.dst undef) (w.setRow g (AV fun _ => 0))) : wpList P ops Q (o :: rest) a w := by
  refine wpList_store_row hgd ty x y ho g hx (AV fun _ => 0) (by rw [hy, AV_eq]; rfl) t (AV s) hg (by rw [AV_size]; exact hi) (by rw [AV_size, AV_size]) (AV_one _) h
theorem i24_4 : (Try.prog.info? 24).map (·.size) = some 4 := by have := i24 fun _ => 0; rwa [AV_size] at this
theorem setRow_zero {w : World} {s : Nat → Nat} {B : Nat} {w0 : World} (h : Pst w0 B s w) : (w.setRow B (AV fun _ => 0)).heap[B]? = some (.cells (AV fun _ => 0) 24) ∧ Below B w0 (w.setRow B (AV fun _ => 0)) :=
  ⟨setRow_heap _ _ _ _ _ _ h.res, h.below.trans ⟨rfl, rfl, rfl, by simp, fun k hk => setRow_other _ _ _ _ (by omega)⟩⟩
theorem Pst.final {w0 : World} {s : Nat → Nat} {B : Nat} {w : World} (h : Pst w0 B s w) : (w.setRow B (AV s)).heap[B]? = some (.cells (AV s) 24) ∧ Below B w0 (w.setRow B (AV s)) :=
  ⟨setRow_heap _ _ _ _ _ _ h.res, h.below.trans ⟨rfl, rfl, rfl, by simp, fun k hk => setRow_other _ _ _ _ (by omega)⟩⟩
theorem strB_cut2 (L : List Nat) (k : Nat) : (strB L).extract k L.length = strB (L.drop k) := by rw [← strB_cut, strB_size]
/-- what element answers at an index of a text -/
theorem elt_at (L : List Nat) (hl : ∀ x ∈ L, x < 256) (k : Nat) (hk : k ≤ L.length) : ∃ a n : Nat, Hid (elt (L.drop k) = (a, n)) ∧ a < 256 ∧ k + n ≤ L.length := by
  have h := elt_bd (L.drop k) fun x hx => hl x (List.mem_of_mem_drop hx)
  refine ⟨(elt (L.drop k)).1, (elt (L.drop k)).2, Lib.hid rfl, h.1, ?_⟩
  have h2 := h.2.1
  rw [List.length_drop] at h2
  omega
theorem between_1 (a : Nat) (ha : a < 256) (w : World) : Calls Try.prog 21 #[.int .u8 a, .int .u8 a] w fun e w' => e = .returned (.agg (AV (btw a 1))) ∧ Below w.heap.size w w' := by
  have := between_c a a ha ha w
  rwa [show a + 1 - a = 1 by omega] at this
theorem drop_ne {L : List Nat} {k : Nat} (h : k < L.length) : L.drop k ≠ [] := by intro e; have := List.drop_eq_nil_iff.1 e; omega
theorem prs_end {L : List Nat} {k : Nat} (h : ¬ k < L.length) (s : Nat → Nat) : prs (L.drop k) s = some s := by rw [List.drop_eq_nil_of_le (by omega), prs_nil]
theorem prs_err0 {L : List Nat} {k a : Nat} (h : k < L.length) (he : elt (L.drop k) = (a, 0)) (s : Nat → Nat) : prs (L.drop k) s = none := prs_none (drop_ne h) (rng_no (by rw [he])) s
theorem prs_one {L : List Nat} {k a n : Nat} (h : k < L.length) (he : elt (L.drop k) = (a, n)) (hn : n ≠ 0) (h2 : L[k + n]? ≠ some 45) (s : Nat → Nat) : prs (L.drop k) s = prs (L.drop (k + n)) (orW s (btw a 1)) := by
  have h3 := rng_one (l := L.drop k) (by rw [he]; exact hn) (by rw [he, List.getElem?_drop]; exact h2)
  rw [he] at h3
  rw [prs_some (drop_ne h) h3, List.drop_drop, show a + 1 - a = 1 by omega]
theorem prs_err2 {L : List Nat} {k a n b m : Nat} (h : k < L.length) (he : elt (L.drop k) = (a, n)) (hn : n ≠ 0) (h2 : L[k + n]? = some 45) (he2 : elt (L.drop (k + n + 1)) = (b, m)) (hb : m = 0 ∨ b < a) (s : Nat → Nat) : prs (L.drop k) s = none := by
  refine prs_none (drop_ne h) (rng_bad (by rw [he]; exact hn) (by rw [he, List.getElem?_drop]; exact h2) ?_) s
  rw [he, List.drop_drop, show k + (n + 1) = k + n + 1 by omega, he2]
  exact hb
theorem prs_two {L : List Nat} {k a n b m : Nat} (h : k < L.length) (he : elt (L.drop k) = (a, n)) (hn : n ≠ 0) (h2 : L[k + n]? = some 45) (he2 : elt (L.drop (k + n + 1)) = (b, m)) (hb : ¬ (m = 0 ∨ b < a)) (s : Nat → Nat) :
    prs (L.drop k) s = prs (L.drop (k + n + 1 + m)) (orW s (btw a (b + 1 - a))) := by
  have h3 := rng_two (l := L.drop k) (by rw [he]; exact hn) (by rw [he, List.getElem?_drop]; exact h2) (by rw [he, List.drop_drop, show k + (n + 1) = k + n + 1 by omega, he2]; exact hb)
  rw [he, List.drop_drop, show k + (n + 1) = k + n + 1 by omega, he2] at h3
  rw [prs_some (drop_ne h) h3, List.drop_drop]
  congr 2
  omega
theorem parse_c (L : List Nat) (hl : ∀ x ∈ L, x < 256) (hL : L.length ≤ 1000000000000000) (w : World) :
    Calls Try.prog 27 #[.string (strB L)] w fun e w' => e = .returned (prsV (prs L fun _ => 0)) ∧ Below w.heap.size w w' := by
  obtain ⟨B, hBB⟩ : ∃ B, B = w.heap.size := ⟨_, rfl⟩
  have HBB := Lib.hid hBB
  have H0 : Hid (Pst w B (fun _ => 0) ((w.alloc (.cells (AV fun _ => 0) 24)).alloc (.cells (AV fun _ => 0) 24))) := Lib.hid
    ⟨by rw [heap_past _ _ _ (by simp; omega)]; exact heap_at _ _ _ hBB, heap_at _ _ _ (by simp; omega), by rw [hBB]; exact ((Below.refl _ _).alloc (by simp) _).alloc (by simp) _, hBB⟩
  have HL := Lib.hid hl
  clear hl
  go_enter Try.func27, Try.ntmps27
  go_wp2_with (refine wpList_alloc_row rfl 24 rfl _ z24 ?_; simp only [Act.put, List.setIfInBounds_toArray, List.set_cons_zero, List.set_cons_succ, World.size_alloc])
  rw [← hBB]
  clear hBB
  go_loopg [5] L.length (fun g i wr => ∃ (k : Nat) (s : Nat → Nat), k ≤ L.length ∧ g = L.length - k ∧ i = .int .i64 k ∧ Hid (prs (L.drop k) s = prs L fun _ => 0) ∧ Hid (W64 s) ∧ Hid (Pst w B s wr))
  case atStart => exact ⟨0, _, by omega, by omega, rfl, Lib.hid (by rw [List.drop_zero]), Lib.hid W64_zero, H0⟩
  case round =>
    obtain ⟨k, s, hk, rfl, rfl, HF, HW, HS⟩ := hrel
    clear H0
    by_cases hlt : k < L.length
    · obtain ⟨a, n, HE, ha, hn⟩ := elt_at L HL.out k hk
      go_wp2_with fail
      rw [strB_cut2]
      refine (elementAny _ (fun x hx => HL.out x (List.mem_of_mem_drop hx)) _).mono ?_
      rw [HE.out]
      rintro e w1 ⟨rfl, hb1⟩
      have HS1 := Lib.hid (HS.out.grew hb1)
      clear hb1 HS
      by_cases hn0 : n = 0
      · subst hn0
        have HR : Hid (prs L (fun _ => 0) = none) := Lib.hid (by rw [← HF.out]; exact prs_err0 hlt HE.out s)
        go_wp2_with (first | (refine wpList_store_zero rfl 24 _ _ rfl _ rfl rfl _ _ HS1.out.res i24_4 ?_; simp only [Act.put, List.setIfInBounds_toArray, List.set_cons_zero, List.set_cons_succ]))
        have HZ := setRow_zero HS1.out
        exact bodyPost_ret (results_row_tmp rfl _ _ _ _ _ _ _ _ rfl rfl HZ.1 Try.underlying24 rfl (i24 _)) rfl ⟨by rw [HR.out]; rfl, by rw [← HBB.out]; exact HZ.2⟩
      · have c0 : ((n : Int) == 0) = false := beq_eq_false_iff_ne.2 (by omega)
        have HN0 := Lib.hid hn0
        have hn1 : 1 ≤ n := by omega
        clear hn0
        by_cases h45 : L[k + n]? = some 45
        · have HD := Lib.hid h45
          have hlt2 : k + n < L.length := (List.getElem?_eq_some_iff.1 h45).1
          have i0 := strB_at L (k + n) 45 (by omega) h45
          clear h45
          obtain ⟨b, m, HE2, hb, hm⟩ := elt_at L HL.out (k + n + 1) (by omega)
          go_wp2_with fail
          rw [strB_cut2]
          refine (elementAny _ (fun x hx => HL.out x (List.mem_of_mem_drop hx)) _).mono ?_
          rw [HE2.out]
          rintro e w2 ⟨rfl, hb2⟩
          have HS2 := Lib.hid (HS1.out.grew hb2)
          clear hb2 HS1
          by_cases hm0 : m = 0
          · have HM := Lib.hid hm0
            subst hm0
            have HR : Hid (prs L (fun _ => 0) = none) := Lib.hid (by rw [← HF.out]; exact prs_err2 hlt HE.out HN0.out HD.out HE2.out (.inl rfl) s)
            go_wp2_with (first | (refine wpList_store_zero rfl 24 _ _ rfl _ rfl rfl _ _ HS2.out.res i24_4 ?_; simp only [Act.put, List.setIfInBounds_toArray, List.set_cons_zero, List.set_cons_succ]))
            have HZ := setRow_zero HS2.out
            exact bodyPost_ret (results_row_tmp rfl _ _ _ _ _ _ _ _ rfl rfl HZ.1 Try.underlying24 rfl (i24 _)) rfl ⟨by rw [HR.out]; rfl, by rw [← HBB.out]; exact HZ.2⟩
          · have c1 : ((m : Int) == 0) = false := beq_eq_false_iff_ne.2 (by omega)
            have HM := Lib.hid hm0
            have hm1 : 1 ≤ m := by omega
            clear hm0
            by_cases hba : b < a
            · have HBA := Lib.hid hba
              have HR : Hid (prs L (fun _ => 0) = none) := Lib.hid (by rw [← HF.out]; exact prs_err2 hlt HE.out HN0.out HD.out HE2.out (.inr HBA.out) s)
              go_wp2_with (first | (refine wpList_store_zero rfl 24 _ _ rfl _ rfl rfl _ _ HS2.out.res i24_4 ?_; simp only [Act.put, List.setIfInBounds_toArray, List.set_cons_zero, List.set_cons_succ]))
              have HZ := setRow_zero HS2.out
              exact bodyPost_ret (results_row_tmp rfl _ _ _ _ _ _ _ _ rfl rfl HZ.1 Try.underlying24 rfl (i24 _)) rfl ⟨by rw [HR.out]; rfl, by rw [← HBB.out]; exact HZ.2⟩
            · have hba2 : a ≤ b := by omega
              have HBA : Hid (¬ (m = 0 ∨ b < a)) := Lib.hid (by have := HM.out; omega)
              clear hba
              go_wp2_with fail
              refine wp_region_grows 5 [IsV (.agg (AV s)), IsV (.int .u8 a), IsV (.int .u8 b), IsV (.agg (AV (btw a (b + 1 - a)))), IsV (.agg (AV (orW s (btw a (b + 1 - a)))))] []
                [[], [], [], [(1, 60), (2, 61)], [(0, 59), (3, 62)]] [(0, 59), (1, 60), (2, 61), (3, 62), (4, 63)] (by kernel_rfl) (by kernel_rfl) rfl ?stable ⟨?o0, ?o1, ?o2, ?o3, ?o4, trivial⟩ ?fin
              case stable => exact ⟨IsV.stable _, IsV.stable _, IsV.stable _, IsV.stable _, IsV.stable _, trivial⟩
              case o0 =>
                intro vals w' hg hd
                clear hd
                simp only [putS, List.foldl_nil]
                exact one_load_row (by rfl) _ _ rfl _ rfl _ _ _ _ (block_below' hg HS2.out.set) Try.underlying24 rfl (i24 _) (isV_mk _ _)
              case o1 =>
                intro vals w' hg hd
                clear hd
                simp only [putS, List.foldl_nil]
                clear hg
                go_simp
                try go_bits
                exact isV_mk _ _
              case o2 =>
                intro vals w' hg hd
                clear hd
                simp only [putS, List.foldl_nil]
                clear hg
                go_simp
                try go_bits
                exact isV_mk _ _
              case o3 =>
                intro vals w' hg hd
                have h1 : vals 1 = .int .u8 a := hd.1
                have h2 : vals 2 = .int .u8 b := hd.2.1
                clear hd
                simp only [putS, List.foldl_nil, List.foldl_cons, Act.put, List.setIfInBounds_toArray, List.set_cons_zero, List.set_cons_succ, h1, h2]
                clear hg h1 h2
                go_simp
                exact (between_c a b ha hb w').mono fun e w2 ⟨he, hb⟩ => ⟨_, he, hb, isV_mk _ _⟩
              case o4 =>
                intro vals w' hg hd
                have h0 : vals 0 = .agg (AV s) := hd.1
                have h3 : vals 3 = .agg (AV (btw a (b + 1 - a))) := hd.2.1
                clear hd
                simp only [putS, List.foldl_nil, List.foldl_cons, Act.put, List.setIfInBounds_toArray, List.set_cons_zero, List.set_cons_succ, h0, h3]
                clear hg h0 h3
                go_simp
                exact (union_c s _ HW.out (btw_W64 _ _) w').mono fun e w2 ⟨he, hb⟩ => ⟨_, he, hb, isV_mk _ _⟩
              case fin =>
                intro vals w' hg hd hfresh
                have h0 : vals 0 = .agg (AV s) := hd.1
                have h1 : vals 1 = .int .u8 a := hd.2.1
                have h2 : vals 2 = .int .u8 b := hd.2.2.1
                have h3 : vals 3 = .agg (AV (btw a (b + 1 - a))) := hd.2.2.2.1
                have h4 : vals 4 = .agg (AV (orW s (btw a (b + 1 - a)))) := hd.2.2.2.2.1
                clear hd
                simp only [putS, List.foldl_nil, List.foldl_cons, Act.put, List.setIfInBounds_toArray, List.set_cons_zero, List.set_cons_succ, List.drop_succ_cons, List.drop_zero, h0, h1, h2, h3, h4]
                have HS9 := Lib.hid ((HS2.out.grew hg).put (orW s (btw a (b + 1 - a))))
                have HG := Lib.hid (HS2.out.grew hg).set
                clear hg hfresh h0 h1 h2 h3 h4 HS2
                go_wp2_with (first | (refine wpList_store_row rfl 24 _ _ rfl _ rfl _ rfl _ _ HG.out (i24 _) (by rw [AV_size, AV_size]) (AV_one _) ?_; simp only [Act.put, List.setIfInBounds_toArray, List.set_cons_zero, List.set_cons_succ]))
                go_roundg (L.length - (k + n + 1 + m))
                case measure => omega
                case rel => exact ⟨k + n + 1 + m, _, by omega, rfl, by go_num, Lib.hid (by rw [← HF.out]; exact (prs_two hlt HE.out HN0.out HD.out HE2.out HBA.out s).symm), Lib.hid (orW_W64 HW.out (btw_W64 _ _)), HS9⟩
        · have HD := Lib.hid h45
          by_cases hlt2 : k + n < L.length
          · obtain ⟨c, hc⟩ : ∃ c, L[k + n]? = some c := ⟨_, List.getElem?_eq_getElem hlt2⟩
            have hc2 : c < 256 := HL.out c (List.mem_of_getElem? hc)
            have i0 := strB_at L (k + n) c hc2 hc
            have c1 : ((c : Int) == 45) = false := beq_eq_false_iff_ne.2 (by intro e; apply h45; rw [hc]; congr 1; omega)
            clear h45 hc
            go_wp2_with fail
            refine wp_region_grows 5 [IsV (.agg (AV s)), IsV (.int .u8 a), IsV (.int .u8 a), IsV (.agg (AV (btw a 1))), IsV (.agg (AV (orW s (btw a 1))))] []
              [[], [], [], [(1, 60), (2, 61)], [(0, 59), (3, 62)]] [(0, 59), (1, 60), (2, 61), (3, 62), (4, 63)] (by kernel_rfl) (by kernel_rfl) rfl ?stable ⟨?o0, ?o1, ?o2, ?o3, ?o4, trivial⟩ ?fin
            case stable => exact ⟨IsV.stable _, IsV.stable _, IsV.stable _, IsV.stable _, IsV.stable _, trivial⟩
            case o0 =>
              intro vals w' hg hd
              clear hd
              simp only [putS, List.foldl_nil]
              exact one_load_row (by rfl) _ _ rfl _ rfl _ _ _ _ (block_below' hg HS1.out.set) Try.underlying24 rfl (i24 _) (isV_mk _ _)
            case o1 =>
              intro vals w' hg hd
              clear hd
              simp only [putS, List.foldl_nil]
              clear hg
              go_simp
              try go_bits
              exact isV_mk _ _
            case o2 =>
              intro vals w' hg hd
              clear hd
              simp only [putS, List.foldl_nil]
              clear hg
              go_simp
              try go_bits
              exact isV_mk _ _
            case o3 =>
              intro vals w' hg hd
              have h1 : vals 1 = .int .u8 a := hd.1
              have h2 : vals 2 = .int .u8 a := hd.2.1
              clear hd
              simp only [putS, List.foldl_nil, List.foldl_cons, Act.put, List.setIfInBounds_toArray, List.set_cons_zero, List.set_cons_succ, h1, h2]
              clear hg h1 h2
              go_simp
              exact (between_1 a ha w').mono fun e w2 ⟨he, hb⟩ => ⟨_, he, hb, isV_mk _ _⟩
            case o4 =>
              intro vals w' hg hd
              have h0 : vals 0 = .agg (AV s) := hd.1
              have h3 : vals 3 = .agg (AV (btw a 1)) := hd.2.1
              clear hd
              simp only [putS, List.foldl_nil, List.foldl_cons, Act.put, List.setIfInBounds_toArray, List.set_cons_zero, List.set_cons_succ, h0, h3]
              clear hg h0 h3
              go_simp
              exact (union_c s _ HW.out (btw_W64 _ _) w').mono fun e w2 ⟨he, hb⟩ => ⟨_, he, hb, isV_mk _ _⟩
            case fin =>
              intro vals w' hg hd hfresh
              have h0 : vals 0 = .agg (AV s) := hd.1
              have h1 : vals 1 = .int .u8 a := hd.2.1
              have h2 : vals 2 = .int .u8 a := hd.2.2.1
              have h3 : vals 3 = .agg (AV (btw a 1)) := hd.2.2.2.1
              have h4 : vals 4 = .agg (AV (orW s (btw a 1))) := hd.2.2.2.2.1
              clear hd
              simp only [putS, List.foldl_nil, List.foldl_cons, Act.put, List.setIfInBounds_toArray, List.set_cons_zero, List.set_cons_succ, List.drop_succ_cons, List.drop_zero, h0, h1, h2, h3, h4]
              have HS9 := Lib.hid ((HS1.out.grew hg).put (orW s (btw a 1)))
              have HG := Lib.hid (HS1.out.grew hg).set
              clear hg hfresh h0 h1 h2 h3 h4 HS1
              go_wp2_with (first | (refine wpList_store_row rfl 24 _ _ rfl _ rfl _ rfl _ _ HG.out (i24 _) (by rw [AV_size, AV_size]) (AV_one _) ?_; simp only [Act.put, List.setIfInBounds_toArray, List.set_cons_zero, List.set_cons_succ]))
              go_roundg (L.length - (k + n))
              case measure => omega
              case rel => exact ⟨k + n, _, by omega, rfl, by go_num, Lib.hid (by rw [← HF.out]; exact (prs_one hlt HE.out HN0.out HD.out s).symm), Lib.hid (orW_W64 HW.out (btw_W64 _ _)), HS9⟩
          · have hge : L.length ≤ k + n := by omega
            clear h45 hlt2
            go_wp2_with fail
            refine wp_region_grows 5 [IsV (.agg (AV s)), IsV (.int .u8 a), IsV (.int .u8 a), IsV (.agg (AV (btw a 1))), IsV (.agg (AV (orW s (btw a 1))))] []
              [[], [], [], [(1, 60), (2, 61)], [(0, 59), (3, 62)]] [(0, 59), (1, 60), (2, 61), (3, 62), (4, 63)] (by kernel_rfl) (by kernel_rfl) rfl ?stable ⟨?o0, ?o1, ?o2, ?o3, ?o4, trivial⟩ ?fin
            case stable => exact ⟨IsV.stable _, IsV.stable _, IsV.stable _, IsV.stable _, IsV.stable _, trivial⟩
            case o0 =>
              intro vals w' hg hd
              clear hd
              simp only [putS, List.foldl_nil]
              exact one_load_row (by rfl) _ _ rfl _ rfl _ _ _ _ (block_below' hg HS1.out.set) Try.underlying24 rfl (i24 _) (isV_mk _ _)
            case o1 =>
              intro vals w' hg hd
              clear hd
              simp only [putS, List.foldl_nil]
              clear hg
              go_simp
              try go_bits
              exact isV_mk _ _
            case o2 =>
              intro vals w' hg hd
              clear hd
              simp only [putS, List.foldl_nil]
              clear hg
              go_simp
              try go_bits
              exact isV_mk _ _
            case o3 =>
              intro vals w' hg hd
              have h1 : vals 1 = .int .u8 a := hd.1
              have h2 : vals 2 = .int .u8 a := hd.2.1
              clear hd
              simp only [putS, List.foldl_nil, List.foldl_cons, Act.put, List.setIfInBounds_toArray, List.set_cons_zero, List.set_cons_succ, h1, h2]
              clear hg h1 h2
              go_simp
              exact (between_1 a ha w').mono fun e w2 ⟨he, hb⟩ => ⟨_, he, hb, isV_mk _ _⟩
            case o4 =>
              intro vals w' hg hd
              have h0 : vals 0 = .agg (AV s) := hd.1
              have h3 : vals 3 = .agg (AV (btw a 1)) := hd.2.1
              clear hd
              simp only [putS, List.foldl_nil, List.foldl_cons, Act.put, List.setIfInBounds_toArray, List.set_cons_zero, List.set_cons_succ, h0, h3]
              clear hg h0 h3
              go_simp
              exact (union_c s _ HW.out (btw_W64 _ _) w').mono fun e w2 ⟨he, hb⟩ => ⟨_, he, hb, isV_mk _ _⟩
            case fin =>
              intro vals w' hg hd hfresh
              have h0 : vals 0 = .agg (AV s) := hd.1
              have h1 : vals 1 = .int .u8 a := hd.2.1
              have h2 : vals 2 = .int .u8 a := hd.2.2.1
              have h3 : vals 3 = .agg (AV (btw a 1)) := hd.2.2.2.1
              have h4 : vals 4 = .agg (AV (orW s (btw a 1))) := hd.2.2.2.2.1
              clear hd
              simp only [putS, List.foldl_nil, List.foldl_cons, Act.put, List.setIfInBounds_toArray, List.set_cons_zero, List.set_cons_succ, List.drop_succ_cons, List.drop_zero, h0, h1, h2, h3, h4]
              have HS9 := Lib.hid ((HS1.out.grew hg).put (orW s (btw a 1)))
              have HG := Lib.hid (HS1.out.grew hg).set
              clear hg hfresh h0 h1 h2 h3 h4 HS1
              go_wp2_with (first | (refine wpList_store_row rfl 24 _ _ rfl _ rfl _ rfl _ _ HG.out (i24 _) (by rw [AV_size, AV_size]) (AV_one _) ?_; simp only [Act.put, List.setIfInBounds_toArray, List.set_cons_zero, List.set_cons_succ]))
              go_roundg (L.length - (k + n))
              case measure => omega
              case rel => exact ⟨k + n, _, by omega, rfl, by go_num, Lib.hid (by rw [← HF.out]; exact (prs_one hlt HE.out HN0.out HD.out s).symm), Lib.hid (orW_W64 HW.out (btw_W64 _ _)), HS9⟩
    · have HR : Hid (prs L (fun _ => 0) = some s) := Lib.hid (by rw [← HF.out]; exact prs_end hlt s)
      go_wp2_with (first | (refine wpList_load_row rfl 24 _ rfl _ rfl _ _ _ _ HS.out.set Try.underlying24 rfl (i24 _) ?_; simp only [Act.put, List.setIfInBounds_toArray, List.set_cons_zero, List.set_cons_succ]) | (refine wpList_store_row rfl 24 _ _ rfl _ rfl _ rfl _ _ HS.out.res (i24 _) (by rw [AV_size, AV_size]) (AV_one _) ?_; simp only [Act.put, List.setIfInBounds_toArray, List.set_cons_zero, List.set_cons_succ]))
      have HZ := HS.out.final
      exact bodyPost_ret (results_row_tmp rfl _ _ _ _ _ _ _ _ rfl rfl HZ.1 Try.underlying24 rfl (i24 _)) rfl ⟨by rw [HR.out]; rfl, by rw [← HBB.out]; exact HZ.2⟩
end Go.Proofs.Ytaagfmpolcpimaa
