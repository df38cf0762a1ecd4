/-
  Part 5 of the texts behind the statements of this seat: walks and laws Uf, Ug, Uh. Conditions: as each states.
-/
import Derived.Test.YtijnhpaafhcndaaBa4
section
namespace Go.Proofs.Ytijnhpaafhcndaa
open Go.RowKit Go.Maps
attribute [local go_sem] InGr
set_option maxHeartbeats 4000000
set_option maxRecDepth 100000
set_option linter.unusedSimpArgs false
set_option linter.unusedVariables false
structure Raw where
  start : Int
  cls : List Int
  next : List (List Int)
  acc : List Bool
  wts : List Int
structure RawAt (P : PoolT) (cv nv av hv : Value) (rvs : List Value) (R : Raw) : Prop where
  cls : RowIn P encZ 1 cv R.cls
  next : RowIn P encV 1 nv rvs
  len : rvs.length = R.next.length
  rows : ∀ (i : Nat) (rv : Value) (r : List Int), rvs[i]? = some rv → R.next[i]? = some r → RowIn P encZ 1 rv r
  acc : RowIn P encB 1 av R.acc
  wts : RowIn P encZ 1 hv R.wts
structure Raw.Snd (R : Raw) (c : Nat) : Prop where
  n1 : 1 ≤ R.next.length
  n8 : R.next.length ≤ 8
  acc : R.acc.length = R.next.length
  wts : R.wts.length = R.next.length
  s0 : 0 ≤ R.start
  sn : R.start < R.next.length
  cls : R.cls.length = 256
  c1 : 1 ≤ c
  c256 : c ≤ 256
  clsIn : ∀ z ∈ R.cls, 0 ≤ z ∧ z < c
  rows : ∀ r ∈ R.next, r.length = c ∧ ∀ z ∈ r, 0 ≤ z ∧ z < R.next.length
  wtsIn : ∀ x ∈ R.wts, 0 ≤ x ∧ x ≤ 1048576
def Raw.mc (R : Raw) : Mc := ⟨R.start.toNat, R.cls.map Int.toNat, R.next.map (·.map Int.toNat), R.acc, R.wts.map Int.toNat⟩
theorem flat_toNat {xs : List Int} (h : ∀ x ∈ xs, 0 ≤ x) : flatG encI (xs.map Int.toNat) = flatG encZ xs := by
  induction xs with
  | nil => rfl
  | cons x xs ih =>
    have e1 : flatG encI ((x :: xs).map Int.toNat) = encI x.toNat ++ flatG encI (xs.map Int.toNat) := by simp [flatG]
    have e2 : flatG encZ (x :: xs) = encZ x ++ flatG encZ xs := by simp [flatG]
    have hx := h x (by simp)
    rw [e1, e2, ih fun y hy => h y (by simp [hy])]
    simp only [encI, encZ, Int.toNat_of_nonneg hx]
theorem RowIn.toNat {P : PoolT} {v : Value} {xs : List Int} (h : RowIn P encZ 1 v xs) (h0 : ∀ x ∈ xs, 0 ≤ x) : RowIn P encI 1 v (xs.map Int.toNat) := by
  obtain ⟨ad, c, h1, h2, h3⟩ := h
  refine ⟨ad, c, by rw [List.length_map]; exact h1, by rw [List.length_map]; exact h2, fun hx => ?_⟩
  rw [List.length_map] at hx
  obtain ⟨g, o, e, hm⟩ := h3 hx
  exact ⟨g, o, e, by rw [flat_toNat h0]; exact hm⟩
theorem Raw.Snd.ok {R : Raw} {c : Nat} (h : R.Snd c) : R.mc.Ok c := by
  have hn : R.mc.n = R.next.length := by simp [Mc.n, Raw.mc]
  have h1 := h.n1
  have h8 := h.n8
  have hs := h.s0
  have hs2 := h.sn
  refine ⟨by omega, by omega, ?_, by simp [Raw.mc, h.cls], h.c1, h.c256, fun i x hx => ?_, fun i r hr => ?_, fun i j x r hr hx => ?_, by rw [hn]; exact h.acc, by rw [hn]; simp [Raw.mc, h.wts], fun i x hx => ?_⟩
  · rw [hn]; simp only [Raw.mc]; omega
  · obtain ⟨z, hz, rfl⟩ := List.mem_map.1 (List.mem_of_getElem? hx)
    have := h.clsIn z hz
    omega
  · obtain ⟨z, hz, rfl⟩ := List.mem_map.1 (List.mem_of_getElem? hr)
    rw [List.length_map]
    exact (h.rows z hz).1
  · obtain ⟨z, hz, rfl⟩ := List.mem_map.1 (List.mem_of_getElem? hr)
    obtain ⟨y, hy, rfl⟩ := List.mem_map.1 (List.mem_of_getElem? hx)
    have := (h.rows z hz).2 y hy
    omega
  · obtain ⟨z, hz, rfl⟩ := List.mem_map.1 (List.mem_of_getElem? hx)
    have := h.wtsIn z hz
    omega
theorem RawAt.mac {P : PoolT} {cv nv av hv : Value} {rvs : List Value} {R : Raw} {c : Nat} (h : RawAt P cv nv av hv rvs R) (hs : R.Snd c) : MacAt P cv nv av rvs R.mc ∧ RowIn P encI 1 hv R.mc.wts := by
  refine ⟨⟨h.cls.toNat fun x hx => (hs.clsIn x hx).1, h.next, by rw [h.len]; simp [Mc.n, Raw.mc], fun i rv r h1 h2 => ?_, h.acc⟩, h.wts.toNat fun x hx => (hs.wtsIn x hx).1⟩
  simp only [Raw.mc, List.getElem?_map] at h2
  cases hr : R.next[i]? with
  | none => rw [hr] at h2; cases h2
  | some r' =>
    rw [hr] at h2
    injection h2 with h2
    subst h2
    exact (h.rows i rv r' h1 hr).toNat fun x hx => ((hs.rows r' (List.mem_of_getElem? hr)).2 x hx).1
def SoRel (R : Raw) (c n b2 : Nat) (cs : Array Value) (w : World) (v8 : Value) (wr : World) : Prop :=
  ∃ k : Nat, v8 = .int .i64 k ∧ k ≤ n ∧ (∀ (j : Nat) (r : List Int) (x : Int), j < k → R.next[j]? = some r → R.wts[j]? = some x → (r.length = c ∧ ∀ z ∈ r, 0 ≤ z ∧ z < n) ∧ 0 ≤ x ∧ x ≤ 1048576) ∧ St w [] [blk b2 (.cells cs 26)] wr
def SndPost (R : Raw) (w : World) (e : Ending) (w' : World) : Prop := ∃ b, e = .returned (.bool b) ∧ (b = true → ∃ c, R.Snd c) ∧ St w [] [] w'
theorem sound_c {P : PoolT} {cv nv av hv : Value} {rvs : List Value} {R : Raw} (h : RawAt P cv nv av hv rvs R) (hs1 : -9223372036854775808 ≤ R.start) (hs2 : R.start ≤ 9223372036854775807) (w : World) (hp : (poolA P).ho w) :
    Calls Try.prog 24 #[.agg #[.int .i64 R.start, cv, nv, av], hv] w (SndPost R w) := by
  have H := St.nil w []
  have HK := Ks.one hp
  have HRA := Lib.hid h
  obtain ⟨a1, c1, rfl, hm1⟩ := h.cls.shape
  obtain ⟨a2, c2, rfl, hm2⟩ := h.next.shape
  obtain ⟨a3, c3, rfl, hm3⟩ := h.acc.shape
  obtain ⟨a4, c4, rfl, hm4⟩ := h.wts.shape
  unfold maxLen at hm1 hm2 hm3 hm4
  have hlen := h.len
  rw [hlen] at HRA hm2 ⊢
  have HCL := Lib.hid h.cls
  have HNX := Lib.hid h.next
  have HWT := Lib.hid h.wts
  have HRS := Lib.hid h.rows
  have HLEN := Lib.hid hlen
  rw [hlen] at HNX
  obtain ⟨n, hn⟩ : ∃ n, n = R.next.length := ⟨_, rfl⟩
  obtain ⟨st, hst⟩ : ∃ st, st = R.start := ⟨_, rfl⟩
  rw [← hn] at HRA HNX hm2 ⊢
  rw [← hst] at hs1 hs2 ⊢
  have HN := Lib.hid hn
  have HST := Lib.hid hst
  generalize hla : R.acc.length = la at *
  generalize hlw : R.wts.length = lw at *
  generalize hlc : R.cls.length = lc at *
  have HLA := Lib.hid hla
  have HLW := Lib.hid hlw
  have HLC := Lib.hid hlc
  clear h hp hlen hn hst hla hlw hlc
  by_cases k1 : n < 1
  · have ek1 : decide ((n : Int) < 1) = true := by simp; omega
    clear k1
    go_enter Try.func24, Try.ntmps24
    go_wp2_with (first | refine sL ?_ | (refine sB ?_; clear H; intro _ _ H))
    go_ret
    exact ⟨false, rfl, by simp, H.nix⟩
  have ek1 : decide ((n : Int) < 1) = false := by simp; omega
  by_cases k2 : 8 < n
  · have ek2 : decide (8 < (n : Int)) = true := by simp; omega
    clear k2
    go_enter Try.func24, Try.ntmps24
    go_wp2_with (first | refine sL ?_ | (refine sB ?_; clear H; intro _ _ H))
    go_ret
    exact ⟨false, rfl, by simp, H.nix⟩
  have ek2 : decide (8 < (n : Int)) = false := by simp; omega
  by_cases k3 : la ≠ n
  · have ek3 : ((la : Int) != (n : Int)) = true := by simp; omega
    have fk30 : ((la : Int) == (n : Int)) = false := by simp; omega
    clear k3
    go_enter Try.func24, Try.ntmps24
    go_wp2_with (first | refine sL ?_ | (refine sB ?_; clear H; intro _ _ H))
    go_ret
    exact ⟨false, rfl, by simp, H.nix⟩
  have ek3 : ((la : Int) != (n : Int)) = false := by simp; omega
  have fk30 : ((la : Int) == (n : Int)) = true := by simp; omega
  by_cases k4 : lw ≠ n
  · have ek4 : ((lw : Int) != (n : Int)) = true := by simp; omega
    have fk40 : ((lw : Int) == (n : Int)) = false := by simp; omega
    clear k4
    go_enter Try.func24, Try.ntmps24
    go_wp2_with (first | refine sL ?_ | (refine sB ?_; clear H; intro _ _ H))
    go_ret
    exact ⟨false, rfl, by simp, H.nix⟩
  have ek4 : ((lw : Int) != (n : Int)) = false := by simp; omega
  have fk40 : ((lw : Int) == (n : Int)) = true := by simp; omega
  by_cases k5 : st < 0
  · have ek5 : decide (st < 0) = true := by simp; omega
    clear k5
    go_enter Try.func24, Try.ntmps24
    go_wp2_with (first | refine sL ?_ | (refine sB ?_; clear H; intro _ _ H))
    go_ret
    exact ⟨false, rfl, by simp, H.nix⟩
  have ek5 : decide (st < 0) = false := by simp; omega
  by_cases k6 : (n : Int) ≤ st
  · have ek6 : decide ((n : Int) ≤ st) = true := by simp; omega
    clear k6
    go_enter Try.func24, Try.ntmps24
    go_wp2_with (first | refine sL ?_ | (refine sB ?_; clear H; intro _ _ H))
    go_ret
    exact ⟨false, rfl, by simp, H.nix⟩
  have ek6 : decide ((n : Int) ≤ st) = false := by simp; omega
  by_cases k7 : lc ≠ 256
  · have ek7 : ((lc : Int) != 256) = true := by simp; omega
    have fk70 : ((lc : Int) == 256) = false := by simp; omega
    clear k7
    go_enter Try.func24, Try.ntmps24
    go_wp2_with (first | refine sL ?_ | (refine sB ?_; clear H; intro _ _ H))
    go_ret
    exact ⟨false, rfl, by simp, H.nix⟩
  have ek7 : ((lc : Int) != 256) = false := by simp; omega
  have fk70 : ((lc : Int) == 256) = true := by simp; omega
  obtain ⟨r0, hr0⟩ : ∃ r0, R.next[0]? = some r0 := ⟨_, List.getElem?_eq_getElem (by rw [← HN.out]; omega)⟩
  obtain ⟨v0, hv0⟩ : ∃ v0, rvs[0]? = some v0 := ⟨_, List.getElem?_eq_getElem (by rw [HLEN.out, ← HN.out]; omega)⟩
  obtain ⟨a0, c0, rfl, hm0⟩ := (HRS.out 0 v0 r0 hv0 hr0).shape
  have HR0 := Lib.hid hr0
  have HV0 := Lib.hid hv0
  unfold maxLen at hm0
  obtain ⟨g2, o2, c2', he2, hnx2⟩ := HNX.out.has (by rw [HLEN.out, ← HN.out]; omega)
  injection he2 with x1 x2 x3
  subst x1
  obtain ⟨c, hc⟩ : ∃ c, c = r0.length := ⟨_, rfl⟩
  rw [← hc] at HV0 hm0
  have HC := Lib.hid hc
  have hn0 : 0 < n := by omega
  have hn8 : n ≤ 8 := by omega
  have hlc : lc = 256 := by omega
  have hlw : n = lw := by omega
  have hla : la = n := by omega
  obtain ⟨g1, o1, c1', he1, _⟩ := HCL.out.has (by rw [HLC.out]; omega)
  injection he1 with y1 y2 y3
  subst y1
  obtain ⟨g4, o4, c4', he4, _⟩ := HWT.out.has (by rw [HLW.out]; omega)
  injection he4 with z1 z2 z3
  subst z1
  subst hlc
  have HFACT := Lib.hid (show n = R.next.length ∧ R.acc.length = n ∧ R.wts.length = n ∧ 0 ≤ st ∧ st < n ∧ R.cls.length = 256 from ⟨HN.out, by rw [HLA.out, hla], by rw [HLW.out, hlw], by omega, by omega, HLC.out⟩)
  subst hlw
  clear hr0 hv0 hnx2 x2 x3 y2 y3 z2 z3 hc hla k1 k2 k3 k4 k5 k6 k7
  by_cases k8 : c < 1
  · have ek8 : decide ((c : Int) < 1) = true := by simp; omega
    clear k8
    go_enter Try.func24, Try.ntmps24
    go_wp2_with (first | refine sL ?_ | (refine sB ?_; clear H; intro _ _ H) | ((with_reducible refine isLoad ?_); refine AtLoad.cel rfl rfl rfl rfl (HNX.out.cell (H.known HK pk) encV_len HV0.out rfl) ?_; simp only [Act.put, puA, puB, puC]))
    go_ret
    exact ⟨false, rfl, by simp, H.nix⟩
  have ek8 : decide ((c : Int) < 1) = false := by simp; omega
  by_cases k9 : 256 < c
  · have ek9 : decide (256 < (c : Int)) = true := by simp; omega
    clear k9
    go_enter Try.func24, Try.ntmps24
    go_wp2_with (first | refine sL ?_ | (refine sB ?_; clear H; intro _ _ H) | ((with_reducible refine isLoad ?_); refine AtLoad.cel rfl rfl rfl rfl (HNX.out.cell (H.known HK pk) encV_len HV0.out rfl) ?_; simp only [Act.put, puA, puB, puC]))
    go_ret
    exact ⟨false, rfl, by simp, H.nix⟩
  have ek9 : decide (256 < (c : Int)) = false := by simp; omega
  have hc0 : 0 < c := by omega
  have hc256 : c ≤ 256 := by omega
  clear k8 k9
  go_enter Try.func24, Try.ntmps24
  go_wp2_with (first | refine sL ?_ | (refine sB ?_; clear H; intro _ _ H) | ((with_reducible refine isLoad ?_); refine AtLoad.cel rfl rfl rfl rfl (HNX.out.cell (H.known HK pk) encV_len HV0.out rfl) ?_; simp only [Act.put, puA, puB, puC]))
  rename_i b2 _ _ _
  go_loopw [7] (fun v7 wr => ∃ k : Nat, v7 = .int .i64 k ∧ k ≤ 256 ∧ (∀ (j : Nat) (z : Int), j < k → R.cls[j]? = some z → 0 ≤ z ∧ z < c) ∧ St w [] [blk b2 (.cells #[.int .i64 st, .slice (some ⟨g1, o1, none⟩) 256 c1, .slice (some ⟨g2, o2, none⟩) n c2, .slice a3 la c3] 26)] wr) (fun v7 _ => 256 - (intOf v7).toNat)
  case atStart => exact ⟨0, rfl, Nat.zero_le _, by intro j z hj; omega, H⟩
  case round =>
    clear H
    obtain ⟨k, rfl, hk, hall, H⟩ := hrel
    have HA := Lib.hid hall
    clear hall
    by_cases hlt : k < 256
    · obtain ⟨z, hz⟩ : ∃ z, R.cls[k]? = some z := ⟨_, List.getElem?_eq_getElem (by rw [HLC.out]; exact hlt)⟩
      have HZ := Lib.hid hz
      clear hz
      by_cases z0 : z < 0
      · have d0 : decide (z < 0) = true := by simpa using z0
        go_wp2_with (first | refine sL ?_ | (refine sB ?_; clear H; intro _ _ H) | ((with_reducible refine isLoad ?_); refine AtLoad.cel rfl rfl rfl rfl (HCL.out.cell (H.known HK pk) encZ_len HZ.out rfl) ?_; simp only [Act.put, puA, puB, puC]))
        go_ret
        exact ⟨false, rfl, by simp, H.nix⟩
      · have d0 : decide (z < 0) = false := by simpa using z0
        by_cases zn : (c : Int) ≤ z
        · have d1 : decide ((c : Int) ≤ z) = true := by simpa using zn
          go_wp2_with (first | refine sL ?_ | (refine sB ?_; clear H; intro _ _ H) | ((with_reducible refine isLoad ?_); refine AtLoad.cel rfl rfl rfl rfl (HCL.out.cell (H.known HK pk) encZ_len HZ.out rfl) ?_; simp only [Act.put, puA, puB, puC]))
          go_ret
          exact ⟨false, rfl, by simp, H.nix⟩
        · have d1 : decide ((c : Int) ≤ z) = false := by simpa using zn
          go_wp2_with (first | refine sL ?_ | (refine sB ?_; clear H; intro _ _ H) | ((with_reducible refine isLoad ?_); refine AtLoad.cel rfl rfl rfl rfl (HCL.out.cell (H.known HK pk) encZ_len HZ.out rfl) ?_; simp only [Act.put, puA, puB, puC]))
          refine ⟨⟨k + 1, by go_num, by omega, fun j y hj hy => ?_, H⟩, by simp [intOf]; omega⟩
          rcases Nat.lt_or_ge j k with h | h
          · exact HA.out j y h hy
          · obtain rfl : j = k := by omega
            rw [HZ.out] at hy
            injection hy with hy
            subst hy
            omega
    · have hke : k = 256 := by omega
      subst hke
      have HCI := Lib.hid (show ∀ z ∈ R.cls, 0 ≤ z ∧ z < c from fun z hz => by
        obtain ⟨j, hj⟩ := List.getElem?_of_mem hz
        exact HA.out j z (by have := getElem_len hj; rw [HLC.out] at this; exact this) hj)
      clear HA
      go_wp2_with (first | refine sL ?_ | (refine sB ?_; clear H; intro _ _ H))
      go_loopw [8] (fun v8 wr => SoRel R c n b2 #[.int .i64 st, .slice (some ⟨g1, o1, none⟩) 256 c1, .slice (some ⟨g2, o2, none⟩) n c2, .slice a3 la c3] w v8 wr) (fun v8 _ => n - (intOf v8).toNat)
      case atStart => exact ⟨0, rfl, Nat.zero_le _, by intro j r x hj; omega, H⟩
      case round =>
        clear H
        obtain ⟨k, rfl, hk, hall, H⟩ := hrel
        have HA := Lib.hid hall
        clear hall
        by_cases hlt : k < n
        · obtain ⟨r, hr⟩ : ∃ r, R.next[k]? = some r := ⟨_, List.getElem?_eq_getElem (by rw [← HFACT.out.1]; exact hlt)⟩
          obtain ⟨rv, hrv⟩ : ∃ rv, rvs[k]? = some rv := ⟨_, List.getElem?_eq_getElem (by rw [HLEN.out, ← HFACT.out.1]; exact hlt)⟩
          obtain ⟨x, hx⟩ : ∃ x, R.wts[k]? = some x := ⟨_, List.getElem?_eq_getElem (by rw [HFACT.out.2.2.1]; exact hlt)⟩
          have hrow := HRS.out k rv r hrv hr
          obtain ⟨a9, c9, rfl, hm9⟩ := hrow.shape
          have HX := Lib.hid hx
          have HRV := Lib.hid hrv
          have HR9 := Lib.hid hr
          by_cases hX : r.length = c ∧ ∀ z ∈ r, 0 ≤ z ∧ z < n
          · have HROW : Hid (∀ w, (poolA P).ho w → Calls Try.prog 53 #[.slice a9 r.length c9, .int .i64 c, .int .i64 n] w (fun e w' => e = .returned (.bool true) ∧ St w [] [] w')) := Lib.hid fun w h => by
              refine Calls.mono (row_c hrow hc256 hn8 w h) ?_
              rintro e w' ⟨b, rfl, hb, hs⟩
              obtain rfl := hb.2 hX
              exact ⟨rfl, hs⟩
            have HX9 := Lib.hid hX
            clear hr hrv hx hrow hm9 hX
            by_cases x0 : x < 0
            · have d0 : decide (x < 0) = true := by simpa using x0
              go_wp2_with (first | refine sL ?_ | (refine sB ?_; clear H; intro _ _ H) | ((with_reducible refine isLoad ?_); refine AtLoad.cel rfl rfl rfl rfl (HNX.out.cell (H.known HK pk) encV_len HRV.out rfl) ?_; simp only [Act.put, puA, puB, puC]) | ((with_reducible refine isLoad ?_); refine AtLoad.cel rfl rfl rfl rfl (HWT.out.cell (H.known HK pk) encZ_len HX.out rfl) ?_; simp only [Act.put, puA, puB, puC]) | (go_at_call 53; with_reducible refine Calls.mono (HROW.out _ (H.known HK pk)) ?_; rintro e wc ⟨rfl, hb⟩; replace H := H.grew hb.below; clear hb))
              go_ret
              exact ⟨false, rfl, by simp, H.nix⟩
            · have d0 : decide (x < 0) = false := by simpa using x0
              by_cases xn : 1048576 < x
              · have d1 : decide (1048576 < x) = true := by simpa using xn
                go_wp2_with (first | refine sL ?_ | (refine sB ?_; clear H; intro _ _ H) | ((with_reducible refine isLoad ?_); refine AtLoad.cel rfl rfl rfl rfl (HNX.out.cell (H.known HK pk) encV_len HRV.out rfl) ?_; simp only [Act.put, puA, puB, puC]) | ((with_reducible refine isLoad ?_); refine AtLoad.cel rfl rfl rfl rfl (HWT.out.cell (H.known HK pk) encZ_len HX.out rfl) ?_; simp only [Act.put, puA, puB, puC]) | (go_at_call 53; with_reducible refine Calls.mono (HROW.out _ (H.known HK pk)) ?_; rintro e wc ⟨rfl, hb⟩; replace H := H.grew hb.below; clear hb))
                go_ret
                exact ⟨false, rfl, by simp, H.nix⟩
              · have d1 : decide (1048576 < x) = false := by simpa using xn
                go_wp2_with (first | refine sL ?_ | (refine sB ?_; clear H; intro _ _ H) | ((with_reducible refine isLoad ?_); refine AtLoad.cel rfl rfl rfl rfl (HNX.out.cell (H.known HK pk) encV_len HRV.out rfl) ?_; simp only [Act.put, puA, puB, puC]) | ((with_reducible refine isLoad ?_); refine AtLoad.cel rfl rfl rfl rfl (HWT.out.cell (H.known HK pk) encZ_len HX.out rfl) ?_; simp only [Act.put, puA, puB, puC]) | (go_at_call 53; with_reducible refine Calls.mono (HROW.out _ (H.known HK pk)) ?_; rintro e wc ⟨rfl, hb⟩; replace H := H.grew hb.below; clear hb))
                have HREL := (show ∀ wx, St w [] [blk b2 (.cells #[.int .i64 st, .slice (some ⟨g1, o1, none⟩) 256 c1, .slice (some ⟨g2, o2, none⟩) n c2, .slice a3 la c3] 26)] wx → SoRel R c n b2 #[.int .i64 st, .slice (some ⟨g1, o1, none⟩) 256 c1, .slice (some ⟨g2, o2, none⟩) n c2, .slice a3 la c3] w (.int .i64 ((k : Int) + 1)) wx from fun wx H => by
                  refine ⟨k + 1, by go_num, by omega, fun j y u hj hy hu => ?_, H⟩
                  rcases Nat.lt_or_ge j k with h | h
                  · exact HA.out j y u h hy hu
                  · obtain rfl : j = k := by omega
                    rw [HR9.out] at hy
                    rw [HX.out] at hu
                    injection hy with hy
                    injection hu with hu
                    subst hy hu
                    exact ⟨HX9.out, by omega, by omega⟩) _ H
                refine ⟨?_, by simp [intOf]; omega⟩
                (repeat apply Exists.intro)
                refine ⟨HREL, ?_⟩
                rfl
          · have HROW : Hid (∀ w, (poolA P).ho w → Calls Try.prog 53 #[.slice a9 r.length c9, .int .i64 c, .int .i64 n] w (fun e w' => e = .returned (.bool false) ∧ St w [] [] w')) := Lib.hid fun w h => by
              refine Calls.mono (row_c hrow hc256 hn8 w h) ?_
              rintro e w' ⟨b, rfl, hb, hs⟩
              cases b with
              | false => exact ⟨rfl, hs⟩
              | true => exact absurd (hb.1 rfl) hX
            clear hr hrv hx hrow hm9 hX
            go_wp2_with (first | refine sL ?_ | (refine sB ?_; clear H; intro _ _ H) | ((with_reducible refine isLoad ?_); refine AtLoad.cel rfl rfl rfl rfl (HNX.out.cell (H.known HK pk) encV_len HRV.out rfl) ?_; simp only [Act.put, puA, puB, puC]) | ((with_reducible refine isLoad ?_); refine AtLoad.cel rfl rfl rfl rfl (HWT.out.cell (H.known HK pk) encZ_len HX.out rfl) ?_; simp only [Act.put, puA, puB, puC]) | (go_at_call 53; with_reducible refine Calls.mono (HROW.out _ (H.known HK pk)) ?_; rintro e wc ⟨rfl, hb⟩; replace H := H.grew hb.below; clear hb))
            go_ret
            exact ⟨false, rfl, by simp, H.nix⟩
        · have hke : k = n := by omega
          subst hke
          go_wp2_with (first | refine sL ?_ | (refine sB ?_; clear H; intro _ _ H))
          go_ret
          refine ⟨true, rfl, fun _ => ⟨c, ?_⟩, H.nix⟩
          obtain ⟨f1, f2, f3, f4, f5, f6⟩ := HFACT.out
          refine ⟨by omega, by omega, by rw [f2, f1], by rw [f3, f1], by rw [← HST.out]; exact f4, by rw [← HST.out, ← f1]; exact f5, f6, hc0, hc256, HCI.out, fun r hr => ?_, fun x hx => ?_⟩
          · obtain ⟨j, hj⟩ := List.getElem?_of_mem hr
            have hjl := getElem_len hj
            obtain ⟨x, hx⟩ : ∃ x, R.wts[j]? = some x := ⟨_, List.getElem?_eq_getElem (by omega)⟩
            have := (HA.out j r x (by omega) hj hx).1
            rw [f1] at this
            exact this
          · obtain ⟨j, hj⟩ := List.getElem?_of_mem hx
            have hjl := getElem_len hj
            obtain ⟨r, hr⟩ : ∃ r, R.next[j]? = some r := ⟨_, List.getElem?_eq_getElem (by omega)⟩
            exact (HA.out j r x (by omega) hr hj).2
end Go.Proofs.Ytijnhpaafhcndaa
end
section
namespace Go.Proofs.Ytijnhpaafhcndaa
open Go.RowKit Go.Maps
attribute [local go_sem] InGr
set_option maxHeartbeats 4000000
set_option maxRecDepth 100000
set_option linter.unusedSimpArgs false
set_option linter.unusedVariables false
theorem good_c {P : PoolT} {cv nv av hv lv : Value} {rvs : List Value} {R : Raw} {ms : List Mk} {N : Int} (h : RawAt P cv nv av hv rvs R) (hms : RowIn P mkL 5 lv ms) (hs1 : -9223372036854775808 ≤ R.start) (hs2 : R.start ≤ 9223372036854775807) (w : World) (hp : (poolA P).ho w) :
    Calls Try.prog 9 #[.agg #[.int .i64 R.start, cv, nv, av, hv, lv, .int .i64 N]] w fun e w' => ∃ b, e = .returned (.bool b) ∧ (b = true → ms.length ≤ 100 ∧ ∃ c, R.Snd c) ∧ St w [] [] w' := by
  have H := St.nil w []
  have HK := Ks.one hp
  obtain ⟨a1, c1, rfl, hm1⟩ := h.cls.shape
  obtain ⟨a2, c2, rfl, hm2⟩ := h.next.shape
  obtain ⟨a3, c3, rfl, hm3⟩ := h.acc.shape
  obtain ⟨a4, c4, rfl, hm4⟩ := h.wts.shape
  obtain ⟨a5, c5, rfl, hm5⟩ := hms.shape
  unfold maxLen at hm5
  have HS : Hid (∀ w, (poolA P).ho w → Calls Try.prog 24 #[.agg #[.int .i64 R.start, .slice a1 R.cls.length c1, .slice a2 rvs.length c2, .slice a3 R.acc.length c3], .slice a4 R.wts.length c4] w fun e w' => ∃ b, e = .returned (.bool b) ∧ (b = true → ∃ c, R.Snd c) ∧ St w [] [] w') := Lib.hid fun w hp => sound_c h hs1 hs2 w hp
  clear h hms hm1 hm2 hm3 hm4 hp
  by_cases hl : ms.length ≤ 100
  · have d0 : decide ((ms.length : Int) ≤ 100) = true := by simp; omega
    have HL := Lib.hid hl
    clear hl
    go_enter Try.func9, Try.ntmps9
    go_wp2_with (first | refine sL ?_ | (refine sB ?_; clear H; intro _ _ H) | (go_at_call 24; with_reducible refine Calls.mono (HS.out _ (H.known HK pk)) ?_; rintro e wc ⟨b, rfl, hb1, hb⟩; replace H := H.grew hb.below; clear hb; have HB := Lib.hid hb1; clear hb1))
    go_ret
    exact ⟨b, rfl, fun hb => ⟨HL.out, HB.out hb⟩, H.nix⟩
  · have d0 : decide ((ms.length : Int) ≤ 100) = false := by simp; omega
    clear hl
    go_enter Try.func9, Try.ntmps9
    go_wp2_with (first | refine sL ?_ | (refine sB ?_; clear H; intro _ _ H))
    go_ret
    exact ⟨false, rfl, by simp, H.nix⟩
def mc0 : Mc := ⟨0, List.replicate 256 0, [[0]], [true], [3]⟩
theorem mc0_ok : mc0.Ok 1 := by
  refine ⟨by decide, by decide, by decide, by simp [mc0], by decide, by decide, fun i x hx => ?_, fun i r hr => ?_, fun i j x r hr hx => ?_, by decide, by decide, fun i x hx => ?_⟩
  · have := List.eq_of_mem_replicate (List.mem_of_getElem? hx); omega
  · have := List.mem_of_getElem? hr
    simp [mc0] at this
    subst this; rfl
  · have := List.mem_of_getElem? hr
    simp [mc0] at this
    subst this
    have := List.mem_of_getElem? hx
    simp at this
    subst this
    decide
  · have := List.mem_of_getElem? hx
    simp [mc0] at this
    omega
theorem St.blk_into {e : TypeId} {g : Nat} {cs : Array Value} {Q : PoolT} {w0 w : World} {M : List Nat} {R : List As} (h : St w0 M (blk g (.cells cs e) :: poolA Q :: R) w) : St w0 M (poolA ((g, 0, cs.toList) :: Q) :: R) w := h.blk_pool.pool_add
theorem RowIn.one {α : Type} {P : PoolT} {enc : α → List Value} {g : Nat} {x : α} {u : List Value} (he : enc x = u) (h : (g, 0, u) ∈ P) (k : Nat) : RowIn P enc k (.slice (some ⟨g, 0, none⟩) 1 1) [x] :=
  ⟨_, 1, rfl, by simp [maxLen], fun _ => ⟨g, 0, rfl, by simpa [flatG, he] using h⟩⟩
theorem alive_c (w : World) : Calls Try.prog 27 #[] w fun e w' => e = .returned (.bool true) ∧ St w [] [] w' := by
  have H := St.nil w []
  have HK := Ks.nil w []
  have hS0 : (⟨10, []⟩ : Sto).Ok := (Scr.start (most := 10) (by omega)).ok
  have hS1 : (⟨10, [letterE 97]⟩ : Sto).Ok := Sto.letter_ok hS0 (b := 97) (by omega)
  have HN := Lib.hid (fun w => new_c 10 (by omega) 10 rfl w)
  have HLT : Hid (∀ p m w, (stoA p (.slice none 0 0) m ⟨10, []⟩).ho w → Calls Try.prog 55 #[.pointer (some ⟨p, 0, none⟩), .int .u8 97] w fun e w' => ∃ lv', e = .returned (.tuple #[.int .i64 1, .nilIface]) ∧ St w (stoA p (.slice none 0 0) m ⟨10, []⟩).fp [stoA p lv' m ⟨10, [letterE 97]⟩] w') := Lib.hid fun p m w h => letter_c hS0 97 (by omega) w h
  have HS1 := Lib.hid hS1
  clear hS0 hS1
  go_enter Try.func27, Try.ntmps27
  go_wp2_with (first | (go_at_call 25; with_reducible refine Calls.mono (HN.out _) ?_; rintro e wc ⟨p, m, rfl, hb⟩; replace H := H.call0 hb; clear hb; simp only [List.cons_append, List.nil_append] at H) | (go_at_call 55; with_reducible refine Calls.mono (HLT.out p m _ (H.get (A := stoA p (.slice none 0 0) m ⟨10, []⟩) pk)) ?_; rintro e wc ⟨lv1, rfl, hb⟩; replace H := H.pick (A := stoA p (.slice none 0 0) m ⟨10, []⟩) pk; replace H := H.call hb; clear hb; simp only [List.cons_append, List.nil_append] at H) | ((with_reducible refine isMakeSlice ?_); refine AtMakeSlice.go encI H rfl rfl 256 rfl rfl rfl rfl 0 rfl rfl encI_len (by omega) (by omega) ?_; clear H; intro bc _ H; simp only [Act.put, puA, puB, puC]) | ((with_reducible refine isSlice ?_); refine AtSlice.one H rfl rfl rfl rfl rfl rfl rfl rfl rfl ?_; clear H; intro b _ H; simp only [Act.put, puA, puB, puC]))
  rename_i br _ bn _ ba _ _ _ _
  obtain ⟨Q, hq, H⟩ := (H.pick (A := rowsA encI 3 1 (.slice (some ⟨bc, 0, none⟩) 256 256) (List.replicate 256 0)) pk).to_pool encI_len
  replace H := (H.pick2 (A := blk br (.cells #[.int .i64 0] 3)) (B := poolA Q) pk pk).blk_into
  replace H := (H.pick2 (A := blk bn (.cells #[.slice (some ⟨br, 0, none⟩) 1 1] 22)) (B := poolA ((br, 0, [.int .i64 0]) :: Q)) pk pk).blk_into
  replace H := (H.pick2 (A := blk ba (.cells #[.bool true] 4)) (B := poolA ((bn, 0, [.slice (some ⟨br, 0, none⟩) 1 1]) :: (br, 0, [.int .i64 0]) :: Q)) pk pk).blk_into
  replace H := (H.pick2 (A := blk b (.cells #[.int .i64 3] 3)) (B := poolA ((ba, 0, [.bool true]) :: (bn, 0, [.slice (some ⟨br, 0, none⟩) 1 1]) :: (br, 0, [.int .i64 0]) :: Q)) pk pk).blk_into
  obtain ⟨P, hP⟩ : ∃ P : PoolT, P = (b, 0, [.int .i64 3]) :: (ba, 0, [.bool true]) :: (bn, 0, [.slice (some ⟨br, 0, none⟩) 1 1]) :: (br, 0, [.int .i64 0]) :: Q := ⟨_, rfl⟩
  simp only [] at H
  rw [show ((b, 0, (#[.int .i64 3] : Array Value).toList) :: (ba, 0, [.bool true]) :: (bn, 0, [.slice (some ⟨br, 0, none⟩) 1 1]) :: (br, 0, [.int .i64 0]) :: Q : PoolT) = P from hP.symm] at H
  have hmac : MacAt P (.slice (some ⟨bc, 0, none⟩) 256 256) (.slice (some ⟨bn, 0, none⟩) 1 1) (.slice (some ⟨ba, 0, none⟩) 1 1) [.slice (some ⟨br, 0, none⟩) 1 1] mc0 := by
    refine ⟨?_, RowIn.one (u := [.slice (some ⟨br, 0, none⟩) 1 1]) rfl (by rw [hP]; simp) 1, rfl, fun i rv r h1 h2 => ?_, RowIn.one (u := [.bool true]) rfl (by rw [hP]; simp) 1⟩
    · exact hq.mono fun x hx => by rw [hP]; simp [hx]
    · have e1 := List.mem_of_getElem? h1
      have e2 := List.mem_of_getElem? h2
      simp [mc0] at e1 e2
      subst e1 e2
      exact RowIn.one (u := [.int .i64 0]) rfl (by rw [hP]; simp) 1
  have hhit : RowIn P encI 1 (.slice (some ⟨b, 0, none⟩) 1 1) mc0.wts := RowIn.one (u := [.int .i64 3]) rfl (by rw [hP]; simp) 1
  have HNEW : Hid (∀ w, (poolA P).ho w → Calls Try.prog 28 #[.pointer (some ⟨p, 0, none⟩), .agg #[.int .i64 0, .slice (some ⟨bc, 0, none⟩) 256 256, .slice (some ⟨bn, 0, none⟩) 1 1, .slice (some ⟨ba, 0, none⟩) 1 1], .slice (some ⟨b, 0, none⟩) 1 1, .bool false] w (NewPost mc0 p false w)) := Lib.hid fun w hp => tnew_c p false mc0_ok hmac hhit w hp
  clear hmac hhit hq hP
  with_reducible refine Calls.mono (HNEW.out _ (H.get (A := poolA P) pk)) ?_
  rintro e wc ⟨T, hmc, hs, hbk, hes, hok, rfl, hb⟩
  replace H := H.call0 hb
  clear hb
  simp only [List.cons_append, List.nil_append] at H
  replace H := (H.pick2 (A := tabA T) (B := stoA p lv1 m ⟨10, [letterE 97]⟩) pk pk).onlyTwo
  have HCNT : Hid (∀ w, ((tabA T).sep (stoA p lv1 m ⟨10, [letterE 97]⟩)).ho w → Calls Try.prog 12 #[.pointer (some ⟨T.p, 0, none⟩), .int .i64 1, .int .i64 0, .int .i64 1] w fun e w' => ∃ T', e = .returned (.tuple #[.int .i64 3, .nilIface]) ∧ St w (tabA T).fp [tabA T'] w') := Lib.hid fun w h => by
    have hr : (⟨10, [letterE 97]⟩ : Sto).rsum T.mc 1 0 1 = 3 := by rw [hmc]; decide
    have ht : ((⟨10, [letterE 97]⟩ : Sto).txt 1).length = 1 := by decide
    have hc := count_c (lv := lv1) (m := m) (S := ⟨10, [letterE 97]⟩) (T := T) (id := 1) (s := 0) (n := 1) HS1.out (hok _) hbk (by decide) (by rw [ht]; omega) w (by rw [hs]; exact h)
    rw [hr] at hc
    refine Calls.mono hc ?_
    rintro e w' ⟨T', he, _, _, hst⟩
    exact ⟨T', by rw [he]; rfl, hst⟩
  clear HNEW hmc hs hbk hes hok
  go_wp2_with (first | (go_at_call 12; with_reducible refine Calls.mono (HCNT.out _ (sep_mk (H.get (A := tabA T) pk) (H.get (A := stoA p lv1 m ⟨10, [letterE 97]⟩) pk) (H.apart2 (A := tabA T) (B := stoA p lv1 m ⟨10, [letterE 97]⟩) pk pk))) ?_; rintro e wc ⟨T2, rfl, hb⟩; replace H := H.pick (A := tabA T) pk; replace H := H.call hb; clear hb; simp only [List.cons_append, List.nil_append] at H))
  go_ret
  exact ⟨rfl, H.nix⟩
end Go.Proofs.Ytijnhpaafhcndaa
end
section
namespace Go.Proofs.Ytijnhpaafhcndaa
open Go.RowKit Go.Maps
attribute [local go_sem] InGr
set_option maxHeartbeats 4000000
set_option maxRecDepth 100000
set_option linter.unusedSimpArgs false
set_option linter.unusedVariables false
theorem St.apartK {w0 w : World} {M : List Nat} {L R K R' : List As} {A B : As} (h : St w0 M L w) (k : Ks w0 M K) (hp : Pick L A R) (hq : Pick K B R') : ∀ b ∈ A.fp, b ∉ B.fp := by
  have := h.sepK k hp hq
  rw [sep_ho] at this
  exact this.2.2
theorem results_tmp4 {fn : Func} {t u v x : Tmp} (h : fn.results = #[.tmp t, .tmp u, .tmp v, .tmp x]) (tmps : Array Value) (P : Program) (w : World) :
    (results fn tmps).run P w = .ok (.tuple #[tmps.getD t undef, tmps.getD u undef, tmps.getD v undef, tmps.getD x undef]) w := by
  simp [results, h]
def stoOf (ms : List Mk) : Sto := (scr 1000 ms ms.length).1
def idsOf (ms : List Mk) : List Nat := (scr 1000 ms ms.length).2
def idOf (ms : List Mk) (N : Int) : Nat := (idsOf ms).getD (pickN N (idsOf ms).length) 0
theorem idOf_le {ms : List Mk} (hf : ∀ m ∈ ms, m.Fits) (N : Int) : (stoOf ms).Ok ∧ idOf ms N ≤ (stoOf ms).list.length ∧ (idsOf ms)[pickN N (idsOf ms).length]? = some (idOf ms N) ∧ (idsOf ms).length = ms.length + 1 := by
  have hs := scr_ok (most := 1000) (by omega) hf ms.length (Nat.le_refl _)
  have hc : (idsOf ms).length = ms.length + 1 := hs.cnt
  have hp : pickN N (idsOf ms).length < (idsOf ms).length := pickN_lt (by omega)
  have he : (idsOf ms)[pickN N (idsOf ms).length]? = some (idOf ms N) := by
    unfold idOf
    rw [List.getD_eq_getElem?_getD, List.getElem?_eq_getElem hp]
    rfl
  exact ⟨hs.ok, hs.mem _ (List.mem_of_getElem? he), he, hc⟩
def BegunPost (R : Raw) (ms : List Mk) (N : Int) (w : World) (e : Ending) (w' : World) : Prop :=
  ∃ T m lv, e = .returned (.tuple #[.pointer (some ⟨T.p, 0, none⟩), .int .i64 (idOf ms N : Nat), .int .i64 (((stoOf ms).txt (idOf ms N)).length : Nat), .bool true]) ∧ T.mc = R.mc ∧ T.back = false ∧ TabOk (stoOf ms) T ∧ St w [] [tabA T, stoA T.s lv m (stoOf ms)] w'
theorem begun_c {P : PoolT} {cv nv av hv lv : Value} {rvs : List Value} {R : Raw} {c : Nat} {ms : List Mk} {N : Int} (h : RawAt P cv nv av hv rvs R) (hR : R.Snd c) (hms : RowIn P mkL 5 lv ms) (hf : ∀ m ∈ ms, m.Fits) (hl : ms.length ≤ 100) (hN : fits64 N) (w : World) (hp : (poolA P).ho w) :
    Calls Try.prog 10 #[.agg #[.int .i64 R.start, cv, nv, av, hv, lv, .int .i64 N]] w (BegunPost R ms N w) := by
  have H := St.nil w []
  have HK := Ks.one hp
  obtain ⟨hok, hid, hget, hcnt⟩ := idOf_le hf N
  obtain ⟨x, hx⟩ := enAt_some hid
  have htl := Sto.txt_len hok hx
  obtain ⟨hmac, hhit⟩ := h.mac hR
  have hst : ((R.mc.start : Nat) : Int) = R.start := by simp [Raw.mc, Int.toNat_of_nonneg hR.s0]
  have HN := Lib.hid (fun w => new_c 1000 (by omega) 1000 rfl w)
  have HAL := Lib.hid (fun w => alive_c w)
  obtain ⟨a1, c1, rfl, hm1⟩ := h.cls.shape
  obtain ⟨a2, c2, rfl, hm2⟩ := h.next.shape
  obtain ⟨a3, c3, rfl, hm3⟩ := h.acc.shape
  obtain ⟨a4, c4, rfl, hm4⟩ := h.wts.shape
  obtain ⟨a5, c5, rfl, hm5⟩ := hms.shape
  have HBU : Hid (∀ p m w, (stoA p (.slice none 0 0) m ⟨1000, []⟩).ho w → (poolA P).ho w → (∀ b ∈ (stoA p (.slice none 0 0) m ⟨1000, []⟩).fp, b ∉ (poolA P).fp) → Calls Try.prog 26 #[.pointer (some ⟨p, 0, none⟩), .slice a5 ms.length c5] w fun e w' => ∃ g cr lv, e = .returned (.tuple #[.slice (some ⟨g, 0, none⟩) (idsOf ms).length cr, .bool true]) ∧ St w (stoA p (.slice none 0 0) m ⟨1000, []⟩).fp [stoA p lv m (stoOf ms), rowsA encI 32 1 (.slice (some ⟨g, 0, none⟩) (idsOf ms).length cr) (idsOf ms)] w') := Lib.hid fun p m w a b hd => by
    refine Calls.mono (lbuild_c 1000 (by omega) (by omega) hf w a b (fun x hx hm => hd x hm hx) hms) ?_
    rintro e w' ⟨rv, lv, rfl, hs⟩
    obtain ⟨g, cr, rfl, _, _⟩ := rowsA_cases (hs.get (A := rowsA encI 32 1 rv (idsOf ms)) (.there .here)) (by omega)
    exact ⟨g, cr, lv, rfl, hs⟩
  have HNEW : Hid (∀ p w, (poolA P).ho w → Calls Try.prog 28 #[.pointer (some ⟨p, 0, none⟩), .agg #[.int .i64 R.start, .slice a1 R.cls.length c1, .slice a2 rvs.length c2, .slice a3 R.acc.length c3], .slice a4 R.wts.length c4, .bool false] w fun e w' => ∃ T, T.mc = R.mc ∧ T.s = p ∧ T.back = false ∧ (∀ S, TabOk S T) ∧ e = .returned (.tuple #[.pointer (some ⟨T.p, 0, none⟩), .nilIface]) ∧ St w [] [tabA T] w') := Lib.hid fun p w hp => by
    rw [← hst]
    refine Calls.mono (tnew_c p false hR.ok hmac hhit w hp) ?_
    rintro e w' ⟨T, q1, q2, q3, q4, q5, q6, q7⟩
    exact ⟨T, q1, q2, q3, q5, q6, q7⟩
  have HPK : Hid (∀ w, Calls Try.prog 29 #[.int .i64 N, .int .i64 (idsOf ms).length] w fun e w' => e = .returned (.int .i64 (pickN N (idsOf ms).length)) ∧ w' = w) := Lib.hid fun w => pickf_c _ _ _ rfl hN (by omega) (by omega) w
  have HW : Hid (∀ p m lv w, (stoA p lv m (stoOf ms)).ho w → Calls Try.prog 30 #[.pointer (some ⟨p, 0, none⟩), .int .i64 (idOf ms N : Nat)] w fun e w' => e = .returned (.tuple #[.agg #[.int .i64 x.w.len, .int .i64 x.w.lines, .int .i64 x.w.head, .int .i64 x.w.tail, .int .u64 x.w.val, .int .u64 x.w.scale], .nilIface]) ∧ St w [] [] w') := Lib.hid fun p m lv w h => weight_c hx w h
  have HGET := Lib.hid hget
  have HTL := Lib.hid htl
  have hpl := getElem_len hget
  have hil : (idsOf ms).length ≤ 101 := by omega
  clear h hR hms hf hN hp hok hx htl hmac hhit hst hget hm1 hm2 hm3 hm4 hm5 hcnt hl
  unfold BegunPost
  generalize hpk : pickN N (idsOf ms).length = pkN at *
  generalize hii : idOf ms N = id at *
  generalize hids : idsOf ms = ids at *
  generalize hSS : stoOf ms = S at *
  clear hpk hii hids hSS
  go_enter Try.func10, Try.ntmps10
  go_wp2_with (first | refine sL ?_ | (refine sS ?_; clear H; intro _ H) | (refine sB ?_; clear H; intro _ _ H) | (refine sA ?_; clear H; intro _ _ H) | (go_at_call 25; with_reducible refine Calls.mono (HN.out _) ?_; rintro e wc ⟨p, m, rfl, hb⟩; replace H := H.call0 hb; clear hb; simp only [List.cons_append, List.nil_append] at H) | (go_at_call 26; with_reducible refine Calls.mono (HBU.out p m _ (H.get (A := stoA p (.slice none 0 0) m ⟨1000, []⟩) pk) (H.known HK pk) (H.apartK HK (A := stoA p (.slice none 0 0) m ⟨1000, []⟩) (B := poolA P) pk pk)) ?_; rintro e wc ⟨g, cr, lv1, rfl, hb⟩; replace H := H.pick (A := stoA p (.slice none 0 0) m ⟨1000, []⟩) pk; replace H := H.call hb; clear hb; simp only [List.cons_append, List.nil_append] at H) | (go_at_call 27; with_reducible refine Calls.mono (HAL.out _) ?_; rintro e wc ⟨rfl, hb⟩; replace H := H.grew hb.below; clear hb) | (go_at_call 28; with_reducible refine Calls.mono (HNEW.out p _ (H.known HK pk)) ?_; rintro e wc ⟨T, hmc, hs, hbk, hokT, rfl, hb⟩; replace H := H.call0 hb; clear hb; simp only [List.cons_append, List.nil_append] at H; have HT := Lib.hid (And.intro hmc (And.intro hs (And.intro hbk hokT))); clear hmc hs hbk hokT) | (go_at_call 29; with_reducible refine same (HPK.out _) ?_) | ((with_reducible refine isLoad ?_); refine AtLoad.cel rfl rfl rfl rfl (rowsA_cell1 (H.get (A := rowsA encI 32 1 (.slice (some ⟨g, 0, none⟩) ids.length cr) ids) pk) encI_len HGET.out rfl) ?_; simp only [Act.put, puA, puB, puC]) | (go_at_call 30; with_reducible refine Calls.mono (HW.out p m lv1 _ (H.get (A := stoA p lv1 m S) pk)) ?_; rintro e wc ⟨rfl, hb⟩; replace H := H.grew hb.below; clear hb))
  refine wp_region_h H 18 [] [] (by kernel_rfl) (by kernel_rfl) ?_
  apply Exists.intro
  refine ⟨fun w1 hw1 HX => ?_, fun bs wr Hr => ?_⟩
  · refine sG ?_
    repeat (first | refine sQ ?_ | fail | go_big_quiet_step (fail))
    exact wpQuiet_nil rfl
  clear H
  have H := Hr
  clear Hr
  replace H := sH H; refine sT ?_
  go_wp2_with (first | refine sL ?_ | (refine sS ?_; clear H; intro _ H) | (refine sB ?_; clear H; intro _ _ H) | (refine sA ?_; clear H; intro _ _ H))
  refine bodyPost_ret (results_tmp4 rfl _ _ _) rfl ?_
  obtain ⟨q1, q2, q3, q4⟩ := HT.out
  refine ⟨T, m, lv1, by rw [HTL.out]; rfl, q1, q3, q4 _, ?_⟩
  rw [q2]
  exact (H.pick2 (A := tabA T) (B := stoA p lv1 m S) pk pk).onlyTwo
end Go.Proofs.Ytijnhpaafhcndaa
end
