/-
  Part 5 of the texts behind the statement Pa: what Uf, Ug, Uh, Ui, Oq hold. Conditions: as each states.
-/
import Derived.Test.YtijnhpaafhcndaaPa4
import Derived.ChangeOld
import Derived.Deep.Slices
import Derived.Lib.SmallJoins
import Derived.OpenShut
import Derived.ProofKit
import Derived.ShutString
section
namespace Go.Proofs.Ytijnhpaafhcndaa
open Go.RowKit Go.Maps
attribute [local go_sem] InGr
set_option maxHeartbeats 4000000
set_option maxRecDepth 100000
set_option linter.unusedSimpArgs false
set_option linter.unusedVariables false
structure Raw where
  start : Int
  cls : List Int
  next : List (List Int)
  acc : List Bool
  wts : List Int
structure RawAt (P : PoolT) (cv nv av hv : Value) (rvs : List Value) (R : Raw) : Prop where
  cls : RowIn P encZ 1 cv R.cls
  next : RowIn P encV 1 nv rvs
  len : rvs.length = R.next.length
  rows : ∀ (i : Nat) (rv : Value) (r : List Int), rvs[i]? = some rv → R.next[i]? = some r → RowIn P encZ 1 rv r
  acc : RowIn P encB 1 av R.acc
  wts : RowIn P encZ 1 hv R.wts
structure Raw.Snd (R : Raw) (c : Nat) : Prop where
  n1 : 1 ≤ R.next.length
  n8 : R.next.length ≤ 8
  acc : R.acc.length = R.next.length
  wts : R.wts.length = R.next.length
  s0 : 0 ≤ R.start
  sn : R.start < R.next.length
  cls : R.cls.length = 256
  c1 : 1 ≤ c
  c256 : c ≤ 256
  clsIn : ∀ z ∈ R.cls, 0 ≤ z ∧ z < c
  rows : ∀ r ∈ R.next, r.length = c ∧ ∀ z ∈ r, 0 ≤ z ∧ z < R.next.length
  wtsIn : ∀ x ∈ R.wts, 0 ≤ x ∧ x ≤ 1048576
def Raw.mc (R : Raw) : Mc := ⟨R.start.toNat, R.cls.map Int.toNat, R.next.map (·.map Int.toNat), R.acc, R.wts.map Int.toNat⟩
theorem flat_toNat {xs : List Int} (h : ∀ x ∈ xs, 0 ≤ x) : flatG encI (xs.map Int.toNat) = flatG encZ xs := by
  induction xs with
  | nil => rfl
  | cons x xs ih =>
    have e1 : flatG encI ((x :: xs).map Int.toNat) = encI x.toNat ++ flatG encI (xs.map Int.toNat) := by simp [flatG]
    have e2 : flatG encZ (x :: xs) = encZ x ++ flatG encZ xs := by simp [flatG]
    have hx := h x (by simp)
    rw [e1, e2, ih fun y hy => h y (by simp [hy])]
    simp only [encI, encZ, Int.toNat_of_nonneg hx]
theorem RowIn.toNat {P : PoolT} {v : Value} {xs : List Int} (h : RowIn P encZ 1 v xs) (h0 : ∀ x ∈ xs, 0 ≤ x) : RowIn P encI 1 v (xs.map Int.toNat) := by
  obtain ⟨ad, c, h1, h2, h3⟩ := h
  refine ⟨ad, c, by rw [List.length_map]; exact h1, by rw [List.length_map]; exact h2, fun hx => ?_⟩
  rw [List.length_map] at hx
  obtain ⟨g, o, e, hm⟩ := h3 hx
  exact ⟨g, o, e, by rw [flat_toNat h0]; exact hm⟩
theorem Raw.Snd.ok {R : Raw} {c : Nat} (h : R.Snd c) : R.mc.Ok c := by
  have hn : R.mc.n = R.next.length := by simp [Mc.n, Raw.mc]
  have h1 := h.n1
  have h8 := h.n8
  have hs := h.s0
  have hs2 := h.sn
  refine ⟨by omega, by omega, ?_, by simp [Raw.mc, h.cls], h.c1, h.c256, fun i x hx => ?_, fun i r hr => ?_, fun i j x r hr hx => ?_, by rw [hn]; exact h.acc, by rw [hn]; simp [Raw.mc, h.wts], fun i x hx => ?_⟩
  · rw [hn]; simp only [Raw.mc]; omega
  · obtain ⟨z, hz, rfl⟩ := List.mem_map.1 (List.mem_of_getElem? hx)
    have := h.clsIn z hz
    omega
  · obtain ⟨z, hz, rfl⟩ := List.mem_map.1 (List.mem_of_getElem? hr)
    rw [List.length_map]
    exact (h.rows z hz).1
  · obtain ⟨z, hz, rfl⟩ := List.mem_map.1 (List.mem_of_getElem? hr)
    obtain ⟨y, hy, rfl⟩ := List.mem_map.1 (List.mem_of_getElem? hx)
    have := (h.rows z hz).2 y hy
    omega
  · obtain ⟨z, hz, rfl⟩ := List.mem_map.1 (List.mem_of_getElem? hx)
    have := h.wtsIn z hz
    omega
theorem RawAt.mac {P : PoolT} {cv nv av hv : Value} {rvs : List Value} {R : Raw} {c : Nat} (h : RawAt P cv nv av hv rvs R) (hs : R.Snd c) : MacAt P cv nv av rvs R.mc ∧ RowIn P encI 1 hv R.mc.wts := by
  refine ⟨⟨h.cls.toNat fun x hx => (hs.clsIn x hx).1, h.next, by rw [h.len]; simp [Mc.n, Raw.mc], fun i rv r h1 h2 => ?_, h.acc⟩, h.wts.toNat fun x hx => (hs.wtsIn x hx).1⟩
  simp only [Raw.mc, List.getElem?_map] at h2
  cases hr : R.next[i]? with
  | none => rw [hr] at h2; cases h2
  | some r' =>
    rw [hr] at h2
    injection h2 with h2
    subst h2
    exact (h.rows i rv r' h1 hr).toNat fun x hx => ((hs.rows r' (List.mem_of_getElem? hr)).2 x hx).1
def SoRel (R : Raw) (c n b2 : Nat) (cs : Array Value) (w : World) (v8 : Value) (wr : World) : Prop :=
  ∃ k : Nat, v8 = .int .i64 k ∧ k ≤ n ∧ (∀ (j : Nat) (r : List Int) (x : Int), j < k → R.next[j]? = some r → R.wts[j]? = some x → (r.length = c ∧ ∀ z ∈ r, 0 ≤ z ∧ z < n) ∧ 0 ≤ x ∧ x ≤ 1048576) ∧ St w [] [blk b2 (.cells cs 26)] wr
def SndPost (R : Raw) (w : World) (e : Ending) (w' : World) : Prop := ∃ b, e = .returned (.bool b) ∧ (b = true → ∃ c, R.Snd c) ∧ St w [] [] w'
theorem sound_c {P : PoolT} {cv nv av hv : Value} {rvs : List Value} {R : Raw} (h : RawAt P cv nv av hv rvs R) (hs1 : -9223372036854775808 ≤ R.start) (hs2 : R.start ≤ 9223372036854775807) (w : World) (hp : (poolA P).ho w) :
    Calls Try.prog 24 #[.agg #[.int .i64 R.start, cv, nv, av], hv] w (SndPost R w) := by
  have H := St.nil w []
  have HK := Ks.one hp
  have HRA := Lib.hid h
  obtain ⟨a1, c1, rfl, hm1⟩ := h.cls.shape
  obtain ⟨a2, c2, rfl, hm2⟩ := h.next.shape
  obtain ⟨a3, c3, rfl, hm3⟩ := h.acc.shape
  obtain ⟨a4, c4, rfl, hm4⟩ := h.wts.shape
  unfold maxLen at hm1 hm2 hm3 hm4
  have hlen := h.len
  rw [hlen] at HRA hm2 ⊢
  have HCL := Lib.hid h.cls
  have HNX := Lib.hid h.next
  have HWT := Lib.hid h.wts
  have HRS := Lib.hid h.rows
  have HLEN := Lib.hid hlen
  rw [hlen] at HNX
  obtain ⟨n, hn⟩ : ∃ n, n = R.next.length := ⟨_, rfl⟩
  obtain ⟨st, hst⟩ : ∃ st, st = R.start := ⟨_, rfl⟩
  rw [← hn] at HRA HNX hm2 ⊢
  rw [← hst] at hs1 hs2 ⊢
  have HN := Lib.hid hn
  have HST := Lib.hid hst
  generalize hla : R.acc.length = la at *
  generalize hlw : R.wts.length = lw at *
  generalize hlc : R.cls.length = lc at *
  have HLA := Lib.hid hla
  have HLW := Lib.hid hlw
  have HLC := Lib.hid hlc
  clear h hp hlen hn hst hla hlw hlc
  by_cases k1 : n < 1
  · have ek1 : decide ((n : Int) < 1) = true := by simp; omega
    clear k1
    go_enter Try.func24, Try.ntmps24
    go_wp2_with (first | refine sL ?_ | (refine sB ?_; clear H; intro _ _ H))
    go_ret
    exact ⟨false, rfl, by simp, H.nix⟩
  have ek1 : decide ((n : Int) < 1) = false := by simp; omega
  by_cases k2 : 8 < n
  · have ek2 : decide (8 < (n : Int)) = true := by simp; omega
    clear k2
    go_enter Try.func24, Try.ntmps24
    go_wp2_with (first | refine sL ?_ | (refine sB ?_; clear H; intro _ _ H))
    go_ret
    exact ⟨false, rfl, by simp, H.nix⟩
  have ek2 : decide (8 < (n : Int)) = false := by simp; omega
  by_cases k3 : la ≠ n
  · have ek3 : ((la : Int) != (n : Int)) = true := by simp; omega
    have fk30 : ((la : Int) == (n : Int)) = false := by simp; omega
    clear k3
    go_enter Try.func24, Try.ntmps24
    go_wp2_with (first | refine sL ?_ | (refine sB ?_; clear H; intro _ _ H))
    go_ret
    exact ⟨false, rfl, by simp, H.nix⟩
  have ek3 : ((la : Int) != (n : Int)) = false := by simp; omega
  have fk30 : ((la : Int) == (n : Int)) = true := by simp; omega
  by_cases k4 : lw ≠ n
  · have ek4 : ((lw : Int) != (n : Int)) = true := by simp; omega
    have fk40 : ((lw : Int) == (n : Int)) = false := by simp; omega
    clear k4
    go_enter Try.func24, Try.ntmps24
    go_wp2_with (first | refine sL ?_ | (refine sB ?_; clear H; intro _ _ H))
    go_ret
    exact ⟨false, rfl, by simp, H.nix⟩
  have ek4 : ((lw : Int) != (n : Int)) = false := by simp; omega
  have fk40 : ((lw : Int) == (n : Int)) = true := by simp; omega
  by_cases k5 : st < 0
  · have ek5 : decide (st < 0) = true := by simp; omega
    clear k5
    go_enter Try.func24, Try.ntmps24
    go_wp2_with (first | refine sL ?_ | (refine sB ?_; clear H; intro _ _ H))
    go_ret
    exact ⟨false, rfl, by simp, H.nix⟩
  have ek5 : decide (st < 0) = false := by simp; omega
  by_cases k6 : (n : Int) ≤ st
  · have ek6 : decide ((n : Int) ≤ st) = true := by simp; omega
    clear k6
    go_enter Try.func24, Try.ntmps24
    go_wp2_with (first | refine sL ?_ | (refine sB ?_; clear H; intro _ _ H))
    go_ret
    exact ⟨false, rfl, by simp, H.nix⟩
  have ek6 : decide ((n : Int) ≤ st) = false := by simp; omega
  by_cases k7 : lc ≠ 256
  · have ek7 : ((lc : Int) != 256) = true := by simp; omega
    have fk70 : ((lc : Int) == 256) = false := by simp; omega
    clear k7
    go_enter Try.func24, Try.ntmps24
    go_wp2_with (first | refine sL ?_ | (refine sB ?_; clear H; intro _ _ H))
    go_ret
    exact ⟨false, rfl, by simp, H.nix⟩
  have ek7 : ((lc : Int) != 256) = false := by simp; omega
  have fk70 : ((lc : Int) == 256) = true := by simp; omega
  obtain ⟨r0, hr0⟩ : ∃ r0, R.next[0]? = some r0 := ⟨_, List.getElem?_eq_getElem (by rw [← HN.out]; omega)⟩
  obtain ⟨v0, hv0⟩ : ∃ v0, rvs[0]? = some v0 := ⟨_, List.getElem?_eq_getElem (by rw [HLEN.out, ← HN.out]; omega)⟩
  obtain ⟨a0, c0, rfl, hm0⟩ := (HRS.out 0 v0 r0 hv0 hr0).shape
  have HR0 := Lib.hid hr0
  have HV0 := Lib.hid hv0
  unfold maxLen at hm0
  obtain ⟨g2, o2, c2', he2, hnx2⟩ := HNX.out.has (by rw [HLEN.out, ← HN.out]; omega)
  injection he2 with x1 x2 x3
  subst x1
  obtain ⟨c, hc⟩ : ∃ c, c = r0.length := ⟨_, rfl⟩
  rw [← hc] at HV0 hm0
  have HC := Lib.hid hc
  have hn0 : 0 < n := by omega
  have hn8 : n ≤ 8 := by omega
  have hlc : lc = 256 := by omega
  have hlw : n = lw := by omega
  have hla : la = n := by omega
  obtain ⟨g1, o1, c1', he1, _⟩ := HCL.out.has (by rw [HLC.out]; omega)
  injection he1 with y1 y2 y3
  subst y1
  obtain ⟨g4, o4, c4', he4, _⟩ := HWT.out.has (by rw [HLW.out]; omega)
  injection he4 with z1 z2 z3
  subst z1
  subst hlc
  have HFACT := Lib.hid (show n = R.next.length ∧ R.acc.length = n ∧ R.wts.length = n ∧ 0 ≤ st ∧ st < n ∧ R.cls.length = 256 from ⟨HN.out, by rw [HLA.out, hla], by rw [HLW.out, hlw], by omega, by omega, HLC.out⟩)
  subst hlw
  clear hr0 hv0 hnx2 x2 x3 y2 y3 z2 z3 hc hla k1 k2 k3 k4 k5 k6 k7
  by_cases k8 : c < 1
  · have ek8 : decide ((c : Int) < 1) = true := by simp; omega
    clear k8
    go_enter Try.func24, Try.ntmps24
    go_wp2_with (first | refine sL ?_ | (refine sB ?_; clear H; intro _ _ H) | ((with_reducible refine isLoad ?_); refine AtLoad.cel rfl rfl rfl rfl (HNX.out.cell (H.known HK pk) encV_len HV0.out rfl) ?_; simp only [Act.put, puA, puB, puC]))
    go_ret
    exact ⟨false, rfl, by simp, H.nix⟩
  have ek8 : decide ((c : Int) < 1) = false := by simp; omega
  by_cases k9 : 256 < c
  · have ek9 : decide (256 < (c : Int)) = true := by simp; omega
    clear k9
    go_enter Try.func24, Try.ntmps24
    go_wp2_with (first | refine sL ?_ | (refine sB ?_; clear H; intro _ _ H) | ((with_reducible refine isLoad ?_); refine AtLoad.cel rfl rfl rfl rfl (HNX.out.cell (H.known HK pk) encV_len HV0.out rfl) ?_; simp only [Act.put, puA, puB, puC]))
    go_ret
    exact ⟨false, rfl, by simp, H.nix⟩
  have ek9 : decide (256 < (c : Int)) = false := by simp; omega
  have hc0 : 0 < c := by omega
  have hc256 : c ≤ 256 := by omega
  clear k8 k9
  go_enter Try.func24, Try.ntmps24
  go_wp2_with (first | refine sL ?_ | (refine sB ?_; clear H; intro _ _ H) | ((with_reducible refine isLoad ?_); refine AtLoad.cel rfl rfl rfl rfl (HNX.out.cell (H.known HK pk) encV_len HV0.out rfl) ?_; simp only [Act.put, puA, puB, puC]))
  rename_i b2 _ _ _
  go_loopw [7] (fun v7 wr => ∃ k : Nat, v7 = .int .i64 k ∧ k ≤ 256 ∧ (∀ (j : Nat) (z : Int), j < k → R.cls[j]? = some z → 0 ≤ z ∧ z < c) ∧ St w [] [blk b2 (.cells #[.int .i64 st, .slice (some ⟨g1, o1, none⟩) 256 c1, .slice (some ⟨g2, o2, none⟩) n c2, .slice a3 la c3] 26)] wr) (fun v7 _ => 256 - (intOf v7).toNat)
  case atStart => exact ⟨0, rfl, Nat.zero_le _, by intro j z hj; omega, H⟩
  case round =>
    clear H
    obtain ⟨k, rfl, hk, hall, H⟩ := hrel
    have HA := Lib.hid hall
    clear hall
    by_cases hlt : k < 256
    · obtain ⟨z, hz⟩ : ∃ z, R.cls[k]? = some z := ⟨_, List.getElem?_eq_getElem (by rw [HLC.out]; exact hlt)⟩
      have HZ := Lib.hid hz
      clear hz
      by_cases z0 : z < 0
      · have d0 : decide (z < 0) = true := by simpa using z0
        go_wp2_with (first | refine sL ?_ | (refine sB ?_; clear H; intro _ _ H) | ((with_reducible refine isLoad ?_); refine AtLoad.cel rfl rfl rfl rfl (HCL.out.cell (H.known HK pk) encZ_len HZ.out rfl) ?_; simp only [Act.put, puA, puB, puC]))
        go_ret
        exact ⟨false, rfl, by simp, H.nix⟩
      · have d0 : decide (z < 0) = false := by simpa using z0
        by_cases zn : (c : Int) ≤ z
        · have d1 : decide ((c : Int) ≤ z) = true := by simpa using zn
          go_wp2_with (first | refine sL ?_ | (refine sB ?_; clear H; intro _ _ H) | ((with_reducible refine isLoad ?_); refine AtLoad.cel rfl rfl rfl rfl (HCL.out.cell (H.known HK pk) encZ_len HZ.out rfl) ?_; simp only [Act.put, puA, puB, puC]))
          go_ret
          exact ⟨false, rfl, by simp, H.nix⟩
        · have d1 : decide ((c : Int) ≤ z) = false := by simpa using zn
          go_wp2_with (first | refine sL ?_ | (refine sB ?_; clear H; intro _ _ H) | ((with_reducible refine isLoad ?_); refine AtLoad.cel rfl rfl rfl rfl (HCL.out.cell (H.known HK pk) encZ_len HZ.out rfl) ?_; simp only [Act.put, puA, puB, puC]))
          refine ⟨⟨k + 1, by go_num, by omega, fun j y hj hy => ?_, H⟩, by simp [intOf]; omega⟩
          rcases Nat.lt_or_ge j k with h | h
          · exact HA.out j y h hy
          · obtain rfl : j = k := by omega
            rw [HZ.out] at hy
            injection hy with hy
            subst hy
            omega
    · have hke : k = 256 := by omega
      subst hke
      have HCI := Lib.hid (show ∀ z ∈ R.cls, 0 ≤ z ∧ z < c from fun z hz => by
        obtain ⟨j, hj⟩ := List.getElem?_of_mem hz
        exact HA.out j z (by have := getElem_len hj; rw [HLC.out] at this; exact this) hj)
      clear HA
      go_wp2_with (first | refine sL ?_ | (refine sB ?_; clear H; intro _ _ H))
      go_loopw [8] (fun v8 wr => SoRel R c n b2 #[.int .i64 st, .slice (some ⟨g1, o1, none⟩) 256 c1, .slice (some ⟨g2, o2, none⟩) n c2, .slice a3 la c3] w v8 wr) (fun v8 _ => n - (intOf v8).toNat)
      case atStart => exact ⟨0, rfl, Nat.zero_le _, by intro j r x hj; omega, H⟩
      case round =>
        clear H
        obtain ⟨k, rfl, hk, hall, H⟩ := hrel
        have HA := Lib.hid hall
        clear hall
        by_cases hlt : k < n
        · obtain ⟨r, hr⟩ : ∃ r, R.next[k]? = some r := ⟨_, List.getElem?_eq_getElem (by rw [← HFACT.out.1]; exact hlt)⟩
          obtain ⟨rv, hrv⟩ : ∃ rv, rvs[k]? = some rv := ⟨_, List.getElem?_eq_getElem (by rw [HLEN.out, ← HFACT.out.1]; exact hlt)⟩
          obtain ⟨x, hx⟩ : ∃ x, R.wts[k]? = some x := ⟨_, List.getElem?_eq_getElem (by rw [HFACT.out.2.2.1]; exact hlt)⟩
          have hrow := HRS.out k rv r hrv hr
          obtain ⟨a9, c9, rfl, hm9⟩ := hrow.shape
          have HX := Lib.hid hx
          have HRV := Lib.hid hrv
          have HR9 := Lib.hid hr
          by_cases hX : r.length = c ∧ ∀ z ∈ r, 0 ≤ z ∧ z < n
          · have HROW : Hid (∀ w, (poolA P).ho w → Calls Try.prog 53 #[.slice a9 r.length c9, .int .i64 c, .int .i64 n] w (fun e w' => e = .returned (.bool true) ∧ St w [] [] w')) := Lib.hid fun w h => by
              refine Calls.mono (row_c hrow hc256 hn8 w h) ?_
              rintro e w' ⟨b, rfl, hb, hs⟩
              obtain rfl := hb.2 hX
              exact ⟨rfl, hs⟩
            have HX9 := Lib.hid hX
            clear hr hrv hx hrow hm9 hX
            by_cases x0 : x < 0
            · have d0 : decide (x < 0) = true := by simpa using x0
              go_wp2_with (first | refine sL ?_ | (refine sB ?_; clear H; intro _ _ H) | ((with_reducible refine isLoad ?_); refine AtLoad.cel rfl rfl rfl rfl (HNX.out.cell (H.known HK pk) encV_len HRV.out rfl) ?_; simp only [Act.put, puA, puB, puC]) | ((with_reducible refine isLoad ?_); refine AtLoad.cel rfl rfl rfl rfl (HWT.out.cell (H.known HK pk) encZ_len HX.out rfl) ?_; simp only [Act.put, puA, puB, puC]) | (go_at_call 53; with_reducible refine Calls.mono (HROW.out _ (H.known HK pk)) ?_; rintro e wc ⟨rfl, hb⟩; replace H := H.grew hb.below; clear hb))
              go_ret
              exact ⟨false, rfl, by simp, H.nix⟩
            · have d0 : decide (x < 0) = false := by simpa using x0
              by_cases xn : 1048576 < x
              · have d1 : decide (1048576 < x) = true := by simpa using xn
                go_wp2_with (first | refine sL ?_ | (refine sB ?_; clear H; intro _ _ H) | ((with_reducible refine isLoad ?_); refine AtLoad.cel rfl rfl rfl rfl (HNX.out.cell (H.known HK pk) encV_len HRV.out rfl) ?_; simp only [Act.put, puA, puB, puC]) | ((with_reducible refine isLoad ?_); refine AtLoad.cel rfl rfl rfl rfl (HWT.out.cell (H.known HK pk) encZ_len HX.out rfl) ?_; simp only [Act.put, puA, puB, puC]) | (go_at_call 53; with_reducible refine Calls.mono (HROW.out _ (H.known HK pk)) ?_; rintro e wc ⟨rfl, hb⟩; replace H := H.grew hb.below; clear hb))
                go_ret
                exact ⟨false, rfl, by simp, H.nix⟩
              · have d1 : decide (1048576 < x) = false := by simpa using xn
                go_wp2_with (first | refine sL ?_ | (refine sB ?_; clear H; intro _ _ H) | ((with_reducible refine isLoad ?_); refine AtLoad.cel rfl rfl rfl rfl (HNX.out.cell (H.known HK pk) encV_len HRV.out rfl) ?_; simp only [Act.put, puA, puB, puC]) | ((with_reducible refine isLoad ?_); refine AtLoad.cel rfl rfl rfl rfl (HWT.out.cell (H.known HK pk) encZ_len HX.out rfl) ?_; simp only [Act.put, puA, puB, puC]) | (go_at_call 53; with_reducible refine Calls.mono (HROW.out _ (H.known HK pk)) ?_; rintro e wc ⟨rfl, hb⟩; replace H := H.grew hb.below; clear hb))
                have HREL := (show ∀ wx, St w [] [blk b2 (.cells #[.int .i64 st, .slice (some ⟨g1, o1, none⟩) 256 c1, .slice (some ⟨g2, o2, none⟩) n c2, .slice a3 la c3] 26)] wx → SoRel R c n b2 #[.int .i64 st, .slice (some ⟨g1, o1, none⟩) 256 c1, .slice (some ⟨g2, o2, none⟩) n c2, .slice a3 la c3] w (.int .i64 ((k : Int) + 1)) wx from fun wx H => by
                  refine ⟨k + 1, by go_num, by omega, fun j y u hj hy hu => ?_, H⟩
                  rcases Nat.lt_or_ge j k with h | h
                  · exact HA.out j y u h hy hu
                  · obtain rfl : j = k := by omega
                    rw [HR9.out] at hy
                    rw [HX.out] at hu
                    injection hy with hy
                    injection hu with hu
                    subst hy hu
                    exact ⟨HX9.out, by omega, by omega⟩) _ H
                refine ⟨?_, by simp [intOf]; omega⟩
                (repeat apply Exists.intro)
                refine ⟨HREL, ?_⟩
                rfl
          · have HROW : Hid (∀ w, (poolA P).ho w → Calls Try.prog 53 #[.slice a9 r.length c9, .int .i64 c, .int .i64 n] w (fun e w' => e = .returned (.bool false) ∧ St w [] [] w')) := Lib.hid fun w h => by
              refine Calls.mono (row_c hrow hc256 hn8 w h) ?_
              rintro e w' ⟨b, rfl, hb, hs⟩
              cases b with
              | false => exact ⟨rfl, hs⟩
              | true => exact absurd (hb.1 rfl) hX
            clear hr hrv hx hrow hm9 hX
            go_wp2_with (first | refine sL ?_ | (refine sB ?_; clear H; intro _ _ H) | ((with_reducible refine isLoad ?_); refine AtLoad.cel rfl rfl rfl rfl (HNX.out.cell (H.known HK pk) encV_len HRV.out rfl) ?_; simp only [Act.put, puA, puB, puC]) | ((with_reducible refine isLoad ?_); refine AtLoad.cel rfl rfl rfl rfl (HWT.out.cell (H.known HK pk) encZ_len HX.out rfl) ?_; simp only [Act.put, puA, puB, puC]) | (go_at_call 53; with_reducible refine Calls.mono (HROW.out _ (H.known HK pk)) ?_; rintro e wc ⟨rfl, hb⟩; replace H := H.grew hb.below; clear hb))
            go_ret
            exact ⟨false, rfl, by simp, H.nix⟩
        · have hke : k = n := by omega
          subst hke
          go_wp2_with (first | refine sL ?_ | (refine sB ?_; clear H; intro _ _ H))
          go_ret
          refine ⟨true, rfl, fun _ => ⟨c, ?_⟩, H.nix⟩
          obtain ⟨f1, f2, f3, f4, f5, f6⟩ := HFACT.out
          refine ⟨by omega, by omega, by rw [f2, f1], by rw [f3, f1], by rw [← HST.out]; exact f4, by rw [← HST.out, ← f1]; exact f5, f6, hc0, hc256, HCI.out, fun r hr => ?_, fun x hx => ?_⟩
          · obtain ⟨j, hj⟩ := List.getElem?_of_mem hr
            have hjl := getElem_len hj
            obtain ⟨x, hx⟩ : ∃ x, R.wts[j]? = some x := ⟨_, List.getElem?_eq_getElem (by omega)⟩
            have := (HA.out j r x (by omega) hj hx).1
            rw [f1] at this
            exact this
          · obtain ⟨j, hj⟩ := List.getElem?_of_mem hx
            have hjl := getElem_len hj
            obtain ⟨r, hr⟩ : ∃ r, R.next[j]? = some r := ⟨_, List.getElem?_eq_getElem (by omega)⟩
            exact (HA.out j r x (by omega) hr hj).2
end Go.Proofs.Ytijnhpaafhcndaa
end
section
namespace Go.Proofs.Ytijnhpaafhcndaa
open Go.RowKit Go.Maps
attribute [local go_sem] InGr
set_option maxHeartbeats 4000000
set_option maxRecDepth 100000
set_option linter.unusedSimpArgs false
set_option linter.unusedVariables false
theorem good_c {P : PoolT} {cv nv av hv lv : Value} {rvs : List Value} {R : Raw} {ms : List Mk} {N : Int} (h : RawAt P cv nv av hv rvs R) (hms : RowIn P mkL 5 lv ms) (hs1 : -9223372036854775808 ≤ R.start) (hs2 : R.start ≤ 9223372036854775807) (w : World) (hp : (poolA P).ho w) :
    Calls Try.prog 9 #[.agg #[.int .i64 R.start, cv, nv, av, hv, lv, .int .i64 N]] w fun e w' => ∃ b, e = .returned (.bool b) ∧ (b = true → ms.length ≤ 100 ∧ ∃ c, R.Snd c) ∧ St w [] [] w' := by
  have H := St.nil w []
  have HK := Ks.one hp
  obtain ⟨a1, c1, rfl, hm1⟩ := h.cls.shape
  obtain ⟨a2, c2, rfl, hm2⟩ := h.next.shape
  obtain ⟨a3, c3, rfl, hm3⟩ := h.acc.shape
  obtain ⟨a4, c4, rfl, hm4⟩ := h.wts.shape
  obtain ⟨a5, c5, rfl, hm5⟩ := hms.shape
  unfold maxLen at hm5
  have HS : Hid (∀ w, (poolA P).ho w → Calls Try.prog 24 #[.agg #[.int .i64 R.start, .slice a1 R.cls.length c1, .slice a2 rvs.length c2, .slice a3 R.acc.length c3], .slice a4 R.wts.length c4] w fun e w' => ∃ b, e = .returned (.bool b) ∧ (b = true → ∃ c, R.Snd c) ∧ St w [] [] w') := Lib.hid fun w hp => sound_c h hs1 hs2 w hp
  clear h hms hm1 hm2 hm3 hm4 hp
  by_cases hl : ms.length ≤ 100
  · have d0 : decide ((ms.length : Int) ≤ 100) = true := by simp; omega
    have HL := Lib.hid hl
    clear hl
    go_enter Try.func9, Try.ntmps9
    go_wp2_with (first | refine sL ?_ | (refine sB ?_; clear H; intro _ _ H) | (go_at_call 24; with_reducible refine Calls.mono (HS.out _ (H.known HK pk)) ?_; rintro e wc ⟨b, rfl, hb1, hb⟩; replace H := H.grew hb.below; clear hb; have HB := Lib.hid hb1; clear hb1))
    go_ret
    exact ⟨b, rfl, fun hb => ⟨HL.out, HB.out hb⟩, H.nix⟩
  · have d0 : decide ((ms.length : Int) ≤ 100) = false := by simp; omega
    clear hl
    go_enter Try.func9, Try.ntmps9
    go_wp2_with (first | refine sL ?_ | (refine sB ?_; clear H; intro _ _ H))
    go_ret
    exact ⟨false, rfl, by simp, H.nix⟩
def mc0 : Mc := ⟨0, List.replicate 256 0, [[0]], [true], [3]⟩
theorem mc0_ok : mc0.Ok 1 := by
  refine ⟨by decide, by decide, by decide, by simp [mc0], by decide, by decide, fun i x hx => ?_, fun i r hr => ?_, fun i j x r hr hx => ?_, by decide, by decide, fun i x hx => ?_⟩
  · have := List.eq_of_mem_replicate (List.mem_of_getElem? hx); omega
  · have := List.mem_of_getElem? hr
    simp [mc0] at this
    subst this; rfl
  · have := List.mem_of_getElem? hr
    simp [mc0] at this
    subst this
    have := List.mem_of_getElem? hx
    simp at this
    subst this
    decide
  · have := List.mem_of_getElem? hx
    simp [mc0] at this
    omega
theorem St.blk_into {e : TypeId} {g : Nat} {cs : Array Value} {Q : PoolT} {w0 w : World} {M : List Nat} {R : List As} (h : St w0 M (blk g (.cells cs e) :: poolA Q :: R) w) : St w0 M (poolA ((g, 0, cs.toList) :: Q) :: R) w := h.blk_pool.pool_add
theorem RowIn.one {α : Type} {P : PoolT} {enc : α → List Value} {g : Nat} {x : α} {u : List Value} (he : enc x = u) (h : (g, 0, u) ∈ P) (k : Nat) : RowIn P enc k (.slice (some ⟨g, 0, none⟩) 1 1) [x] :=
  ⟨_, 1, rfl, by simp [maxLen], fun _ => ⟨g, 0, rfl, by simpa [flatG, he] using h⟩⟩
theorem alive_c (w : World) : Calls Try.prog 27 #[] w fun e w' => e = .returned (.bool true) ∧ St w [] [] w' := by
  have H := St.nil w []
  have HK := Ks.nil w []
  have hS0 : (⟨10, []⟩ : Sto).Ok := (Scr.start (most := 10) (by omega)).ok
  have hS1 : (⟨10, [letterE 97]⟩ : Sto).Ok := Sto.letter_ok hS0 (b := 97) (by omega)
  have HN := Lib.hid (fun w => new_c 10 (by omega) 10 rfl w)
  have HLT : Hid (∀ p m w, (stoA p (.slice none 0 0) m ⟨10, []⟩).ho w → Calls Try.prog 55 #[.pointer (some ⟨p, 0, none⟩), .int .u8 97] w fun e w' => ∃ lv', e = .returned (.tuple #[.int .i64 1, .nilIface]) ∧ St w (stoA p (.slice none 0 0) m ⟨10, []⟩).fp [stoA p lv' m ⟨10, [letterE 97]⟩] w') := Lib.hid fun p m w h => letter_c hS0 97 (by omega) w h
  have HS1 := Lib.hid hS1
  clear hS0 hS1
  go_enter Try.func27, Try.ntmps27
  go_wp2_with (first | (go_at_call 25; with_reducible refine Calls.mono (HN.out _) ?_; rintro e wc ⟨p, m, rfl, hb⟩; replace H := H.call0 hb; clear hb; simp only [List.cons_append, List.nil_append] at H) | (go_at_call 55; with_reducible refine Calls.mono (HLT.out p m _ (H.get (A := stoA p (.slice none 0 0) m ⟨10, []⟩) pk)) ?_; rintro e wc ⟨lv1, rfl, hb⟩; replace H := H.pick (A := stoA p (.slice none 0 0) m ⟨10, []⟩) pk; replace H := H.call hb; clear hb; simp only [List.cons_append, List.nil_append] at H) | ((with_reducible refine isMakeSlice ?_); refine AtMakeSlice.go encI H rfl rfl 256 rfl rfl rfl rfl 0 rfl rfl encI_len (by omega) (by omega) ?_; clear H; intro bc _ H; simp only [Act.put, puA, puB, puC]) | ((with_reducible refine isSlice ?_); refine AtSlice.one H rfl rfl rfl rfl rfl rfl rfl rfl rfl ?_; clear H; intro b _ H; simp only [Act.put, puA, puB, puC]))
  rename_i br _ bn _ ba _ _ _ _
  obtain ⟨Q, hq, H⟩ := (H.pick (A := rowsA encI 3 1 (.slice (some ⟨bc, 0, none⟩) 256 256) (List.replicate 256 0)) pk).to_pool encI_len
  replace H := (H.pick2 (A := blk br (.cells #[.int .i64 0] 3)) (B := poolA Q) pk pk).blk_into
  replace H := (H.pick2 (A := blk bn (.cells #[.slice (some ⟨br, 0, none⟩) 1 1] 22)) (B := poolA ((br, 0, [.int .i64 0]) :: Q)) pk pk).blk_into
  replace H := (H.pick2 (A := blk ba (.cells #[.bool true] 4)) (B := poolA ((bn, 0, [.slice (some ⟨br, 0, none⟩) 1 1]) :: (br, 0, [.int .i64 0]) :: Q)) pk pk).blk_into
  replace H := (H.pick2 (A := blk b (.cells #[.int .i64 3] 3)) (B := poolA ((ba, 0, [.bool true]) :: (bn, 0, [.slice (some ⟨br, 0, none⟩) 1 1]) :: (br, 0, [.int .i64 0]) :: Q)) pk pk).blk_into
  obtain ⟨P, hP⟩ : ∃ P : PoolT, P = (b, 0, [.int .i64 3]) :: (ba, 0, [.bool true]) :: (bn, 0, [.slice (some ⟨br, 0, none⟩) 1 1]) :: (br, 0, [.int .i64 0]) :: Q := ⟨_, rfl⟩
  simp only [] at H
  rw [show ((b, 0, (#[.int .i64 3] : Array Value).toList) :: (ba, 0, [.bool true]) :: (bn, 0, [.slice (some ⟨br, 0, none⟩) 1 1]) :: (br, 0, [.int .i64 0]) :: Q : PoolT) = P from hP.symm] at H
  have hmac : MacAt P (.slice (some ⟨bc, 0, none⟩) 256 256) (.slice (some ⟨bn, 0, none⟩) 1 1) (.slice (some ⟨ba, 0, none⟩) 1 1) [.slice (some ⟨br, 0, none⟩) 1 1] mc0 := by
    refine ⟨?_, RowIn.one (u := [.slice (some ⟨br, 0, none⟩) 1 1]) rfl (by rw [hP]; simp) 1, rfl, fun i rv r h1 h2 => ?_, RowIn.one (u := [.bool true]) rfl (by rw [hP]; simp) 1⟩
    · exact hq.mono fun x hx => by rw [hP]; simp [hx]
    · have e1 := List.mem_of_getElem? h1
      have e2 := List.mem_of_getElem? h2
      simp [mc0] at e1 e2
      subst e1 e2
      exact RowIn.one (u := [.int .i64 0]) rfl (by rw [hP]; simp) 1
  have hhit : RowIn P encI 1 (.slice (some ⟨b, 0, none⟩) 1 1) mc0.wts := RowIn.one (u := [.int .i64 3]) rfl (by rw [hP]; simp) 1
  have HNEW : Hid (∀ w, (poolA P).ho w → Calls Try.prog 28 #[.pointer (some ⟨p, 0, none⟩), .agg #[.int .i64 0, .slice (some ⟨bc, 0, none⟩) 256 256, .slice (some ⟨bn, 0, none⟩) 1 1, .slice (some ⟨ba, 0, none⟩) 1 1], .slice (some ⟨b, 0, none⟩) 1 1, .bool false] w (NewPost mc0 p false w)) := Lib.hid fun w hp => tnew_c p false mc0_ok hmac hhit w hp
  clear hmac hhit hq hP
  with_reducible refine Calls.mono (HNEW.out _ (H.get (A := poolA P) pk)) ?_
  rintro e wc ⟨T, hmc, hs, hbk, hes, hok, rfl, hb⟩
  replace H := H.call0 hb
  clear hb
  simp only [List.cons_append, List.nil_append] at H
  replace H := (H.pick2 (A := tabA T) (B := stoA p lv1 m ⟨10, [letterE 97]⟩) pk pk).onlyTwo
  have HCNT : Hid (∀ w, ((tabA T).sep (stoA p lv1 m ⟨10, [letterE 97]⟩)).ho w → Calls Try.prog 12 #[.pointer (some ⟨T.p, 0, none⟩), .int .i64 1, .int .i64 0, .int .i64 1] w fun e w' => ∃ T', e = .returned (.tuple #[.int .i64 3, .nilIface]) ∧ St w (tabA T).fp [tabA T'] w') := Lib.hid fun w h => by
    have hr : (⟨10, [letterE 97]⟩ : Sto).rsum T.mc 1 0 1 = 3 := by rw [hmc]; decide
    have ht : ((⟨10, [letterE 97]⟩ : Sto).txt 1).length = 1 := by decide
    have hc := count_c (lv := lv1) (m := m) (S := ⟨10, [letterE 97]⟩) (T := T) (id := 1) (s := 0) (n := 1) HS1.out (hok _) hbk (by decide) (by rw [ht]; omega) w (by rw [hs]; exact h)
    rw [hr] at hc
    refine Calls.mono hc ?_
    rintro e w' ⟨T', he, _, _, hst⟩
    exact ⟨T', by rw [he]; rfl, hst⟩
  clear HNEW hmc hs hbk hes hok
  go_wp2_with (first | (go_at_call 12; with_reducible refine Calls.mono (HCNT.out _ (sep_mk (H.get (A := tabA T) pk) (H.get (A := stoA p lv1 m ⟨10, [letterE 97]⟩) pk) (H.apart2 (A := tabA T) (B := stoA p lv1 m ⟨10, [letterE 97]⟩) pk pk))) ?_; rintro e wc ⟨T2, rfl, hb⟩; replace H := H.pick (A := tabA T) pk; replace H := H.call hb; clear hb; simp only [List.cons_append, List.nil_append] at H))
  go_ret
  exact ⟨rfl, H.nix⟩
end Go.Proofs.Ytijnhpaafhcndaa
end
section
namespace Go.Proofs.Ytijnhpaafhcndaa
open Go.RowKit Go.Maps
attribute [local go_sem] InGr
set_option maxHeartbeats 4000000
set_option maxRecDepth 100000
set_option linter.unusedSimpArgs false
set_option linter.unusedVariables false
theorem St.apartK {w0 w : World} {M : List Nat} {L R K R' : List As} {A B : As} (h : St w0 M L w) (k : Ks w0 M K) (hp : Pick L A R) (hq : Pick K B R') : ∀ b ∈ A.fp, b ∉ B.fp := by
  have := h.sepK k hp hq
  rw [sep_ho] at this
  exact this.2.2
theorem results_tmp4 {fn : Func} {t u v x : Tmp} (h : fn.results = #[.tmp t, .tmp u, .tmp v, .tmp x]) (tmps : Array Value) (P : Program) (w : World) :
    (results fn tmps).run P w = .ok (.tuple #[tmps.getD t undef, tmps.getD u undef, tmps.getD v undef, tmps.getD x undef]) w := by
  simp [results, h]
def stoOf (ms : List Mk) : Sto := (scr 1000 ms ms.length).1
def idsOf (ms : List Mk) : List Nat := (scr 1000 ms ms.length).2
def idOf (ms : List Mk) (N : Int) : Nat := (idsOf ms).getD (pickN N (idsOf ms).length) 0
theorem idOf_le {ms : List Mk} (hf : ∀ m ∈ ms, m.Fits) (N : Int) : (stoOf ms).Ok ∧ idOf ms N ≤ (stoOf ms).list.length ∧ (idsOf ms)[pickN N (idsOf ms).length]? = some (idOf ms N) ∧ (idsOf ms).length = ms.length + 1 := by
  have hs := scr_ok (most := 1000) (by omega) hf ms.length (Nat.le_refl _)
  have hc : (idsOf ms).length = ms.length + 1 := hs.cnt
  have hp : pickN N (idsOf ms).length < (idsOf ms).length := pickN_lt (by omega)
  have he : (idsOf ms)[pickN N (idsOf ms).length]? = some (idOf ms N) := by
    unfold idOf
    rw [List.getD_eq_getElem?_getD, List.getElem?_eq_getElem hp]
    rfl
  exact ⟨hs.ok, hs.mem _ (List.mem_of_getElem? he), he, hc⟩
def BegunPost (R : Raw) (ms : List Mk) (N : Int) (w : World) (e : Ending) (w' : World) : Prop :=
  ∃ T m lv, e = .returned (.tuple #[.pointer (some ⟨T.p, 0, none⟩), .int .i64 (idOf ms N : Nat), .int .i64 (((stoOf ms).txt (idOf ms N)).length : Nat), .bool true]) ∧ T.mc = R.mc ∧ T.back = false ∧ TabOk (stoOf ms) T ∧ St w [] [tabA T, stoA T.s lv m (stoOf ms)] w'
theorem begun_c {P : PoolT} {cv nv av hv lv : Value} {rvs : List Value} {R : Raw} {c : Nat} {ms : List Mk} {N : Int} (h : RawAt P cv nv av hv rvs R) (hR : R.Snd c) (hms : RowIn P mkL 5 lv ms) (hf : ∀ m ∈ ms, m.Fits) (hl : ms.length ≤ 100) (hN : fits64 N) (w : World) (hp : (poolA P).ho w) :
    Calls Try.prog 10 #[.agg #[.int .i64 R.start, cv, nv, av, hv, lv, .int .i64 N]] w (BegunPost R ms N w) := by
  have H := St.nil w []
  have HK := Ks.one hp
  obtain ⟨hok, hid, hget, hcnt⟩ := idOf_le hf N
  obtain ⟨x, hx⟩ := enAt_some hid
  have htl := Sto.txt_len hok hx
  obtain ⟨hmac, hhit⟩ := h.mac hR
  have hst : ((R.mc.start : Nat) : Int) = R.start := by simp [Raw.mc, Int.toNat_of_nonneg hR.s0]
  have HN := Lib.hid (fun w => new_c 1000 (by omega) 1000 rfl w)
  have HAL := Lib.hid (fun w => alive_c w)
  obtain ⟨a1, c1, rfl, hm1⟩ := h.cls.shape
  obtain ⟨a2, c2, rfl, hm2⟩ := h.next.shape
  obtain ⟨a3, c3, rfl, hm3⟩ := h.acc.shape
  obtain ⟨a4, c4, rfl, hm4⟩ := h.wts.shape
  obtain ⟨a5, c5, rfl, hm5⟩ := hms.shape
  have HBU : Hid (∀ p m w, (stoA p (.slice none 0 0) m ⟨1000, []⟩).ho w → (poolA P).ho w → (∀ b ∈ (stoA p (.slice none 0 0) m ⟨1000, []⟩).fp, b ∉ (poolA P).fp) → Calls Try.prog 26 #[.pointer (some ⟨p, 0, none⟩), .slice a5 ms.length c5] w fun e w' => ∃ g cr lv, e = .returned (.tuple #[.slice (some ⟨g, 0, none⟩) (idsOf ms).length cr, .bool true]) ∧ St w (stoA p (.slice none 0 0) m ⟨1000, []⟩).fp [stoA p lv m (stoOf ms), rowsA encI 32 1 (.slice (some ⟨g, 0, none⟩) (idsOf ms).length cr) (idsOf ms)] w') := Lib.hid fun p m w a b hd => by
    refine Calls.mono (lbuild_c 1000 (by omega) (by omega) hf w a b (fun x hx hm => hd x hm hx) hms) ?_
    rintro e w' ⟨rv, lv, rfl, hs⟩
    obtain ⟨g, cr, rfl, _, _⟩ := rowsA_cases (hs.get (A := rowsA encI 32 1 rv (idsOf ms)) (.there .here)) (by omega)
    exact ⟨g, cr, lv, rfl, hs⟩
  have HNEW : Hid (∀ p w, (poolA P).ho w → Calls Try.prog 28 #[.pointer (some ⟨p, 0, none⟩), .agg #[.int .i64 R.start, .slice a1 R.cls.length c1, .slice a2 rvs.length c2, .slice a3 R.acc.length c3], .slice a4 R.wts.length c4, .bool false] w fun e w' => ∃ T, T.mc = R.mc ∧ T.s = p ∧ T.back = false ∧ (∀ S, TabOk S T) ∧ e = .returned (.tuple #[.pointer (some ⟨T.p, 0, none⟩), .nilIface]) ∧ St w [] [tabA T] w') := Lib.hid fun p w hp => by
    rw [← hst]
    refine Calls.mono (tnew_c p false hR.ok hmac hhit w hp) ?_
    rintro e w' ⟨T, q1, q2, q3, q4, q5, q6, q7⟩
    exact ⟨T, q1, q2, q3, q5, q6, q7⟩
  have HPK : Hid (∀ w, Calls Try.prog 29 #[.int .i64 N, .int .i64 (idsOf ms).length] w fun e w' => e = .returned (.int .i64 (pickN N (idsOf ms).length)) ∧ w' = w) := Lib.hid fun w => pickf_c _ _ _ rfl hN (by omega) (by omega) w
  have HW : Hid (∀ p m lv w, (stoA p lv m (stoOf ms)).ho w → Calls Try.prog 30 #[.pointer (some ⟨p, 0, none⟩), .int .i64 (idOf ms N : Nat)] w fun e w' => e = .returned (.tuple #[.agg #[.int .i64 x.w.len, .int .i64 x.w.lines, .int .i64 x.w.head, .int .i64 x.w.tail, .int .u64 x.w.val, .int .u64 x.w.scale], .nilIface]) ∧ St w [] [] w') := Lib.hid fun p m lv w h => weight_c hx w h
  have HGET := Lib.hid hget
  have HTL := Lib.hid htl
  have hpl := getElem_len hget
  have hil : (idsOf ms).length ≤ 101 := by omega
  clear h hR hms hf hN hp hok hx htl hmac hhit hst hget hm1 hm2 hm3 hm4 hm5 hcnt hl
  unfold BegunPost
  generalize hpk : pickN N (idsOf ms).length = pkN at *
  generalize hii : idOf ms N = id at *
  generalize hids : idsOf ms = ids at *
  generalize hSS : stoOf ms = S at *
  clear hpk hii hids hSS
  go_enter Try.func10, Try.ntmps10
  go_wp2_with (first | refine sL ?_ | (refine sS ?_; clear H; intro _ H) | (refine sB ?_; clear H; intro _ _ H) | (refine sA ?_; clear H; intro _ _ H) | (go_at_call 25; with_reducible refine Calls.mono (HN.out _) ?_; rintro e wc ⟨p, m, rfl, hb⟩; replace H := H.call0 hb; clear hb; simp only [List.cons_append, List.nil_append] at H) | (go_at_call 26; with_reducible refine Calls.mono (HBU.out p m _ (H.get (A := stoA p (.slice none 0 0) m ⟨1000, []⟩) pk) (H.known HK pk) (H.apartK HK (A := stoA p (.slice none 0 0) m ⟨1000, []⟩) (B := poolA P) pk pk)) ?_; rintro e wc ⟨g, cr, lv1, rfl, hb⟩; replace H := H.pick (A := stoA p (.slice none 0 0) m ⟨1000, []⟩) pk; replace H := H.call hb; clear hb; simp only [List.cons_append, List.nil_append] at H) | (go_at_call 27; with_reducible refine Calls.mono (HAL.out _) ?_; rintro e wc ⟨rfl, hb⟩; replace H := H.grew hb.below; clear hb) | (go_at_call 28; with_reducible refine Calls.mono (HNEW.out p _ (H.known HK pk)) ?_; rintro e wc ⟨T, hmc, hs, hbk, hokT, rfl, hb⟩; replace H := H.call0 hb; clear hb; simp only [List.cons_append, List.nil_append] at H; have HT := Lib.hid (And.intro hmc (And.intro hs (And.intro hbk hokT))); clear hmc hs hbk hokT) | (go_at_call 29; with_reducible refine same (HPK.out _) ?_) | ((with_reducible refine isLoad ?_); refine AtLoad.cel rfl rfl rfl rfl (rowsA_cell1 (H.get (A := rowsA encI 32 1 (.slice (some ⟨g, 0, none⟩) ids.length cr) ids) pk) encI_len HGET.out rfl) ?_; simp only [Act.put, puA, puB, puC]) | (go_at_call 30; with_reducible refine Calls.mono (HW.out p m lv1 _ (H.get (A := stoA p lv1 m S) pk)) ?_; rintro e wc ⟨rfl, hb⟩; replace H := H.grew hb.below; clear hb))
  refine wp_region_h H 18 [] [] (by kernel_rfl) (by kernel_rfl) ?_
  apply Exists.intro
  refine ⟨fun w1 hw1 HX => ?_, fun bs wr Hr => ?_⟩
  · refine sG ?_
    repeat (first | refine sQ ?_ | fail | go_big_quiet_step (fail))
    exact wpQuiet_nil rfl
  clear H
  have H := Hr
  clear Hr
  replace H := sH H; refine sT ?_
  go_wp2_with (first | refine sL ?_ | (refine sS ?_; clear H; intro _ H) | (refine sB ?_; clear H; intro _ _ H) | (refine sA ?_; clear H; intro _ _ H))
  refine bodyPost_ret (results_tmp4 rfl _ _ _) rfl ?_
  obtain ⟨q1, q2, q3, q4⟩ := HT.out
  refine ⟨T, m, lv1, by rw [HTL.out]; rfl, q1, q3, q4 _, ?_⟩
  rw [q2]
  exact (H.pick2 (A := tabA T) (B := stoA p lv1 m S) pk pk).onlyTwo
end Go.Proofs.Ytijnhpaafhcndaa
end
section
namespace Go.Proofs.Ytijnhpaafhcndaa
open Go.RowKit Go.Maps
attribute [local go_sem] InGr
set_option maxHeartbeats 8000000
set_option maxRecDepth 100000
set_option linter.unusedSimpArgs false
set_option linter.unusedVariables false
theorem count_x {S : Sto} {T T' : Tab} {lv : Value} {m id s n : Nat} (hS : S.Ok) (hb : T.back = false) (hid : id ≤ S.list.length) (hf : s + n ≤ (S.txt id).length) (hx : T.Ext T') (hT' : TabOk S T') (w : World) (h : ((tabA T').sep (stoA T.s lv m S)).ho w) :
    Calls Try.prog 12 #[.pointer (some ⟨T.p, 0, none⟩), .int .i64 id, .int .i64 s, .int .i64 n] w fun e w' => ∃ T'', e = .returned (cntV (S.rsum T.mc id s n)) ∧ T.Ext T'' ∧ TabOk S T'' ∧ St w (tabA T').fp [tabA T''] w' := by
  obtain ⟨x1, x2, x3, x4, x5, x6⟩ := hx.same
  have hc := count_c (lv := lv) (m := m) hS hT' (by rw [x6]; exact hb) hid hf w (by rw [x2]; exact h)
  rw [x1, x5] at hc
  with_reducible refine Calls.mono hc ?_
  rintro e w' ⟨T'', he, hx', hT'', hs⟩
  exact ⟨T'', he, hx.trans hx', hT'', hs⟩
theorem rsum_two (S : Sto) (mc : Mc) (id s a b : Nat) : S.rsum mc id s (a + b) = S.rsum mc id s a + S.rsum mc id (s + a) b := sum_two _ _ _ _ _ _
theorem adds_walk {P : PoolT} {cv nv av hv lv : Value} {rvs : List Value} {R : Raw} {ms : List Mk} {N f n m : Int} (h : RawAt P cv nv av hv rvs R) (hms : RowIn P mkL 5 lv ms) (hf : ∀ m ∈ ms, m.Fits) (hs : fits64 R.start) (hN : fits64 N) (h1 : fits64 f) (h2 : fits64 n) (h3 : fits64 m) (w : World) (hp : (poolA P).ho w) :
    Calls Try.prog 4 #[.agg #[.int .i64 R.start, cv, nv, av, hv, lv, .int .i64 N], .int .i64 f, .agg #[.int .i64 n, .int .i64 m]] w fun e w' => e = .returned (.bool true) ∧ St w [] [] w' := by
  have H := St.nil w []
  have HK := Ks.one hp
  unfold fits64 at hs h1 h2 h3
  have HG := Lib.hid (fun w hp => good_c h hms hs.1 hs.2 (N := N) w hp)
  have HB : Hid (∀ c, R.Snd c → ms.length ≤ 100 → ∀ w, (poolA P).ho w → _) := Lib.hid (fun c hR hl w hp => begun_c h hR hms hf hl hN w hp)
  have HID := Lib.hid (idOf_le hf N)
  obtain ⟨a1, c1, rfl, hm1⟩ := h.cls.shape
  obtain ⟨a2, c2, rfl, hm2⟩ := h.next.shape
  obtain ⟨a3, c3, rfl, hm3⟩ := h.acc.shape
  obtain ⟨a4, c4, rfl, hm4⟩ := h.wts.shape
  obtain ⟨a5, c5, rfl, hm5⟩ := hms.shape
  clear h hms hf hs hN hp hm1 hm2 hm3 hm4 hm5
  go_enter Try.func4, Try.ntmps4
  go_wp2_with (first | refine sL ?_ | (refine sB ?_; clear H; intro _ _ H))
  refine wp_region_h H 6 [] [] (by kernel_rfl) (by kernel_rfl) ?_
  apply Exists.intro
  refine ⟨fun w1 hw1 HX => ?_, fun bs wr Hr => ?_⟩
  · refine sG ?_
    repeat (first | refine sQ ?_ | fail | go_big_quiet_step (fail))
    exact wpQuiet_nil rfl
  clear H
  have H := Hr
  clear Hr
  replace H := sH H; refine sT ?_
  go_wp2_with (first | refine sL ?_ | (refine sB ?_; clear H; intro _ _ H))
  with_reducible refine Calls.mono (HG.out _ (H.known HK pk)) ?_
  rintro e wc ⟨b, rfl, hgood, hb⟩
  replace H := H.grew hb.below
  clear hb
  cases b with
  | false =>
    clear hgood
    go_wp2_with (first | refine sL ?_ | (refine sB ?_; clear H; intro _ _ H))
    go_ret
    exact ⟨rfl, H.nix⟩
  | true =>
    obtain ⟨hl, c, hR⟩ := hgood rfl
    have HR := Lib.hid hR
    have HL := Lib.hid hl
    clear hgood hl hR
    go_wp2_with (first | refine sL ?_ | (refine sB ?_; clear H; intro _ _ H))
    with_reducible refine Calls.mono (HB.out c HR.out HL.out _ (H.known HK pk)) ?_
    rintro e wc ⟨T, mm, lv1, rfl, hmc, hbk, hT, hb⟩
    replace H := H.call0 hb
    clear hb
    simp only [List.cons_append, List.nil_append] at H
    obtain ⟨hok, hid, _, _⟩ := HID.out
    have hmax := txt_max hok hid
    generalize hln : ((stoOf ms).txt (idOf ms N)).length = ln at *
    generalize hii : idOf ms N = id at *
    generalize hSS : stoOf ms = S at *
    have HLN := Lib.hid hln
    have HOK := Lib.hid (And.intro hok (And.intro hid (And.intro hmc (And.intro hbk hT))))
    clear HB HG HID hok hid hln hii hSS hmc hbk hT
    by_cases k1 : f < 0
    · have ek1 : decide (f < 0) = true := by simp; omega
      clear k1
      go_wp2_with (first | refine sL ?_ | (refine sB ?_; clear H; intro _ _ H))
      go_ret
      exact ⟨rfl, H.nix⟩
    have ek1 : decide (f < 0) = false := by simp; omega
    by_cases k2 : n < 0
    · have ek2 : decide (n < 0) = true := by simp; omega
      clear k2
      go_wp2_with (first | refine sL ?_ | (refine sB ?_; clear H; intro _ _ H))
      go_ret
      exact ⟨rfl, H.nix⟩
    have ek2 : decide (n < 0) = false := by simp; omega
    by_cases k3 : m < 0
    · have ek3 : decide (m < 0) = true := by simp; omega
      clear k3
      go_wp2_with (first | refine sL ?_ | (refine sB ?_; clear H; intro _ _ H))
      go_ret
      exact ⟨rfl, H.nix⟩
    have ek3 : decide (m < 0) = false := by simp; omega
    by_cases k4 : (ln : Int) < f
    · have ek4 : decide ((ln : Int) < f) = true := by simp; omega
      clear k4
      go_wp2_with (first | refine sL ?_ | (refine sB ?_; clear H; intro _ _ H))
      go_ret
      exact ⟨rfl, H.nix⟩
    have ek4 : decide ((ln : Int) < f) = false := by simp; omega
    have i1 := IntWalk.i64_in ((ln : Int) - f) (by omega)
    by_cases k5 : (ln : Int) - f < n
    · have ek5 : decide ((ln : Int) - f < n) = true := by simp; omega
      clear k5
      go_wp2_with (first | refine sL ?_ | (refine sB ?_; clear H; intro _ _ H))
      go_ret
      exact ⟨rfl, H.nix⟩
    have ek5 : decide ((ln : Int) - f < n) = false := by simp; omega
    have i2 := IntWalk.i64_in ((ln : Int) - f - n) (by omega)
    by_cases k6 : (ln : Int) - f - n < m
    · have ek6 : decide ((ln : Int) - f - n < m) = true := by simp; omega
      clear k6
      go_wp2_with (first | refine sL ?_ | (refine sB ?_; clear H; intro _ _ H))
      go_ret
      exact ⟨rfl, H.nix⟩
    have ek6 : decide ((ln : Int) - f - n < m) = false := by simp; omega
    obtain ⟨s, rfl⟩ : ∃ s : Nat, f = s := ⟨f.toNat, by omega⟩
    obtain ⟨a, rfl⟩ : ∃ a : Nat, n = a := ⟨n.toNat, by omega⟩
    obtain ⟨d, rfl⟩ : ∃ d : Nat, m = d := ⟨m.toNat, by omega⟩
    have hin : s + a + d ≤ ln := by omega
    have j1 := IntWalk.i64_in ((s : Int) + a) (by omega)
    have j2 := IntWalk.i64_in ((a : Int) + d) (by omega)
    obtain ⟨hok, hid, hmc, hbk, hT⟩ := HOK.out
    have HCA := Lib.hid (fun T' (hx : T.Ext T') (hT' : TabOk S T') w h => count_x (lv := lv1) (m := mm) (s := s) (n := a) hok hbk hid (by rw [HLN.out]; omega) hx hT' w h)
    have HCB := Lib.hid (fun T' (hx : T.Ext T') (hT' : TabOk S T') w h => count_x (lv := lv1) (m := mm) (s := s + a) (n := d) hok hbk hid (by rw [HLN.out]; omega) hx hT' w h)
    have HCC := Lib.hid (fun T' (hx : T.Ext T') (hT' : TabOk S T') w h => count_x (lv := lv1) (m := mm) (s := s) (n := a + d) hok hbk hid (by rw [HLN.out]; omega) hx hT' w h)
    have hsum := rsum_two S T.mc id s a d
    have HX0 := Lib.hid (Tab.Ext.refl T)
    have HT0 := Lib.hid hT
    have HIS := Lib.hid (fun w => is_ev 2 2 (by omega) true rfl w)
    clear k1 k2 k3 k4 k5 k6 hok hid hmc hbk hT HOK i1 i2
    generalize S.rsum T.mc id s a = A at *
    generalize S.rsum T.mc id (s + a) d = B at *
    generalize S.rsum T.mc id s (a + d) = C at *
    have HSUM := Lib.hid hsum
    clear hsum
    have hsum := HSUM.out
    by_cases hA : A ≤ 1152921504606846976
    · by_cases hB : B ≤ 1152921504606846976
      · by_cases hC : C ≤ 1152921504606846976
        · have HC1 : Hid (∀ T', T.Ext T' → TabOk S T' → ∀ w, ((tabA T').sep (stoA T.s lv1 mm S)).ho w → Calls Try.prog 12 #[.pointer (some ⟨T.p, 0, none⟩), .int .i64 id, .int .i64 (s : Nat), .int .i64 (a : Nat)] w fun e w' => ∃ T'', e = .returned (.tuple #[.int .i64 (A : Nat), .nilIface]) ∧ T.Ext T'' ∧ TabOk S T'' ∧ St w (tabA T').fp [tabA T''] w') := Lib.hid fun T' hx hT' w h => by have := HCA.out T' hx hT' w h; (try simp only [Int.natCast_add] at this); simpa only [cntV_in hA] using this
          have HC2 : Hid (∀ T', T.Ext T' → TabOk S T' → ∀ w, ((tabA T').sep (stoA T.s lv1 mm S)).ho w → Calls Try.prog 12 #[.pointer (some ⟨T.p, 0, none⟩), .int .i64 id, .int .i64 ((s : Int) + a), .int .i64 (d : Nat)] w fun e w' => ∃ T'', e = .returned (.tuple #[.int .i64 (B : Nat), .nilIface]) ∧ T.Ext T'' ∧ TabOk S T'' ∧ St w (tabA T').fp [tabA T''] w') := Lib.hid fun T' hx hT' w h => by have := HCB.out T' hx hT' w h; (try simp only [Int.natCast_add] at this); simpa only [cntV_in hB] using this
          have HC3 : Hid (∀ T', T.Ext T' → TabOk S T' → ∀ w, ((tabA T').sep (stoA T.s lv1 mm S)).ho w → Calls Try.prog 12 #[.pointer (some ⟨T.p, 0, none⟩), .int .i64 id, .int .i64 (s : Nat), .int .i64 ((a : Int) + d)] w fun e w' => ∃ T'', e = .returned (.tuple #[.int .i64 (C : Nat), .nilIface]) ∧ T.Ext T'' ∧ TabOk S T'' ∧ St w (tabA T').fp [tabA T''] w') := Lib.hid fun T' hx hT' w h => by have := HCC.out T' hx hT' w h; (try simp only [Int.natCast_add] at this); simpa only [cntV_in hC] using this
          have g1 := IntWalk.i64_in ((A : Int) + B) (by omega)
          have g2 : ((A : Int) + B == (C : Int)) = true := by simp; omega
          clear HCA HCB HCC hsum
          go_wp2_with (first | refine sL ?_ | (refine sB ?_; clear H; intro _ _ H) | (go_at_call 12; with_reducible refine Calls.mono (HC1.out T HX0.out HT0.out _ (sep_mk (H.get (A := tabA T) pk) (H.get (A := stoA T.s lv1 mm S) pk) (H.apart2 (A := tabA T) (B := stoA T.s lv1 mm S) pk pk))) ?_; rintro e wc ⟨T1, rfl, hx1, hT1, hb⟩; replace H := H.pick (A := tabA T) pk; replace H := H.call hb; clear hb; simp only [List.cons_append, List.nil_append] at H; have HX1 := Lib.hid hx1; have HT1 := Lib.hid hT1; clear hx1 hT1) | (go_at_call 12; with_reducible refine Calls.mono (HC2.out T1 HX1.out HT1.out _ (sep_mk (H.get (A := tabA T1) pk) (H.get (A := stoA T.s lv1 mm S) pk) (H.apart2 (A := tabA T1) (B := stoA T.s lv1 mm S) pk pk))) ?_; rintro e wc ⟨T2, rfl, hx2, hT2, hb⟩; replace H := H.pick (A := tabA T1) pk; replace H := H.call hb; clear hb; simp only [List.cons_append, List.nil_append] at H; have HX2 := Lib.hid hx2; have HT2 := Lib.hid hT2; clear hx2 hT2) | (go_at_call 12; with_reducible refine Calls.mono (HC3.out T2 HX2.out HT2.out _ (sep_mk (H.get (A := tabA T2) pk) (H.get (A := stoA T.s lv1 mm S) pk) (H.apart2 (A := tabA T2) (B := stoA T.s lv1 mm S) pk pk))) ?_; rintro e wc ⟨T3, rfl, hx3, hT3, hb⟩; replace H := H.pick (A := tabA T2) pk; replace H := H.call hb; clear hb; simp only [List.cons_append, List.nil_append] at H; have HX3 := Lib.hid hx3; have HT3 := Lib.hid hT3; clear hx3 hT3) | (go_at_call 13; with_reducible refine same (HIS.out _) ?_))
          go_ret
          exact ⟨rfl, H.nix⟩
        · have HC1 : Hid (∀ T', T.Ext T' → TabOk S T' → ∀ w, ((tabA T').sep (stoA T.s lv1 mm S)).ho w → Calls Try.prog 12 #[.pointer (some ⟨T.p, 0, none⟩), .int .i64 id, .int .i64 (s : Nat), .int .i64 (a : Nat)] w fun e w' => ∃ T'', e = .returned (.tuple #[.int .i64 (A : Nat), .nilIface]) ∧ T.Ext T'' ∧ TabOk S T'' ∧ St w (tabA T').fp [tabA T''] w') := Lib.hid fun T' hx hT' w h => by have := HCA.out T' hx hT' w h; (try simp only [Int.natCast_add] at this); simpa only [cntV_in hA] using this
          have HC2 : Hid (∀ T', T.Ext T' → TabOk S T' → ∀ w, ((tabA T').sep (stoA T.s lv1 mm S)).ho w → Calls Try.prog 12 #[.pointer (some ⟨T.p, 0, none⟩), .int .i64 id, .int .i64 ((s : Int) + a), .int .i64 (d : Nat)] w fun e w' => ∃ T'', e = .returned (.tuple #[.int .i64 (B : Nat), .nilIface]) ∧ T.Ext T'' ∧ TabOk S T'' ∧ St w (tabA T').fp [tabA T''] w') := Lib.hid fun T' hx hT' w h => by have := HCB.out T' hx hT' w h; (try simp only [Int.natCast_add] at this); simpa only [cntV_in hB] using this
          have HC3 : Hid (∀ T', T.Ext T' → TabOk S T' → ∀ w, ((tabA T').sep (stoA T.s lv1 mm S)).ho w → Calls Try.prog 12 #[.pointer (some ⟨T.p, 0, none⟩), .int .i64 id, .int .i64 (s : Nat), .int .i64 ((a : Int) + d)] w fun e w' => ∃ T'', e = .returned (.tuple #[.int .i64 0, .iface 42 (.int .i64 2)]) ∧ T.Ext T'' ∧ TabOk S T'' ∧ St w (tabA T').fp [tabA T''] w') := Lib.hid fun T' hx hT' w h => by have := HCC.out T' hx hT' w h; (try simp only [Int.natCast_add] at this); simpa only [cntV_out hC] using this
          have g1 := IntWalk.i64_in ((1152921504606846976 : Int) - B) (by omega)
          have g2 : decide ((1152921504606846976 : Int) - B < (A : Int)) = true := by simp; omega
          clear HCA HCB HCC hsum
          go_wp2_with (first | refine sL ?_ | (refine sB ?_; clear H; intro _ _ H) | (go_at_call 12; with_reducible refine Calls.mono (HC1.out T HX0.out HT0.out _ (sep_mk (H.get (A := tabA T) pk) (H.get (A := stoA T.s lv1 mm S) pk) (H.apart2 (A := tabA T) (B := stoA T.s lv1 mm S) pk pk))) ?_; rintro e wc ⟨T1, rfl, hx1, hT1, hb⟩; replace H := H.pick (A := tabA T) pk; replace H := H.call hb; clear hb; simp only [List.cons_append, List.nil_append] at H; have HX1 := Lib.hid hx1; have HT1 := Lib.hid hT1; clear hx1 hT1) | (go_at_call 12; with_reducible refine Calls.mono (HC2.out T1 HX1.out HT1.out _ (sep_mk (H.get (A := tabA T1) pk) (H.get (A := stoA T.s lv1 mm S) pk) (H.apart2 (A := tabA T1) (B := stoA T.s lv1 mm S) pk pk))) ?_; rintro e wc ⟨T2, rfl, hx2, hT2, hb⟩; replace H := H.pick (A := tabA T1) pk; replace H := H.call hb; clear hb; simp only [List.cons_append, List.nil_append] at H; have HX2 := Lib.hid hx2; have HT2 := Lib.hid hT2; clear hx2 hT2) | (go_at_call 12; with_reducible refine Calls.mono (HC3.out T2 HX2.out HT2.out _ (sep_mk (H.get (A := tabA T2) pk) (H.get (A := stoA T.s lv1 mm S) pk) (H.apart2 (A := tabA T2) (B := stoA T.s lv1 mm S) pk pk))) ?_; rintro e wc ⟨T3, rfl, hx3, hT3, hb⟩; replace H := H.pick (A := tabA T2) pk; replace H := H.call hb; clear hb; simp only [List.cons_append, List.nil_append] at H; have HX3 := Lib.hid hx3; have HT3 := Lib.hid hT3; clear hx3 hT3) | (go_at_call 13; with_reducible refine same (HIS.out _) ?_))
          go_ret
          exact ⟨rfl, H.nix⟩
      · have hC : ¬ C ≤ 1152921504606846976 := by omega
        have HC1 : Hid (∀ T', T.Ext T' → TabOk S T' → ∀ w, ((tabA T').sep (stoA T.s lv1 mm S)).ho w → Calls Try.prog 12 #[.pointer (some ⟨T.p, 0, none⟩), .int .i64 id, .int .i64 (s : Nat), .int .i64 (a : Nat)] w fun e w' => ∃ T'', e = .returned (.tuple #[.int .i64 (A : Nat), .nilIface]) ∧ T.Ext T'' ∧ TabOk S T'' ∧ St w (tabA T').fp [tabA T''] w') := Lib.hid fun T' hx hT' w h => by have := HCA.out T' hx hT' w h; (try simp only [Int.natCast_add] at this); simpa only [cntV_in hA] using this
        have HC2 : Hid (∀ T', T.Ext T' → TabOk S T' → ∀ w, ((tabA T').sep (stoA T.s lv1 mm S)).ho w → Calls Try.prog 12 #[.pointer (some ⟨T.p, 0, none⟩), .int .i64 id, .int .i64 ((s : Int) + a), .int .i64 (d : Nat)] w fun e w' => ∃ T'', e = .returned (.tuple #[.int .i64 0, .iface 42 (.int .i64 2)]) ∧ T.Ext T'' ∧ TabOk S T'' ∧ St w (tabA T').fp [tabA T''] w') := Lib.hid fun T' hx hT' w h => by have := HCB.out T' hx hT' w h; (try simp only [Int.natCast_add] at this); simpa only [cntV_out hB] using this
        have HC3 : Hid (∀ T', T.Ext T' → TabOk S T' → ∀ w, ((tabA T').sep (stoA T.s lv1 mm S)).ho w → Calls Try.prog 12 #[.pointer (some ⟨T.p, 0, none⟩), .int .i64 id, .int .i64 (s : Nat), .int .i64 ((a : Int) + d)] w fun e w' => ∃ T'', e = .returned (.tuple #[.int .i64 0, .iface 42 (.int .i64 2)]) ∧ T.Ext T'' ∧ TabOk S T'' ∧ St w (tabA T').fp [tabA T''] w') := Lib.hid fun T' hx hT' w h => by have := HCC.out T' hx hT' w h; (try simp only [Int.natCast_add] at this); simpa only [cntV_out hC] using this
        clear HCA HCB HCC hsum
        go_wp2_with (first | refine sL ?_ | (refine sB ?_; clear H; intro _ _ H) | (go_at_call 12; with_reducible refine Calls.mono (HC1.out T HX0.out HT0.out _ (sep_mk (H.get (A := tabA T) pk) (H.get (A := stoA T.s lv1 mm S) pk) (H.apart2 (A := tabA T) (B := stoA T.s lv1 mm S) pk pk))) ?_; rintro e wc ⟨T1, rfl, hx1, hT1, hb⟩; replace H := H.pick (A := tabA T) pk; replace H := H.call hb; clear hb; simp only [List.cons_append, List.nil_append] at H; have HX1 := Lib.hid hx1; have HT1 := Lib.hid hT1; clear hx1 hT1) | (go_at_call 12; with_reducible refine Calls.mono (HC2.out T1 HX1.out HT1.out _ (sep_mk (H.get (A := tabA T1) pk) (H.get (A := stoA T.s lv1 mm S) pk) (H.apart2 (A := tabA T1) (B := stoA T.s lv1 mm S) pk pk))) ?_; rintro e wc ⟨T2, rfl, hx2, hT2, hb⟩; replace H := H.pick (A := tabA T1) pk; replace H := H.call hb; clear hb; simp only [List.cons_append, List.nil_append] at H; have HX2 := Lib.hid hx2; have HT2 := Lib.hid hT2; clear hx2 hT2) | (go_at_call 12; with_reducible refine Calls.mono (HC3.out T2 HX2.out HT2.out _ (sep_mk (H.get (A := tabA T2) pk) (H.get (A := stoA T.s lv1 mm S) pk) (H.apart2 (A := tabA T2) (B := stoA T.s lv1 mm S) pk pk))) ?_; rintro e wc ⟨T3, rfl, hx3, hT3, hb⟩; replace H := H.pick (A := tabA T2) pk; replace H := H.call hb; clear hb; simp only [List.cons_append, List.nil_append] at H; have HX3 := Lib.hid hx3; have HT3 := Lib.hid hT3; clear hx3 hT3) | (go_at_call 13; with_reducible refine same (HIS.out _) ?_))
        go_ret
        exact ⟨rfl, H.nix⟩
    · have hC : ¬ C ≤ 1152921504606846976 := by omega
      by_cases hB : B ≤ 1152921504606846976
      · have HC1 : Hid (∀ T', T.Ext T' → TabOk S T' → ∀ w, ((tabA T').sep (stoA T.s lv1 mm S)).ho w → Calls Try.prog 12 #[.pointer (some ⟨T.p, 0, none⟩), .int .i64 id, .int .i64 (s : Nat), .int .i64 (a : Nat)] w fun e w' => ∃ T'', e = .returned (.tuple #[.int .i64 0, .iface 42 (.int .i64 2)]) ∧ T.Ext T'' ∧ TabOk S T'' ∧ St w (tabA T').fp [tabA T''] w') := Lib.hid fun T' hx hT' w h => by have := HCA.out T' hx hT' w h; (try simp only [Int.natCast_add] at this); simpa only [cntV_out hA] using this
        have HC2 : Hid (∀ T', T.Ext T' → TabOk S T' → ∀ w, ((tabA T').sep (stoA T.s lv1 mm S)).ho w → Calls Try.prog 12 #[.pointer (some ⟨T.p, 0, none⟩), .int .i64 id, .int .i64 ((s : Int) + a), .int .i64 (d : Nat)] w fun e w' => ∃ T'', e = .returned (.tuple #[.int .i64 (B : Nat), .nilIface]) ∧ T.Ext T'' ∧ TabOk S T'' ∧ St w (tabA T').fp [tabA T''] w') := Lib.hid fun T' hx hT' w h => by have := HCB.out T' hx hT' w h; (try simp only [Int.natCast_add] at this); simpa only [cntV_in hB] using this
        have HC3 : Hid (∀ T', T.Ext T' → TabOk S T' → ∀ w, ((tabA T').sep (stoA T.s lv1 mm S)).ho w → Calls Try.prog 12 #[.pointer (some ⟨T.p, 0, none⟩), .int .i64 id, .int .i64 (s : Nat), .int .i64 ((a : Int) + d)] w fun e w' => ∃ T'', e = .returned (.tuple #[.int .i64 0, .iface 42 (.int .i64 2)]) ∧ T.Ext T'' ∧ TabOk S T'' ∧ St w (tabA T').fp [tabA T''] w') := Lib.hid fun T' hx hT' w h => by have := HCC.out T' hx hT' w h; (try simp only [Int.natCast_add] at this); simpa only [cntV_out hC] using this
        clear HCA HCB HCC hsum
        go_wp2_with (first | refine sL ?_ | (refine sB ?_; clear H; intro _ _ H) | (go_at_call 12; with_reducible refine Calls.mono (HC1.out T HX0.out HT0.out _ (sep_mk (H.get (A := tabA T) pk) (H.get (A := stoA T.s lv1 mm S) pk) (H.apart2 (A := tabA T) (B := stoA T.s lv1 mm S) pk pk))) ?_; rintro e wc ⟨T1, rfl, hx1, hT1, hb⟩; replace H := H.pick (A := tabA T) pk; replace H := H.call hb; clear hb; simp only [List.cons_append, List.nil_append] at H; have HX1 := Lib.hid hx1; have HT1 := Lib.hid hT1; clear hx1 hT1) | (go_at_call 12; with_reducible refine Calls.mono (HC2.out T1 HX1.out HT1.out _ (sep_mk (H.get (A := tabA T1) pk) (H.get (A := stoA T.s lv1 mm S) pk) (H.apart2 (A := tabA T1) (B := stoA T.s lv1 mm S) pk pk))) ?_; rintro e wc ⟨T2, rfl, hx2, hT2, hb⟩; replace H := H.pick (A := tabA T1) pk; replace H := H.call hb; clear hb; simp only [List.cons_append, List.nil_append] at H; have HX2 := Lib.hid hx2; have HT2 := Lib.hid hT2; clear hx2 hT2) | (go_at_call 12; with_reducible refine Calls.mono (HC3.out T2 HX2.out HT2.out _ (sep_mk (H.get (A := tabA T2) pk) (H.get (A := stoA T.s lv1 mm S) pk) (H.apart2 (A := tabA T2) (B := stoA T.s lv1 mm S) pk pk))) ?_; rintro e wc ⟨T3, rfl, hx3, hT3, hb⟩; replace H := H.pick (A := tabA T2) pk; replace H := H.call hb; clear hb; simp only [List.cons_append, List.nil_append] at H; have HX3 := Lib.hid hx3; have HT3 := Lib.hid hT3; clear hx3 hT3) | (go_at_call 13; with_reducible refine same (HIS.out _) ?_))
        go_ret
        exact ⟨rfl, H.nix⟩
      · have HC1 : Hid (∀ T', T.Ext T' → TabOk S T' → ∀ w, ((tabA T').sep (stoA T.s lv1 mm S)).ho w → Calls Try.prog 12 #[.pointer (some ⟨T.p, 0, none⟩), .int .i64 id, .int .i64 (s : Nat), .int .i64 (a : Nat)] w fun e w' => ∃ T'', e = .returned (.tuple #[.int .i64 0, .iface 42 (.int .i64 2)]) ∧ T.Ext T'' ∧ TabOk S T'' ∧ St w (tabA T').fp [tabA T''] w') := Lib.hid fun T' hx hT' w h => by have := HCA.out T' hx hT' w h; (try simp only [Int.natCast_add] at this); simpa only [cntV_out hA] using this
        have HC2 : Hid (∀ T', T.Ext T' → TabOk S T' → ∀ w, ((tabA T').sep (stoA T.s lv1 mm S)).ho w → Calls Try.prog 12 #[.pointer (some ⟨T.p, 0, none⟩), .int .i64 id, .int .i64 ((s : Int) + a), .int .i64 (d : Nat)] w fun e w' => ∃ T'', e = .returned (.tuple #[.int .i64 0, .iface 42 (.int .i64 2)]) ∧ T.Ext T'' ∧ TabOk S T'' ∧ St w (tabA T').fp [tabA T''] w') := Lib.hid fun T' hx hT' w h => by have := HCB.out T' hx hT' w h; (try simp only [Int.natCast_add] at this); simpa only [cntV_out hB] using this
        have HC3 : Hid (∀ T', T.Ext T' → TabOk S T' → ∀ w, ((tabA T').sep (stoA T.s lv1 mm S)).ho w → Calls Try.prog 12 #[.pointer (some ⟨T.p, 0, none⟩), .int .i64 id, .int .i64 (s : Nat), .int .i64 ((a : Int) + d)] w fun e w' => ∃ T'', e = .returned (.tuple #[.int .i64 0, .iface 42 (.int .i64 2)]) ∧ T.Ext T'' ∧ TabOk S T'' ∧ St w (tabA T').fp [tabA T''] w') := Lib.hid fun T' hx hT' w h => by have := HCC.out T' hx hT' w h; (try simp only [Int.natCast_add] at this); simpa only [cntV_out hC] using this
        clear HCA HCB HCC hsum
        go_wp2_with (first | refine sL ?_ | (refine sB ?_; clear H; intro _ _ H) | (go_at_call 12; with_reducible refine Calls.mono (HC1.out T HX0.out HT0.out _ (sep_mk (H.get (A := tabA T) pk) (H.get (A := stoA T.s lv1 mm S) pk) (H.apart2 (A := tabA T) (B := stoA T.s lv1 mm S) pk pk))) ?_; rintro e wc ⟨T1, rfl, hx1, hT1, hb⟩; replace H := H.pick (A := tabA T) pk; replace H := H.call hb; clear hb; simp only [List.cons_append, List.nil_append] at H; have HX1 := Lib.hid hx1; have HT1 := Lib.hid hT1; clear hx1 hT1) | (go_at_call 12; with_reducible refine Calls.mono (HC2.out T1 HX1.out HT1.out _ (sep_mk (H.get (A := tabA T1) pk) (H.get (A := stoA T.s lv1 mm S) pk) (H.apart2 (A := tabA T1) (B := stoA T.s lv1 mm S) pk pk))) ?_; rintro e wc ⟨T2, rfl, hx2, hT2, hb⟩; replace H := H.pick (A := tabA T1) pk; replace H := H.call hb; clear hb; simp only [List.cons_append, List.nil_append] at H; have HX2 := Lib.hid hx2; have HT2 := Lib.hid hT2; clear hx2 hT2) | (go_at_call 12; with_reducible refine Calls.mono (HC3.out T2 HX2.out HT2.out _ (sep_mk (H.get (A := tabA T2) pk) (H.get (A := stoA T.s lv1 mm S) pk) (H.apart2 (A := tabA T2) (B := stoA T.s lv1 mm S) pk pk))) ?_; rintro e wc ⟨T3, rfl, hx3, hT3, hb⟩; replace H := H.pick (A := tabA T2) pk; replace H := H.call hb; clear hb; simp only [List.cons_append, List.nil_append] at H; have HX3 := Lib.hid hx3; have HT3 := Lib.hid hT3; clear hx3 hT3) | (go_at_call 13; with_reducible refine same (HIS.out _) ?_))
        go_ret
        exact ⟨rfl, H.nix⟩
end Go.Proofs.Ytijnhpaafhcndaa
end
section
namespace Go.Proofs.Ytijnhpaafhcndaa
open Go.ChangeShapes Go.WideShapes Go.ChangeAt Go.RowKit Go.Deep
set_option linter.unusedVariables false
set_option linter.unusedSimpArgs false
set_option maxRecDepth 100000
theorem ownK : ownKnob Try.prog.godebug = none := by kernel_rfl
theorem i64_wf {x : Int} (h : (Lit.int .i64 x).wf = true) : fits64 x := by
  simp [Lit.wf, IntKind.min, IntKind.max, IntKind.signed, IntKind.bits] at h
  unfold fits64
  omega
theorem u8_wf {x : Int} (h : (Lit.int .u8 x).wf = true) : ∃ n : Nat, x = (n : Int) ∧ n < 256 := by
  simp [Lit.wf, IntKind.min, IntKind.max, IntKind.signed, IntKind.bits] at h
  exact ⟨x.toNat, by omega, by omega⟩
section
variable {H : Type} {enc : TypeId × Value → H} {w : World} {base : Nat} {spare : Nat → Bool} {held : Bool}
theorem open_row {α : Type} [Inhabited α] {ec : α → List Value} {k : Nat} (hk : ∀ x, (ec x).length = k) (hk0 : 0 < k) {t e : TypeId} (ht : Try.prog.underlying t = some (.slice e)) (hc : Try.prog.cellsOf e = k) (Ok : α → Prop)
    (el : ∀ n cs y, cs.length = k → DataW.trod enc Try.prog w base spare held n e cs = some y → ∃ x, cs = ec x ∧ Ok x) {fuel : Nat} {cs : List Value} {x : DataW H × List MemPlace} (h : DataW.trod enc Try.prog w base spare held fuel t cs = some x) :
    ∃ (v : Value) (xs : List α) (P : PoolT), cs = [v] ∧ RowIn P ec k v xs ∧ (poolA P).ho w ∧ ∀ x ∈ xs, Ok x := by
  rcases open_slice ht h with ⟨hcs, _⟩ | ⟨a, len, cap, m, n, D, Pl, hcs, _, hl, hm, hmm, _, hx⟩
  · exact ⟨_, [], [], hcs, RowIn.nil 0, poolA_nil w, by simp⟩
  · have hml : len ≤ m := by rw [hmm]; split <;> omega
    rw [hc] at hx
    by_cases h0 : len = 0
    · subst h0
      exact ⟨_, [], [], hcs, ⟨some a, cap, rfl, by simp, fun h => by simp at h⟩, poolA_nil w, by simp⟩
    obtain ⟨b, o, spot⟩ := a
    have key : ∀ i, i < len → ∃ x : α, w.cells? base ((⟨b, o, spot⟩ : Addr).add (i * k)) k = some (ec x) ∧ Ok x := fun i hi => by
      obtain ⟨cs', h1, h2⟩ := hx i (by omega)
      obtain ⟨x, rfl, hok⟩ := el _ _ _ (World.cells?_some h1).2.1 h2
      exact ⟨x, h1, hok⟩
    obtain ⟨f, hf2⟩ := choose_lt (α := α) key
    have hcell : ∀ i, i < len → ∀ j u, (ec (f i))[j]? = some u → w.cell? (((⟨b, o, spot⟩ : Addr).add (i * k)).add j) = some u := fun i hi j u hj => by
      have hj4 : j < k := by have := (List.getElem?_eq_some_iff.1 hj).1; rwa [hk] at this
      have := (World.cells?_some (hf2 i hi).1).2.2 j hj4
      rw [this, hj]
    have hl4 : 0 < (ec (f 0)).length := by rw [hk]; omega
    have hspot : spot = none := by
      have := World.cell?_spot (hcell 0 (by omega) 0 _ (List.getElem?_eq_getElem hl4))
      simpa [Addr.add] using this
    subst hspot
    have hadd : ∀ i j, ((⟨b, o, none⟩ : Addr).add (i * k)).add j = ⟨b, o + (i * k + j), none⟩ := fun i j => by rw [Addr.add_mid, Addr.add_mid]; congr 1; omega
    have hblk : b < w.heap.size := by
      have := block_lt_of_cell (hcell 0 (by omega) 0 _ (List.getElem?_eq_getElem hl4))
      rw [hadd] at this
      exact this
    unfold maxLen at hm
    have hlen : ((List.range len).map f).length = len := by simp
    refine ⟨_, (List.range len).map f, [(b, o, flatG ec ((List.range len).map f))], hcs, ⟨some ⟨b, o, none⟩, cap, by rw [hlen], by rw [hlen]; unfold maxLen; omega, fun _ => ⟨b, o, rfl, by simp⟩⟩, ?_, ?_⟩
    · rw [poolA_ho]
      intro y hy
      simp only [List.mem_singleton] at hy
      subst hy
      refine ⟨hblk, fun jj u hj => ?_⟩
      have hjl := getElem_len hj
      rw [flatG_len ec k hk, hlen] at hjl
      have hi : jj / k < len := by rw [Nat.div_lt_iff_lt_mul hk0]; exact hjl
      have hjk : jj % k < k := Nat.mod_lt _ hk0
      have hget : ((List.range len).map f)[jj / k]? = some (f (jj / k)) := by rw [List.getElem?_map, List.getElem?_range hi]; rfl
      have hfl := flatG_get ec k hk _ (jj / k) _ hget (jj % k) hjk
      have hdm : jj / k * k + jj % k = jj := by have := Nat.div_add_mod jj k; rw [Nat.mul_comm] at this; exact this
      rw [hdm, hj] at hfl
      have := hcell (jj / k) hi (jj % k) u hfl.symm
      rw [hadd, hdm] at this
      exact this
    · intro y hy
      obtain ⟨i, hi, rfl⟩ := List.mem_map.1 hy
      exact (hf2 i (List.mem_range.1 hi)).2
theorem open_ints_row {t e : TypeId} (ht : Try.prog.underlying t = some (.slice e)) (he : Try.prog.underlying e = some (.int .i64)) (hc : Try.prog.cellsOf e = 1) {fuel : Nat} {cs : List Value} {x : DataW H × List MemPlace} (h : DataW.trod enc Try.prog w base spare held fuel t cs = some x) :
    ∃ (v : Value) (xs : List Int) (P : PoolT), cs = [v] ∧ RowIn P encZ 1 v xs ∧ (poolA P).ho w ∧ ∀ x ∈ xs, fits64 x :=
  open_row encZ_len (by omega) ht hc fits64 (fun n cs y hl hy => by
    obtain ⟨z, rfl, _, hz⟩ := DataW.trod_int he hy
    exact ⟨z, rfl, i64_wf hz⟩) h
theorem rows_all {rvs : List Value} (h : ∀ v ∈ rvs, ∃ (xs : List Int) (P : PoolT), RowIn P encZ 1 v xs ∧ (poolA P).ho w) :
    ∃ (nx : List (List Int)) (P : PoolT), rvs.length = nx.length ∧ (∀ (i : Nat) (rv : Value) (r : List Int), rvs[i]? = some rv → nx[i]? = some r → RowIn P encZ 1 rv r) ∧ (poolA P).ho w := by
  induction rvs with
  | nil => exact ⟨[], [], rfl, fun i rv r h => by simp at h, poolA_nil w⟩
  | cons v rvs ih =>
    obtain ⟨nx, P, h1, h2, h3⟩ := ih fun u hu => h u (by simp [hu])
    obtain ⟨xs, Q, h4, h5⟩ := h v (by simp)
    refine ⟨xs :: nx, Q ++ P, by simp [h1], fun i rv r hr hn => ?_, poolA_append h5 h3⟩
    cases i with
    | zero =>
      simp at hr hn
      subst hr hn
      exact h4.mono fun x hx => List.mem_append.2 (.inl hx)
    | succ i =>
      simp at hr hn
      exact (h2 i rv r hr hn).mono fun x hx => List.mem_append.2 (.inr hx)
instance : Inhabited Mk := ⟨⟨0, 0, 0, 0, 0⟩⟩
instance : Inhabited Value := ⟨.nilIface⟩
theorem take5 {α : Type} {cs : List α} (h : cs.length = 5) : ∃ a b c d e, cs = [a, b, c, d, e] := by
  match cs, h with
  | [a, b, c, d, e], _ => exact ⟨a, b, c, d, e, rfl⟩
theorem open_make {n : Nat} {cs : List Value} {y : DataW H × List MemPlace} (hl : cs.length = 5) (h : DataW.trod enc Try.prog w base spare held n 115 cs = some y) : ∃ m : Mk, cs = mkL m ∧ m.Fits := by
  obtain ⟨a, b, c, d, e, rfl⟩ := take5 hl
  obtain ⟨xs, k, _, _, _, hxl, hf⟩ := DataW.trod_struct Try.underlying115 h
  have c3 : Try.prog.cellsOf 3 = 1 := by kernel_rfl
  have c5 : Try.prog.cellsOf 5 = 1 := by kernel_rfl
  have get : ∀ i, i < 5 → ∃ y, xs[i]? = some y := fun i hi => ⟨xs[i]'(by rw [hxl]; exact hi), List.getElem?_eq_getElem _⟩
  obtain ⟨y0, g0⟩ := get 0 (by omega)
  obtain ⟨y1, g1⟩ := get 1 (by omega)
  obtain ⟨y2, g2⟩ := get 2 (by omega)
  obtain ⟨y3, g3⟩ := get 3 (by omega)
  obtain ⟨y4, g4⟩ := get 4 (by omega)
  have f0 : DataW.trod enc Try.prog w base spare held k 3 ((([a, b, c, d, e] : List Value).drop 0).take (Try.prog.cellsOf 3)) = some y0 := (hf 0 _ rfl).trans g0
  rw [c3] at f0
  have f1 : DataW.trod enc Try.prog w base spare held k 5 ((([a, b, c, d, e] : List Value).drop 1).take (Try.prog.cellsOf 5)) = some y1 := (hf 1 _ rfl).trans g1
  rw [c5] at f1
  have f2 : DataW.trod enc Try.prog w base spare held k 3 ((([a, b, c, d, e] : List Value).drop 2).take (Try.prog.cellsOf 3)) = some y2 := (hf 2 _ rfl).trans g2
  rw [c3] at f2
  have f3 : DataW.trod enc Try.prog w base spare held k 3 ((([a, b, c, d, e] : List Value).drop 3).take (Try.prog.cellsOf 3)) = some y3 := (hf 3 _ rfl).trans g3
  rw [c3] at f3
  have f4 : DataW.trod enc Try.prog w base spare held k 3 ((([a, b, c, d, e] : List Value).drop 4).take (Try.prog.cellsOf 3)) = some y4 := (hf 4 _ rfl).trans g4
  rw [c3] at f4
  obtain ⟨z0, e0, _, w0⟩ := DataW.trod_int Try.underlying3 f0
  obtain ⟨z1, e1, _, w1⟩ := DataW.trod_int Try.underlying5 f1
  obtain ⟨z2, e2, _, w2⟩ := DataW.trod_int Try.underlying3 f2
  obtain ⟨z3, e3, _, w3⟩ := DataW.trod_int Try.underlying3 f3
  obtain ⟨z4, e4, _, w4⟩ := DataW.trod_int Try.underlying3 f4
  simp only [List.drop_zero, List.take_succ_cons, List.take_zero, List.drop_succ_cons, List.cons.injEq, and_true] at e0 e1 e2 e3 e4
  obtain ⟨l, rfl, hl8⟩ := u8_wf w1
  subst e0 e1 e2 e3 e4
  exact ⟨⟨z0, l, z2, z3, z4⟩, rfl, ⟨i64_wf w0, hl8, i64_wf w2, i64_wf w3, i64_wf w4⟩⟩
theorem open_input {fuel : Nat} {cs : List Value} {x : DataW H × List MemPlace} (h : DataW.trod enc Try.prog w base spare held fuel 29 cs = some x) :
    ∃ (P : PoolT) (cv nv av hv lv : Value) (rvs : List Value) (R : Raw) (ms : List Mk) (N : Int), cs = [.int .i64 R.start, cv, nv, av, hv, lv, .int .i64 N] ∧ RawAt P cv nv av hv rvs R ∧ RowIn P mkL 5 lv ms ∧ (∀ m ∈ ms, m.Fits) ∧ fits64 R.start ∧ fits64 N ∧ (poolA P).ho w := by
  have c29 : Try.prog.cellsOf 29 = 7 := by kernel_rfl
  have c26 : Try.prog.cellsOf 26 = 4 := by kernel_rfl
  have c22 : Try.prog.cellsOf 22 = 1 := by kernel_rfl
  have c23 : Try.prog.cellsOf 23 = 1 := by kernel_rfl
  have c24 : Try.prog.cellsOf 24 = 1 := by kernel_rfl
  have c27 : Try.prog.cellsOf 27 = 1 := by kernel_rfl
  have c3 : Try.prog.cellsOf 3 = 1 := by kernel_rfl
  have c4 : Try.prog.cellsOf 4 = 1 := by kernel_rfl
  have c115 : Try.prog.cellsOf 115 = 5 := by kernel_rfl
  obtain ⟨y0, y1, y2, y3, n, _, hl, f0, f1, f2, f3⟩ := Joins.trod_struct4 Try.underlying29 h
  rw [c29] at hl
  obtain ⟨a0, a1, a2, a3, a4, a5, a6, rfl⟩ : ∃ a0 a1 a2 a3 a4 a5 a6, cs = [a0, a1, a2, a3, a4, a5, a6] := by
    match cs, hl with
    | [a0, a1, a2, a3, a4, a5, a6], _ => exact ⟨a0, a1, a2, a3, a4, a5, a6, rfl⟩
  simp only [c26, c22, c27, c3, List.drop_zero, List.take_succ_cons, List.take_zero, List.drop_succ_cons] at f0 f1 f2 f3
  obtain ⟨z0, z1, z2, z3, n2, _, _, g0, g1, g2, g3⟩ := Joins.trod_struct4 Try.underlying26 f0
  simp only [c22, c23, c24, c3, List.drop_zero, List.take_succ_cons, List.take_zero, List.drop_succ_cons] at g0 g1 g2 g3
  obtain ⟨st, e0, _, w0⟩ := DataW.trod_int Try.underlying3 g0
  obtain ⟨N, e6, _, w6⟩ := DataW.trod_int Try.underlying3 f3
  obtain ⟨cv, cls, P1, e1, r1, p1, _⟩ := open_ints_row Try.underlying22 Try.underlying3 c3 g1
  obtain ⟨nv, rvs, P2, e2, r2, p2, hrv⟩ := open_row (ec := encV) encV_len (by omega) Try.underlying23 c22 (fun v => ∃ (xs : List Int) (P : PoolT), RowIn P encZ 1 v xs ∧ (poolA P).ho w) (fun n cs y hl hy => by
    obtain ⟨v, xs, P, rfl, hr, hp, _⟩ := open_ints_row Try.underlying22 Try.underlying3 c3 hy
    exact ⟨v, rfl, xs, P, hr, hp⟩) g2
  obtain ⟨av, acc, P3, e3, r3, p3, _⟩ := open_row (ec := encB) encB_len (by omega) Try.underlying24 c4 (fun _ => True) (fun n cs y hl hy => by
    obtain ⟨b, rfl, _⟩ := DataW.trod_bool Try.underlying4 hy
    exact ⟨b, rfl, trivial⟩) g3
  obtain ⟨hv, wts, P4, e4, r4, p4, _⟩ := open_ints_row Try.underlying22 Try.underlying3 c3 f1
  obtain ⟨lv, ms, P5, e5, r5, p5, hms⟩ := open_row (ec := mkL) mkL_len (by omega) Try.underlying27 c115 Mk.Fits (fun n cs y hl hy => open_make hl hy) f2
  obtain ⟨nx, P6, hlen, hrows, p6⟩ := rows_all hrv
  simp only [List.cons.injEq, and_true] at e0 e1 e2 e3 e4 e5 e6
  subst e0 e1 e2 e3 e4 e5 e6
  have i1 : ∀ x ∈ P1, x ∈ P1 ++ (P2 ++ (P3 ++ (P4 ++ (P5 ++ P6)))) := fun x hx => by simp [hx]
  have i2 : ∀ x ∈ P2, x ∈ P1 ++ (P2 ++ (P3 ++ (P4 ++ (P5 ++ P6)))) := fun x hx => by simp [hx]
  have i3 : ∀ x ∈ P3, x ∈ P1 ++ (P2 ++ (P3 ++ (P4 ++ (P5 ++ P6)))) := fun x hx => by simp [hx]
  have i4 : ∀ x ∈ P4, x ∈ P1 ++ (P2 ++ (P3 ++ (P4 ++ (P5 ++ P6)))) := fun x hx => by simp [hx]
  have i5 : ∀ x ∈ P5, x ∈ P1 ++ (P2 ++ (P3 ++ (P4 ++ (P5 ++ P6)))) := fun x hx => by simp [hx]
  have i6 : ∀ x ∈ P6, x ∈ P1 ++ (P2 ++ (P3 ++ (P4 ++ (P5 ++ P6)))) := fun x hx => by simp [hx]
  exact ⟨P1 ++ (P2 ++ (P3 ++ (P4 ++ (P5 ++ P6)))), _, _, _, _, _, rvs, ⟨st, cls, nx, acc, wts⟩, ms, N, rfl, ⟨r1.mono i1, r2.mono i2, hlen, fun i rv r h1 h2 => (hrows i rv r h1 h2).mono i6, r3.mono i3, r4.mono i4⟩, r5.mono i5, hms, i64_wf w0, i64_wf w6, poolA_append p1 (poolA_append p2 (poolA_append p3 (poolA_append p4 (poolA_append p5 p6))))⟩
theorem arg_input {r : Reach} {b0 : Nat} {v : Value} {d : DataW H} {p : List MemPlace} (hv : Value.okWide Try.prog w r b0 29 v) (h : DataW.Trod enc Try.prog w base spare held 29 v d p) :
    ∃ (P : PoolT) (cv nv av hv lv : Value) (rvs : List Value) (R : Raw) (ms : List Mk) (N : Int), v = .agg #[.int .i64 R.start, cv, nv, av, hv, lv, .int .i64 N] ∧ RawAt P cv nv av hv rvs R ∧ RowIn P mkL 5 lv ms ∧ (∀ m ∈ ms, m.Fits) ∧ fits64 R.start ∧ fits64 N ∧ (poolA P).ho w := by
  obtain ⟨cs, rfl, _⟩ := okWide_struct Try.underlying29 hv
  obtain ⟨fuel, hf⟩ := h
  obtain ⟨P, cv, nv, av, hv', lv, rvs, R, ms, N, e, h1⟩ := open_input hf
  refine ⟨P, cv, nv, av, hv', lv, rvs, R, ms, N, ?_, h1⟩
  have e2 : cs.toList = [.int .i64 R.start, cv, nv, av, hv', lv, .int .i64 N] := e
  rw [← e2]
theorem arg_int {r : Reach} {b0 : Nat} {v : Value} {d : DataW H} {p : List MemPlace} (hv : Value.okWide Try.prog w r b0 3 v) (h : DataW.Trod enc Try.prog w base spare held 3 v d p) : ∃ z, v = .int .i64 z ∧ fits64 z := by
  obtain ⟨z, rfl, h1, h2, h3⟩ := open_int Try.underlying3 hv h
  exact ⟨z, rfl, i64_wf h3⟩
theorem arg_two {r : Reach} {b0 : Nat} {v : Value} {d : DataW H} {p : List MemPlace} (hv : Value.okWide Try.prog w r b0 45 v) (h : DataW.Trod enc Try.prog w base spare held 45 v d p) : ∃ y z, v = .agg #[.int .i64 y, .int .i64 z] ∧ fits64 y ∧ fits64 z := by
  obtain ⟨fuel, hf⟩ := h
  obtain ⟨xs, m, _, _, hl, hx, hi⟩ := DataW.trod_array Try.underlying45 hf
  have c45 : Try.prog.cellsOf 45 = 2 := by kernel_rfl
  have c3 : Try.prog.cellsOf 3 = 1 := by kernel_rfl
  rw [c45] at hl
  rw [c3] at hi
  have hagg : ∃ cs, v = .agg cs := by
    cases v <;> first | exact ⟨_, rfl⟩ | (simp [Value.cells] at hl)
  obtain ⟨cs, rfl⟩ := hagg
  have hl2 : cs.toList.length = 2 := hl
  obtain ⟨a, b, hab⟩ : ∃ a b, cs.toList = [a, b] := by
    match cs.toList, hl2 with
    | [a, b], _ => exact ⟨a, b, rfl⟩
  have get : ∀ i, i < 2 → ∃ y, xs[i]? = some y := fun i hi => ⟨xs[i]'(by omega), List.getElem?_eq_getElem _⟩
  obtain ⟨y0, g0⟩ := get 0 (by omega)
  obtain ⟨y1, g1⟩ := get 1 (by omega)
  have f0 := (hi 0 (by omega)).trans g0
  have f1 := (hi 1 (by omega)).trans g1
  have hcs : (Value.agg cs).cells.toList = [a, b] := hab
  rw [hcs] at f0 f1
  obtain ⟨z0, e0, _, w0⟩ := DataW.trod_int Try.underlying3 f0
  obtain ⟨z1, e1, _, w1⟩ := DataW.trod_int Try.underlying3 f1
  simp at e0 e1
  subst e0 e1
  exact ⟨z0, z1, by rw [← hab], i64_wf w0, i64_wf w1⟩
end
end Go.Proofs.Ytijnhpaafhcndaa
end
