/-
  The arguments' readings: a set of letters by value. No condition.
-/
import Derived.Test.YtaagfmpolcpimaaPure
import Derived.ProofKit
import Derived.OpenShut
import Derived.ShutString
import Derived.ChangeOld
namespace Go.Proofs.Ytaagfmpolcpimaa
open Go.ChangeShapes Go.WideShapes Go.ChangeAt Go.RowKit
open Go.ChangeMaps (open_string shut_string)
set_option linter.unusedVariables false

theorem own : ownKnob Try.prog.godebug = none := by kernel_rfl
theorem laidOut : laidOutB Try.prog = true := by kernel_rfl

theorem u64_nat {x : Int} (h : (Lit.int .u64 x).wf = true) : ∃ n : Nat, x = (n : Int) ∧ n < 18446744073709551616 := by
  simp [Lit.wf, IntKind.min, IntKind.max, IntKind.signed, IntKind.bits] at h
  exact ⟨x.toNat, by omega, by omega⟩
theorem u8_nat {x : Int} (h : (Lit.int .u8 x).wf = true) : ∃ n : Nat, x = (n : Int) ∧ n < 256 := by
  simp [Lit.wf, IntKind.min, IntKind.max, IntKind.signed, IntKind.bits] at h
  exact ⟨x.toNat, by omega, by omega⟩

section
variable {H : Type} {enc : TypeId × Value → H} {w : World} {base : Nat} {spare : Nat → Bool} {held : Bool}
theorem letters_list {fuel : Nat} {l : List Value} {x : DataW H × List MemPlace} (hf : DataW.trod enc Try.prog w base spare held fuel 24 l = some x) : ∃ s : Nat → Nat, W64 s ∧ l = (AV s).toList := by
  obtain ⟨xs, m, _, _, hl, hx, hi⟩ := DataW.trod_array Try.underlying24 hf
  have hc : Try.prog.cellsOf 24 = 4 := by kernel_rfl
  have hc2 : Try.prog.cellsOf 22 = 1 := by kernel_rfl
  rw [hc] at hl
  rw [hc2] at hi
  have one : ∀ i, i < 4 → ∃ n : Nat, n < 18446744073709551616 ∧ l[i]? = some (.int .u64 n) := fun i hi4 => by
    have h1 := hi i hi4
    have hlt : i < l.length := by omega
    have hs : (l.drop (i * 1)).take 1 = [l[i]] := by
      rw [Nat.mul_one, List.drop_eq_getElem_cons hlt]; rfl
    rw [hs] at h1
    obtain ⟨y, hy⟩ : ∃ y, xs[i]? = some y := ⟨xs[i]'(by omega), List.getElem?_eq_getElem _⟩
    rw [hy] at h1
    obtain ⟨x, e, _, wx⟩ := DataW.trod_int Try.underlying22 h1
    obtain ⟨n, rfl, hn⟩ := u64_nat wx
    simp at e
    exact ⟨n, hn, by rw [List.getElem?_eq_getElem hlt, e]⟩
  obtain ⟨n0, b0, e0⟩ := one 0 (by omega)
  obtain ⟨n1, b1, e1⟩ := one 1 (by omega)
  obtain ⟨n2, b2, e2⟩ := one 2 (by omega)
  obtain ⟨n3, b3, e3⟩ := one 3 (by omega)
  refine ⟨fun k => match k with | 0 => n0 | 1 => n1 | 2 => n2 | 3 => n3 | _ => 0, fun k => ?_, ?_⟩
  · match k with
    | 0 => exact b0
    | 1 => exact b1
    | 2 => exact b2
    | 3 => exact b3
    | _ + 4 => exact Nat.zero_lt_succ _
  · apply List.ext_getElem?
    intro i
    by_cases hi4 : i < 4
    · have hg := fun s => (Array.getElem?_toList (xs := AV s) (i := i)).trans (AV_get s i hi4)
      rw [hg]
      have : i = 0 ∨ i = 1 ∨ i = 2 ∨ i = 3 := by omega
      rcases this with rfl | rfl | rfl | rfl
      · exact e0
      · exact e1
      · exact e2
      · exact e3
    · rw [List.getElem?_eq_none (by omega), List.getElem?_eq_none (by simp [AV_size]; omega)]
theorem open_letters {v : Value} {d : DataW H} {p : List MemPlace} (h : DataW.Trod enc Try.prog w base spare held 24 v d p) : ∃ s : Nat → Nat, W64 s ∧ v = .agg (AV s) := by
  obtain ⟨fuel, hf⟩ := h
  obtain ⟨s, hs, hl⟩ := letters_list hf
  refine ⟨s, hs, ?_⟩
  have hv : ∃ cs, v = .agg cs := by
    have := congrArg List.length hl
    cases v <;> first | exact ⟨_, rfl⟩ | (simp [Value.cells, AV_size] at this)
  obtain ⟨cs, rfl⟩ := hv
  exact congrArg Value.agg (Array.ext' hl)

theorem open_bytes {r : Reach} {b0 : Nat} {v : Value} {d : DataW H} {p : List MemPlace} (hv : Value.okWide Try.prog w r b0 38 v) (h : DataW.Trod enc Try.prog w base spare held 38 v d p) :
    (∃ a cap, v = .slice a 0 cap) ∨ (∃ (zs : List Nat) (b o cap : Nat), v = .slice (some ⟨b, o, none⟩) zs.length cap ∧ (∀ z ∈ zs, z < 256) ∧ zs.length ≤ 9223372036854775807 ∧
      (∀ i, i < zs.length → w.cell? ⟨b, o + i, none⟩ = some (.int .u8 (zs.getD i 0 : Nat))) ∧ b < w.heap.size) := by
  obtain ⟨a0, len, cap, rfl⟩ := okWide_slice Try.underlying38 hv
  by_cases h0 : len = 0
  · subst h0; exact .inl ⟨_, _, rfl⟩
  obtain ⟨fuel, hf⟩ := h
  rcases open_ints Try.underlying38 Try.underlying5 (by kernel_rfl) hf with ⟨hcs, _⟩ | ⟨x, l, c, zs, hcs, _, hl, hm, hz, _, hcell, hwz⟩
  · simp [Value.cells] at hcs
    omega
  · simp [Value.cells] at hcs
    obtain ⟨rfl, rfl, rfl⟩ := hcs
    have hz' : len ≤ zs.length ∧ zs.length ≤ cap := by rw [hz]; split <;> omega
    obtain ⟨b, o, spot⟩ := x
    have hc0 := hcell 0 (by omega)
    have hspot : spot = none := by simpa [Addr.add] using World.cell?_spot hc0
    subst hspot
    have hnat : ∀ n ∈ zs, ∃ m : Nat, n = (m : Int) ∧ m < 256 := fun n hn => u8_nat (hwz n hn)
    unfold maxLen at hm
    refine .inr ⟨(zs.take len).map Int.toNat, b, o, cap, ?_, ?_, ?_, ?_, block_lt_of_cell hc0⟩
    · simp; omega
    · intro z hz
      obtain ⟨n, hn, rfl⟩ := List.mem_map.1 hz
      obtain ⟨m, rfl, hm'⟩ := hnat n (List.mem_of_mem_take hn)
      simpa using hm'
    · simp; omega
    · intro i hi
      have hi' : i < len := by simp at hi; omega
      have hc := hcell i (by omega)
      rw [Addr.add_lit] at hc
      rw [hc]
      have h1 : i < zs.length := by omega
      have hget : zs.getD i 0 = zs[i] := by simp [List.getD, h1]
      obtain ⟨m, hm', _⟩ := hnat zs[i] (List.getElem_mem _)
      have e : ((zs.take len).map Int.toNat).getD i 0 = m := by
        simp [List.getD, hi', h1, hm']
      rw [hget]
      rw [e, hm']
end
end Go.Proofs.Ytaagfmpolcpimaa
