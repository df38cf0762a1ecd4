/-
  A string is the string of its bytes. No condition.
-/
import Derived.Test.YtaagfmpolcpimaaStr
import Derived.SizedLaws
namespace Go.Proofs.Ytaagfmpolcpimaa
theorem strB_of (b : ByteArray) : ∃ L : List Nat, b = strB L ∧ ∀ x ∈ L, x < 256 := by
  refine ⟨b.data.toList.map UInt8.toNat, ?_, ?_⟩
  · apply ByteArray.ext
    unfold strB
    apply Array.ext'
    have e : ∀ l : List UInt8, l = (l.map UInt8.toNat).map UInt8.ofNat := fun l => by
      induction l with
      | nil => rfl
      | cons x l ih => rw [List.map_cons, List.map_cons, ← ih, UInt8.ofNat_toNat]
    exact e _
  · intro x hx
    obtain ⟨u, _, rfl⟩ := List.mem_map.1 hx
    exact u.toNat_lt
theorem strB_of' (b : ByteArray) (h : b.data.toList.length ≤ reachBytes) : ∃ L : List Nat, b = strB L ∧ (∀ x ∈ L, x < 256) ∧ L.length ≤ 1000000000000000 := by
  obtain ⟨L, rfl, hL⟩ := strB_of b
  refine ⟨L, rfl, hL, ?_⟩
  have h1 := strB_size L
  have h2 : (strB L).data.toList.length = (strB L).size := Array.length_toList
  have h3 := reachBytes_lt
  omega
end Go.Proofs.Ytaagfmpolcpimaa
