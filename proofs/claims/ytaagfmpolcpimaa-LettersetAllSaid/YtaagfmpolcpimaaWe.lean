/-
  The walk of the laws' 'alive': it returns true. No condition.
-/
import Derived.Test.YtaagfmpolcpimaaPop
namespace Go.Proofs.Ytaagfmpolcpimaa
open Go.RowKit
set_option maxHeartbeats 1000000
set_option maxRecDepth 100000
set_option linter.unusedSimpArgs false
set_option linter.unusedVariables false

theorem of_lit_c (zs : List Nat) (hz : ∀ z ∈ zs, z < 256) (hl : zs.length ≤ 1000) (b cap : Nat) (xs : Array Value) (t : TypeId) (w : World) (hb : w.heap[b]? = some (.cells xs t))
    (hx : ∀ i, i < zs.length → xs[i]? = some (.int .u8 (zs.getD i 0 : Nat))) :
    Calls Try.prog 13 #[.slice (some ⟨b, 0, none⟩) zs.length cap] w fun e w' => e = .returned (.agg (AV (ofL zs))) ∧ Below w.heap.size w w' :=
  of_c zs hz (by omega) b 0 cap w (Lib.hid fun i hi => by rw [cell_of_row w b _ _ _ _ hb, Nat.zero_add, hx i hi]) (lt_of_block hb)

theorem bits_97_200 : bit (ofL [97, 200]) 97 = true ∧ bit (ofL [97, 200]) 200 = true ∧ cnt (bit (ofL [97, 200])) 256 = 2 := by
  refine ⟨by rw [bit_ofL]; decide, by rw [bit_ofL]; decide, ?_⟩
  rw [cnt_congr 256 (fun j _ => bit_ofL [97, 200] j)]
  decide +kernel

theorem alive_c (w : World) : Calls Try.prog 16 #[] w fun e w' => e = .returned (.bool true) ∧ Below w.heap.size w w' := by
  obtain ⟨k1, k2, k3⟩ := bits_97_200
  obtain ⟨x, hx⟩ : ∃ x, x = ofL [97, 200] := ⟨_, rfl⟩
  have hxW : W64 x := by rw [hx]; exact ofL_W64 _
  rw [← hx] at k1 k2 k3
  have lit : ∀ i, i < [97, 200].length → (#[.int .u8 97, .int .u8 200] : Array Value)[i]? = some (.int .u8 ([97, 200].getD i 0 : Nat)) := by
    intro i hi
    have : i = 0 ∨ i = 1 := by simp at hi; omega
    rcases this with rfl | rfl <;> rfl
  have HL := Lib.hid lit
  have HX := Lib.hid hx
  have K1 := Lib.hid k1; have K2 := Lib.hid k2; have K3 := Lib.hid k3
  clear lit hx k1 k2 k3
  go_enter Try.func16, Try.ntmps16
  go_wp2_with fail
  refine (of_lit_c [97, 200] (by simp) (by simp) _ 2 _ 5 _ (heap_at _ _ _ rfl) HL.out).mono ?_
  rw [← HX.out]
  rintro e w1 ⟨rfl, hb1⟩
  have B1 := Lib.hid ((grew_alloc w _).trans hb1)
  clear hb1
  go_wp2_with fail
  refine (has_i x hxW 97 (by omega) (by omega) _).mono ?_
  rw [show (97 : Int).toNat = 97 from rfl, K1.out]
  rintro e w2 ⟨rfl, hb2⟩
  have B2 := Lib.hid (B1.out.trans hb2)
  clear hb2
  go_wp2_with fail
  refine (of_lit_c [97, 200] (by simp) (by simp) _ 2 _ 5 _ (heap_at _ _ _ rfl) HL.out).mono ?_
  rw [← HX.out]
  rintro e w3 ⟨rfl, hb3⟩
  have B3 := Lib.hid (B2.out.trans ((grew_alloc w2 _).trans hb3))
  clear hb3
  go_wp2_with fail
  refine (has_i x hxW 200 (by omega) (by omega) _).mono ?_
  rw [show (200 : Int).toNat = 200 from rfl, K2.out]
  rintro e w4 ⟨rfl, hb4⟩
  have B4 := Lib.hid (B3.out.trans hb4)
  clear hb4
  go_wp2_with fail
  refine (of_lit_c [97, 200] (by simp) (by simp) _ 2 _ 5 _ (heap_at _ _ _ rfl) HL.out).mono ?_
  rw [← HX.out]
  rintro e w5 ⟨rfl, hb5⟩
  have B5 := Lib.hid (B4.out.trans ((grew_alloc w4 _).trans hb5))
  clear hb5
  go_wp2_with fail
  refine (len_c x hxW _).mono ?_
  rw [K3.out]
  rintro e w6 ⟨rfl, hb6⟩
  have B6 := Lib.hid (B5.out.trans hb6)
  clear hb6
  go_wp2
  go_ret
  exact ⟨rfl, B6.out⟩
end Go.Proofs.Ytaagfmpolcpimaa
