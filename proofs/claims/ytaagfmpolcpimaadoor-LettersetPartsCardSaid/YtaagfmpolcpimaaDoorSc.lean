/-
  The sort by least letters, off the shelf: what lies in the row behind it. Conditions: a row of the call's own of fewer than 1000 sets, the library's table as its text lays it.
-/
import Derived.Test.YtaagfmpolcpimaaDoorLs
import Derived.Test.YtaagfmpolcpimaaDoorSo
namespace Go.Proofs.YtaagfmpolcpimaaDoor
open Go.RowKit Go.Shelf
set_option maxHeartbeats 400000
set_option linter.unusedSimpArgs false
set_option linter.unusedVariables false

/-- a set's four cells -/
def enc4 (x : LW) : List Value := (AV x.1).toList
theorem enc4_len (x : LW) : (enc4 x).length = 4 := by simp [enc4, AV_size]
theorem enc4_one (x : LW) : ∀ v ∈ enc4 x, v.oneCell' = true := by
  intro v hv
  have := Array.all_eq_true_iff_forall_mem.1 (AV_one x.1) v (by simpa [enc4] using hv)
  exact this
theorem enc4_arr (x : LW) : (enc4 x).toArray = AV x.1 := by simp [enc4]
theorem lt_cf (x y : LW) : ltOf cf x y = decide (least x.1 < least y.1) := by
  unfold ltOf cf
  rw [Bool.eq_iff_iff]; simp; omega
theorem swo_cf : Sort.SWO (ltOf cf) where
  irrefl x := by rw [lt_cf]; simp
  trans x y z h1 h2 := by rw [lt_cf] at *; simp at *; omega
  ntrans x y z h1 h2 := by rw [lt_cf] at *; simp at *; omega
theorem sorts_below {B : Nat} (w : World) (blk off n : Nat) (d : Array LW) (os : Array Obj) (hB : B ≤ blk) (hblk : blk < w.heap.size) : Below B w (sortWorldK enc4 4 w blk off n d os) := by
  refine ⟨rfl, rfl, rfl, ?_, fun k hk => ?_⟩
  · unfold sortWorldK Sort.grow Sort.putRowK
    simp
  · unfold sortWorldK Sort.grow Sort.putRowK Sort.putRow Sort.mapBlock
    simp only [Sort.heap_ahead]
    rw [Array.getElem?_append_left (by simp; omega), Array.getElem?_modify, if_neg (by omega)]
theorem sort_c (d : Array LW) (blk off cap : Nat) (w : World) (hT : Tab w) (h0 : 0 < blk) (hH : Sort.HoldsK enc4 4 w blk off d) (hblk : blk < w.heap.size) (hsz : d.size < 1000) :
    Calls Tryd.prog 13 #[.slice (some ⟨blk, off, none⟩) d.size cap, .func (.func 14) #[] #[]] w fun e w' => e = .returned (.tuple #[]) ∧
      ∃ d', Sort.PermIn 0 d.size d d' ∧ Sort.SortedIn (ltOf cf) 0 d.size d' ∧ Sort.HoldsK enc4 4 w' blk off d' ∧ ∀ B, B ≤ blk → Below B w w' := by
  have eg : ∀ args w, (callFunc 14 args).run Tryd.prog w = .ok (.enter 14 args) w := enters_of Tryd.func14 (by kernel_rfl) rfl
  have hc : CmpLays Tryd.prog 14 #[] enc4 4 cf blk off d.size w := fun m os dk hdk x y => by
    have hb := sorts_below (B := blk) w blk off m dk os (Nat.le_refl _) hblk
    have := cmp_c x y (sortWorldK enc4 4 w blk off m dk os) (Lib.hid (hT.below hb h0)) (by have := hb.size; omega)
    rw [enc4_arr, enc4_arr]
    exact this
  have hcon := AnyQ.slices_SortFunc Tryd.sortL 4 Tryd.isAgg26 Tryd.sizeOf26 enc4 enc4_len enc4_one cf swo_cf 14 #[] blk off cap d w eg hc hH hblk (by omega)
  change Calls Tryd.prog 13 _ _ _ at hcon
  refine hcon.mono fun e w' ⟨he, d', n, os, h1, h2, h3⟩ => ⟨he, d', h1, h2, ?_, fun B hB => by rw [h3]; exact sorts_below w blk off n d' os hB hblk⟩
  rw [h3]
  refine Sort.holdsK_grow _ _ _ _ _ _ _ (by unfold Sort.putRowK; simp; exact hblk) (Sort.holdsK_putRowK _ _ _ _ _ _ _ (Sort.holdsK_ahead _ _ _ _ _ _ _ hH) h1.1)
end Go.Proofs.YtaagfmpolcpimaaDoor
