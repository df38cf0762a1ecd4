/-
  The walk of the reference's Alike: what it returns. Conditions: a row of sets, letters below 256.
-/
import Derived.Test.YtaagfmpolcpimaaDoorWb
import Derived.Deep.LoopGhost
import Derived.Deep.QuietTactic
import Derived.BigQuiet
namespace Go.Proofs.YtaagfmpolcpimaaDoor
open Go.RowKit
set_option maxHeartbeats 2000000
set_option maxRecDepth 100000
set_option linter.unusedSimpArgs false
set_option linter.unusedVariables false

/-- all sets hold both letters or neither -/
def alike (M : List (Nat → Bool)) (a b : Nat) : Bool := M.all fun m => m a == m b
/-- the sets lie in the row, one behind the other -/
def RdB (w : World) (v : Value) (M : List (Nat → Bool)) : Prop :=
  (M = [] ∧ ∃ a cap, v = .slice a 0 cap) ∨ ∃ g cap, v = .slice (some ⟨g, 0, none⟩) M.length cap ∧ g < w.heap.size ∧ ∀ i m, M[i]? = some m → ∀ c, c < 256 → w.cell? ⟨g, i * 256 + c, none⟩ = some (.bool (m c))
theorem alike_c (M : List (Nat → Bool)) (hM : M.length ≤ 1000) (a b : Nat) (ha : a < 256) (hb : b < 256) (v : Value) (w : World) (HR : RdB w v M) :
    Calls Tryd.prog 16 #[v, .int .i64 a, .int .i64 b] w fun e w' => e = .returned (.bool (alike M a b)) ∧ Below w.heap.size w w' := by
  rcases HR with ⟨rfl, ad, cap, rfl⟩ | ⟨g, cap, rfl, hg, HC⟩
  · go_enter Tryd.func16, Tryd.ntmps16
    go_wp2_with fail
    go_loopg [7] 0 (fun g i wr => i = .int .i64 0 ∧ g = 0 ∧ wr = w)
    case atStart => exact ⟨rfl, rfl, rfl⟩
    case round =>
      obtain ⟨rfl, rfl, rfl⟩ := hrel
      go_wp2
      go_ret
      exact ⟨rfl, Below.refl _ _⟩
  · have HC := Lib.hid HC
    go_enter Tryd.func16, Tryd.ntmps16
    go_wp2_with fail
    go_loopg [7] M.length (fun gh i wr => ∃ k : Nat, k ≤ M.length ∧ i = .int .i64 k ∧ gh = M.length - k ∧ Hid (Grew w wr) ∧ Hid (alike M a b = alike (M.drop k) a b))
    case atStart => exact ⟨0, by omega, rfl, by omega, Lib.hid (Below.refl _ _), Lib.hid (by rw [List.drop_zero])⟩
    case round =>
      obtain ⟨k, hk, rfl, rfl, HG, HA⟩ := hrel
      by_cases hlt : k < M.length
      · obtain ⟨m, hm⟩ : ∃ m, M[k]? = some m := ⟨_, List.getElem?_eq_getElem hlt⟩
        have c1 := (HG.out.cell (p := ⟨g, k * 256 + a, none⟩) (by omega)).trans (HC.out k m hm a ha)
        have c2 := (HG.out.cell (p := ⟨g, k * 256 + b, none⟩) (by omega)).trans (HC.out k m hm b hb)
        have hstep : alike (M.drop k) a b = ((m a == m b) && alike (M.drop (k + 1)) a b) := by
          have : M.drop k = m :: M.drop (k + 1) := by
            obtain ⟨h1, h2⟩ := List.getElem?_eq_some_iff.1 hm
            rw [← h2, List.drop_eq_getElem_cons h1]
          rw [this]; rfl
        have HST := Lib.hid hstep
        clear hm hstep
        generalize m a = x at c1 HST
        generalize m b = y at c2 HST
        have HG2 := HG
        cases x <;> cases y
        all_goals go_wp2_with fail
        all_goals go_quiet (fail)
        all_goals clear c1 c2
        all_goals go_wp2_with fail
        · go_roundg (M.length - (k + 1))
          case measure => omega
          case rel => exact ⟨k + 1, by omega, by go_num, rfl, Lib.hid (HG.out.trans (below_drewN (Below.refl _ _) _)), Lib.hid (by rw [HA.out, HST.out]; rfl)⟩
        · go_ret
          exact ⟨congrArg (fun x => Ending.returned (.bool x)) (by rw [HA.out, HST.out]; rfl), HG.out.trans (below_drewN (Below.refl _ _) _)⟩
        · go_ret
          exact ⟨congrArg (fun x => Ending.returned (.bool x)) (by rw [HA.out, HST.out]; rfl), HG.out.trans (below_drewN (Below.refl _ _) _)⟩
        · go_roundg (M.length - (k + 1))
          case measure => omega
          case rel => exact ⟨k + 1, by omega, by go_num, rfl, Lib.hid (HG.out.trans (below_drewN (Below.refl _ _) _)), Lib.hid (by rw [HA.out, HST.out]; rfl)⟩
      · have hk2 : k = M.length := by omega
        have HE : Hid (true = alike M a b) := Lib.hid (by rw [HA.out, hk2, List.drop_length]; rfl)
        clear hk2
        go_wp2_with fail
        go_ret
        exact ⟨congrArg (fun x => Ending.returned (.bool x)) HE.out, HG.out⟩
end Go.Proofs.YtaagfmpolcpimaaDoor
