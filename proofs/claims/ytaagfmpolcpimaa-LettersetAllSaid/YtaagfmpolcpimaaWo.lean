/-
  The iterator that letterset's All hands back: its contract: the letters of the set in order, until a round says no more. Conditions: words of 64 bits.
-/
import Derived.RangeFuncNested
import Derived.RangeFuncBound
import Derived.RangeFuncCalls
import Derived.RangeFuncLeaves
import Derived.Shelf.Abstract
import Derived.OwnWalkIn
import Derived.TacticsInMore
import Derived.LoopNIn
import Derived.LoopIn
import Derived.Test.YtaagfmpolcpimaaWe
namespace Go.Proofs.Ytaagfmpolcpimaa
open Go.RowKit
attribute [local go_sem] Oper.semAt_some
set_option maxHeartbeats 2000000
set_option maxRecDepth 100000
set_option linter.unusedSimpArgs false
set_option linter.unusedVariables false

/-- the letters of the set below k, in order -/
def lst (s : Nat → Nat) : Nat → List (Fin 256)
  | 0 => []
  | k + 1 => if h : k < 256 ∧ bit s k = true then lst s k ++ [⟨k, h.1⟩] else lst s k
theorem lst_yes {s : Nat → Nat} {k : Nat} (h : k < 256) (hb : bit s k = true) : lst s (k + 1) = lst s k ++ [⟨k, h⟩] := by rw [lst, dif_pos ⟨h, hb⟩]
theorem lst_no {s : Nat → Nat} {k : Nat} (hb : bit s k = false) : lst s (k + 1) = lst s k := by rw [lst, dif_neg (by rw [hb]; simp)]
theorem lst_pre (s : Nat → Nat) (k j : Nat) : lst s k <+: lst s (k + j) := by
  induction j with
  | zero => exact List.prefix_refl _
  | succ j ih =>
    refine ih.trans ?_
    show _ <+: lst s (k + j + 1)
    rw [lst]
    split
    · exact List.prefix_append _ _
    · exact List.prefix_refl _
theorem lst_len (s : Nat → Nat) (k : Nat) : (lst s k).length ≤ k := by
  induction k with
  | zero => exact Nat.le_refl _
  | succ k ih =>
    rw [lst]
    split
    · simp; omega
    · omega
/-- the block of the captured set is kept -/
def KpB (B : Nat) (W W' : World) : Prop := W'.heap[B]? = W.heap[B]?

theorem all1_stops (s : Nat → Nat) (hs : W64 s) (n Bs : Nat) (w0 : World) (hB : w0.heap[Bs]? = some (.cells (AV s) 24)) :
    SeqStopsK Fence.wide n Try.prog 33 #[.pointer (some ⟨Bs, 0, none⟩)] (fun x : Fin 256 => #[.int .u8 (x.val : Nat)]) (KpB Bs) (· = lst s 256) (· <+: lst s 256) 256 w0 := by
  intro l J Jx W hW hJ hJx hY h0
  have hBs := lt_of_block hB
  have HB := Lib.hid ((hW.block Bs hBs).trans hB)
  have HY := Lib.hid hY
  have HJ : Hid (∀ pre W W', J pre W → Below W.heap.size W W' → J pre W') := Lib.hid fun pre W W' h hb => hJ pre W W' none h ⟨hb.os, hb.tape, hb.output, hb.size, fun k hk _ => hb.block k hk⟩ (fun r e => by cases e)
  clear hW hB hY hJ hJx
  refine callsIn_of_wp Try.func33 rfl trivial ?_ rfl
  simp only [Try.ntmps33, List.size_toArray, List.length_cons, List.length_nil, Nat.reduceAdd, Nat.reduceSub, Array.replicate_succ, Array.replicate_zero, List.push_toArray, List.append_toArray, List.nil_append, List.cons_append]
  gi_wp2
  gi_loopw [3] (fun b wr => ∃ k : Nat, k ≤ 256 ∧ b = .int .i64 k ∧ J (lst s k) wr ∧ Hid (wr.heap[Bs]? = some (.cells (AV s) 24))) (fun b _ => 256 - (intOf b).toNat)
  case atStart => exact ⟨0, by omega, rfl, h0, HB⟩
  case round =>
    obtain ⟨k, hk, rfl, hJs, HBr⟩ := hrel
    clear HB h0
    by_cases hlt : k < 256
    · cases hbit : bit s k with
      | false =>
        obtain ⟨c0, c1, c2, c3⟩ := AV_cells HBr.out
        have HN := Lib.hid hbit
        gi_wp2_with fail
        refine ⟨trivial, fun h => (by cases h), ?_⟩
        rw [← AV_eq]
        refine (callsIn_wide.2 (has_c s hs k hlt _)).mono ?_
        rw [hbit]
        rintro e w1 ⟨rfl, hb1⟩
        have hJ1 := HJ.out _ _ _ hJs hb1
        have HB1 := Lib.hid (block_below' hb1 HBr.out)
        clear hb1 hJs HBr hbit c0 c1 c2 c3
        gi_wp2_with fail
        refine ⟨fun _ h => (by cases h), ?_⟩
        gi_wp2_with fail
        go_roundw
        case rel => exact ⟨k + 1, by omega, by go_num, by rw [lst_no HN.out]; exact hJ1, HB1⟩
        case measure => simp [intOf]; omega
      | true =>
        obtain ⟨c0, c1, c2, c3⟩ := AV_cells HBr.out
        have HN := Lib.hid hbit
        gi_wp2_with fail
        refine ⟨trivial, fun h => (by cases h), ?_⟩
        rw [← AV_eq]
        refine (callsIn_wide.2 (has_c s hs k hlt _)).mono ?_
        rw [hbit]
        rintro e w1 ⟨rfl, hb1⟩
        have hJ1 := HJ.out _ _ _ hJs hb1
        have HB1 := Lib.hid (block_below' hb1 HBr.out)
        clear hb1 hJs HBr hbit c0 c1 c2 c3
        obtain ⟨fn, tmps, assign, body, hy, hR⟩ := HY.out (lst s k) ⟨k, hlt⟩ w1 hJ1 (by have := lst_len s k; omega)
        dsimp only at hy
        gi_wp2_with fail
        refine ⟨fun h => (by cases h), ?_⟩
        have HKP : Hid (∀ W', KpB Bs w1 W' → W'.heap[Bs]? = some (.cells (AV s) 24)) := Lib.hid fun W' h => Eq.trans h HB1.out
        refine hR.mono ?_
        clear hR hy hJ1
        rintro e w2 (⟨rfl, hJ2, hk2⟩ | ⟨rfl, hx2⟩)
        · have HB2 := Lib.hid (HKP.out _ hk2)
          clear hk2 HKP
          gi_wp2_with fail
          go_roundw
          case rel => exact ⟨k + 1, by omega, by go_num, by rw [lst_yes hlt HN.out]; exact hJ2, HB2⟩
          case measure => simp [intOf]; omega
        · gi_wp2_with fail
          refine bodyPost_ret (results_none rfl _ _ _) rfl ?_
          exact ⟨⟨_, rfl⟩, .inr ⟨_, by rw [← lst_yes hlt HN.out]; have := lst_pre s (k + 1) (255 - k); rwa [show k + 1 + (255 - k) = 256 by omega] at this, hx2⟩⟩
    · obtain rfl : k = 256 := by omega
      gi_wp2_with fail
      go_end0
      exact ⟨⟨_, rfl⟩, .inl ⟨_, rfl, hJs⟩⟩
end Go.Proofs.Ytaagfmpolcpimaa
