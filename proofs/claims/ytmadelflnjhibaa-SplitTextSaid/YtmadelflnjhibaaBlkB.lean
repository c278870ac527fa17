import Derived.Test.YtmadelflnjhibaaBlk
import Derived.Test.YtmadelflnjhibaaRange
import Derived.Shelf.Abstract
import Derived.Shelf.RegionOpen
import Derived.OwnWalkIn
import Derived.TacticsInMore
import Derived.LoopNIn
import Derived.LoopIn
namespace Go.Proofs.Ytmadelflnjhibaa
open Go.RowKit Go.Shelf
attribute [local go_sem] Oper.semAt_some

def encs2 (x : Nat × Nat) : Array Value := #[.int .i64 x.1, .int .i64 x.2]

theorem blocks_any (sums each : Nat) (w : World) : Calls Try.prog 64 #[.int .i64 sums, .int .i64 each] w fun e w' =>
    e = .returned (.func (.func 98) #[] #[.pointer (some ⟨w.heap.size, 0, none⟩), .pointer (some ⟨w.heap.size + 1, 0, none⟩)]) ∧
      (w.alloc (.cells #[.int .i64 sums] 3)).alloc (.cells #[.int .i64 each] 3) = w' := by
  go_enter Try.func64, Try.ntmps64
  go_wp2
  go_ret
  exact ⟨rfl, rfl⟩

def BlkZ (sums each : Nat) (pre : List (Nat × Nat)) (x : Nat × Nat) (_ : World) : Prop := x.1 = each * pre.length ∧ x.1 < sums ∧ x.2 = min each (sums - x.1)
def BlkS (sums each : Nat) (xs : List (Nat × Nat)) : Prop := sums ≤ each * xs.length ∧ (xs ≠ [] → each * (xs.length - 1) < sums)

def BlkRel (sums each B1 B2 : Nat) (J : List (Nat × Nat) → World → Prop) (at_ : Value) (wr : World) : Prop :=
  ∃ (pre : List (Nat × Nat)) (at' : Nat), at_ = .int .i64 at' ∧ at' = min (each * pre.length) sums ∧ J pre wr ∧ wr.cell? ⟨B1, 0, none⟩ = some (.int .i64 sums) ∧ wr.cell? ⟨B2, 0, none⟩ = some (.int .i64 each) ∧ (pre ≠ [] → each * (pre.length - 1) < sums)

set_option maxHeartbeats 1000000 in
theorem blocks_iter (sums each B1 B2 : Nat) (h1 : 1 ≤ each) (he : each ≤ 4096) (hs : sums ≤ 1099511627776) (w : World) (hc1 : w.cell? ⟨B1, 0, none⟩ = some (.int .i64 sums)) (hc2 : w.cell? ⟨B2, 0, none⟩ = some (.int .i64 each)) :
    Iter Try.prog 98 #[.pointer (some ⟨B1, 0, none⟩), .pointer (some ⟨B2, 0, none⟩)] encs2 (fun k => k = B1 ∨ k = B2) (BlkZ sums each) (BlkS sums each) w := by
  intro l J W hE _ hJe hY h0
  have c1 := hE.cell hc1
  have c2 := hE.cell hc2
  have HY := Lib.hid hY
  have HJe := Lib.hid hJe
  clear hY hJe hc1 hc2
  refine callsIn_of_wp Try.func98 rfl trivial ?_ rfl
  simp only [Try.ntmps98, List.size_toArray, List.length_cons, List.length_nil, Nat.reduceAdd, Nat.reduceSub, Array.replicate_succ, Array.replicate_zero, List.push_toArray, List.append_toArray, List.nil_append, List.cons_append]
  gi_wp2
  gi_loopw [4] (fun at_ wr => BlkRel sums each B1 B2 J at_ wr) (fun at_ _ => sums - (intOf at_).toNat)
  case atStart => exact ⟨[], 0, rfl, by simp, h0, c1, c2, fun h => absurd rfl h⟩
  case round =>
    clear c1 c2
    obtain ⟨pre, a, rfl, ha, hJ, c1, c2, hlast⟩ := hrel
    have Ha := Lib.hid ha
    have HJ := Lib.hid hJ
    have Hlast := Lib.hid hlast
    clear ha hJ hlast
    by_cases hlt : a < sums
    · have hax : Hid (a = each * pre.length) := by
        show _ = _
        have := Ha.out
        omega
      by_cases hmin : each ≤ sums - a
      · have hm1 : (each : Int) ≤ (sums : Int) - (a : Int) := by omega
        obtain ⟨fn, tmps, assign, body, hy, hR⟩ := HY.out pre (a, each) wr HJ.out ⟨hax.out, hlt, (Nat.min_eq_left hmin).symm⟩
        dsimp only [encs2] at hy
        have HR := Lib.hid hR
        clear hR
        gi_wp2
        refine ⟨rfl, HR.out.mono ?_⟩
        rintro e W2 ⟨rfl, hJ2, hsz2, hC2⟩
        have d1 : W2.cell? ⟨B1, 0, none⟩ = some (.int .i64 sums) := by rw [World.cell?_of_block (hC2 B1 (.inl rfl) (World.block_lt_of_cell? _ _ c1))]; exact c1
        have d2 : W2.cell? ⟨B2, 0, none⟩ = some (.int .i64 each) := by rw [World.cell?_of_block (hC2 B2 (.inr rfl) (World.block_lt_of_cell? _ _ c2))]; exact c2
        have HJ2 := Lib.hid hJ2
        clear c1 c2 hJ2 hC2 hsz2
        gi_wp2
        go_roundw
        case rel => exact ⟨pre ++ [(a, each)], a + each, by go_num, by (have h5 := hax.out; rw [List.length_append, List.length_singleton, Nat.mul_succ]; omega), HJ2.out, d1, d2, fun _ => by (rw [List.length_append, List.length_singleton, Nat.add_sub_cancel, ← hax.out]; exact hlt)⟩
        case measure => simp [intOf]; omega
      · have hm1 : (sums : Int) - (a : Int) < (each : Int) := by omega
        obtain ⟨fn, tmps, assign, body, hy, hR⟩ := HY.out pre (a, sums - a) wr HJ.out ⟨hax.out, hlt, (Nat.min_eq_right (by omega)).symm⟩
        dsimp only [encs2] at hy
        rw [show ((sums - a : Nat) : Int) = (sums : Int) - (a : Int) from by omega] at hy
        have HR := Lib.hid hR
        clear hR
        gi_wp2
        refine ⟨rfl, HR.out.mono ?_⟩
        rintro e W2 ⟨rfl, hJ2, hsz2, hC2⟩
        have d1 : W2.cell? ⟨B1, 0, none⟩ = some (.int .i64 sums) := by rw [World.cell?_of_block (hC2 B1 (.inl rfl) (World.block_lt_of_cell? _ _ c1))]; exact c1
        have d2 : W2.cell? ⟨B2, 0, none⟩ = some (.int .i64 each) := by rw [World.cell?_of_block (hC2 B2 (.inr rfl) (World.block_lt_of_cell? _ _ c2))]; exact c2
        have HJ2 := Lib.hid hJ2
        clear c1 c2 hJ2 hC2 hsz2
        gi_wp2
        go_roundw
        case rel => exact ⟨pre ++ [(a, sums - a)], sums, by go_num, by (have h5 := hax.out; rw [List.length_append, List.length_singleton, Nat.mul_succ]; omega), HJ2.out, d1, d2, fun _ => by (rw [List.length_append, List.length_singleton, Nat.add_sub_cancel, ← hax.out]; exact hlt)⟩
        case measure => simp [intOf]; omega
    · have hfin : Hid (BlkS sums each pre) := ⟨by have := Ha.out; omega, Hlast.out⟩
      gi_wp2
      go_end0
      exact ⟨⟨_, rfl⟩, pre, hfin.out, HJ.out⟩
end Go.Proofs.Ytmadelflnjhibaa
