import Derived.Test.YtmadelflnjhibaaLeaf
import Derived.BigQuiet
namespace Go.Proofs.Ytmadelflnjhibaa
open Go.RowKit
attribute [local go_sem] Cls.val clsNone clsAll

theorem Ext.drewN {a w : World} (h : Ext a w) (q : Nat) : Ext a (w.drewN q) := ⟨h.os, h.tape, h.output, h.size, fun k hk => Below.block h k hk⟩

/-- Is a set among the first n? -/
def inV (f : Nat → Cls) (c : Cls) (n : Nat) : Prop := ∃ j, j < n ∧ f j = c

def IdxRel (f : Nat → Cls) (c : Cls) (n : Nat) (w0 : World) (i : Value) (wr : World) : Prop :=
  ∃ k : Nat, k ≤ n ∧ i = .int .i64 k ∧ ¬ inV f c k ∧ Ext w0 wr

set_option maxRecDepth 100000 in
set_option maxHeartbeats 1000000 in
theorem index_any (p : Option Addr) (n cap : Nat) (f : Nat → Cls) (c : Cls) (hn : n ≤ 1099511627776) (hcap : n ≤ cap) (w : World) (hr : RdC w p n f) :
    Calls Try.prog 103 #[.slice p n cap, c.val] w fun e w' => ∃ r : Int, e = .returned (.int .i64 r) ∧ ((0 ≤ r ∧ inV f c n) ∨ (r = -1 ∧ ¬ inV f c n)) ∧ Ext w w' := by
  have hE0 := (Ext.refl w).alloc (.cells #[.int .u64 c.w0, .int .u64 c.w1, .int .u64 c.w2, .int .u64 c.w3] 27)
  have hnew := heap_alloc_new w (.cells #[.int .u64 c.w0, .int .u64 c.w1, .int .u64 c.w2, .int .u64 c.w3] 27)
  have Hr := Lib.hid hr
  clear hr
  unfold Cls.val
  go_enter Try.func103, Try.ntmps103
  go_wp2_with fail
  generalize w.alloc (.cells #[.int .u64 c.w0, .int .u64 c.w1, .int .u64 c.w2, .int .u64 c.w3] 27) = W at *
  have HE0 := Lib.hid hE0
  have Hnew := Lib.hid hnew
  clear hnew hE0
  generalize w.heap.size = B at *
  go_loopw [5, 8] (fun _ i wr => IdxRel f c n W i wr) (fun _ i _ => n - (intOf i).toNat)
  case atStart => exact ⟨0, by omega, rfl, by unfold inV; rintro ⟨j, hj, _⟩; omega, Ext.refl _⟩
  case round =>
    obtain ⟨k, hk, rfl, hno, hE⟩ := hrel
    have HE := Lib.hid hE
    have Hno := Lib.hid hno
    obtain ⟨⟨c0, c1, c2, c3⟩, -⟩ := cls_cells (hE.heap Hnew.out)
    clear hE hno
    by_cases hlt : k < n
    · obtain ⟨b, off, rfl, d0, d1, d2, d3⟩ := (Hr.out.ext (HE0.out.trans HE.out)).at hlt
      have heq := fun V => eql_cls c (f k) V
      have b1 : (0 : Int) ≤ (k : Int) := by omega
      have b2 : (k : Int) < (n : Int) := by omega
      by_cases hx : c = f k
      · rw [decide_eq_true hx] at heq
        have Hin : Hid (inV f c n) := ⟨k, hlt, hx.symm⟩
        generalize hd : f k = d at *
        clear hd hx
        go_wp2_with fail
        go_quiet (fail)
        go_wp2_with fail
        go_ret
        exact ⟨_, rfl, .inl ⟨by omega, Hin.out⟩, HE0.out.trans (HE.out.drewN _)⟩
      · rw [decide_eq_false hx] at heq
        have Hno2 : Hid (¬ inV f c (k + 1)) := by
          rintro ⟨j, hj, h⟩
          by_cases e : j = k
          · subst e; exact hx h.symm
          · exact Hno.out ⟨j, by omega, h⟩
        generalize hd : f k = d at *
        clear hd hx
        go_wp2_with fail
        go_quiet (fail)
        go_wp2_with fail
        go_roundw
        case rel => exact ⟨k + 1, by omega, by go_num, Hno2.out, HE.out.drewN _⟩
        case measure => simp [intOf]; omega
    · have e : k = n := by omega
      subst e
      go_wp2_with fail
      go_ret
      exact ⟨-1, rfl, .inr ⟨rfl, Hno.out⟩, HE0.out.trans HE.out⟩

def inB (f : Nat → Cls) (c : Cls) (n : Nat) : Bool := (List.range n).any fun j => decide (f j = c)
theorem inB_iff (f : Nat → Cls) (c : Cls) (n : Nat) : inB f c n = true ↔ inV f c n := by
  unfold inB inV
  rw [List.any_eq_true]
  constructor
  · rintro ⟨j, hj, h⟩
    exact ⟨j, List.mem_range.1 hj, of_decide_eq_true h⟩
  · rintro ⟨j, hj, h⟩
    exact ⟨j, List.mem_range.2 hj, decide_eq_true h⟩

set_option maxRecDepth 100000 in
theorem contains_any (p : Option Addr) (n cap : Nat) (f : Nat → Cls) (c : Cls) (hn : n ≤ 1099511627776) (hcap : n ≤ cap) (w : World) (hr : RdC w p n f) :
    Calls Try.prog 79 #[.slice p n cap, c.val] w fun e w' => e = .returned (.bool (inB f c n)) ∧ Ext w w' := by
  have hE0 := (Ext.refl w).alloc (.cells #[.int .u64 c.w0, .int .u64 c.w1, .int .u64 c.w2, .int .u64 c.w3] 27)
  have Hr := Lib.hid hr
  clear hr
  unfold Cls.val
  go_enter Try.func79, Try.ntmps79
  go_wp2_with fail
  refine (index_any p n cap f c hn hcap _ (Hr.out.ext hE0)).mono ?_
  rintro e w2 ⟨r, rfl, hcase, hE2⟩
  have HE2 := Lib.hid (hE0.trans hE2)
  clear hE0 hE2
  rcases hcase with ⟨h1, h2⟩ | ⟨rfl, h2⟩
  · have H2 := Lib.hid h2
    clear h2
    go_wp2_with fail
    go_ret
    exact ⟨by rw [(inB_iff f c n).2 H2.out]; rfl, HE2.out⟩
  · have H2 := Lib.hid h2
    clear h2
    go_wp2_with fail
    go_ret
    exact ⟨by rw [show inB f c n = false from by rw [Bool.eq_false_iff]; exact fun h => H2.out ((inB_iff f c n).1 h)]; rfl, HE2.out⟩

/-- Which leaves may be. -/
def rightB (f : Nat → Cls) (n : Nat) (K : Int) : Bool := decide (1 ≤ n) && decide (n ≤ 64) && !inB f clsNone n && decide (0 ≤ K) && decide (K ≤ 64)

set_option maxRecDepth 100000 in
set_option maxHeartbeats 1000000 in
theorem right_any (p : Option Addr) (n cap : Nat) (K : Int) (f : Nat → Cls) (hn : n ≤ 1099511627776) (hcap : n ≤ cap) (w : World) (hr : RdC w p n f) :
    Calls Try.prog 86 #[leafVal p n cap K] w fun e w' => e = .returned (.bool (rightB f n K)) ∧ Ext w w' := by
  have hE0 := (Ext.refl w).alloc (.cells #[.slice p n cap, .int .i64 K] 24)
  have hnew := heap_alloc_new w (.cells #[.slice p n cap, .int .i64 K] 24)
  have Hr := Lib.hid hr
  clear hr
  unfold leafVal
  go_enter Try.func86, Try.ntmps86
  go_wp2_with fail
  generalize w.alloc (.cells #[.slice p n cap, .int .i64 K] 24) = W at *
  refine (contains_any p n cap f clsNone hn hcap W (Hr.out.ext hE0)).mono ?_
  rintro e w2 ⟨rfl, hE2⟩
  have c0 : w2.cell? ⟨w.heap.size, 0, none⟩ = some (.slice p n cap) := hE2.cell (cell_of_row _ _ _ _ _ _ hnew)
  have c1 : w2.cell? ⟨w.heap.size, 1, none⟩ = some (.int .i64 K) := hE2.cell (cell_of_row _ _ _ _ _ _ hnew)
  have HE2 := Lib.hid (hE0.trans hE2)
  clear hnew hE0 hE2
  have hval : rightB f n K = (decide (1 ≤ n) && decide (n ≤ 64) && !inB f clsNone n && decide (0 ≤ K) && decide (K ≤ 64)) := rfl
  generalize inB f clsNone n = b at *
  have Hval := Lib.hid hval
  clear hval
  by_cases h1 : (1 : Int) ≤ (n : Int)
  · by_cases h2 : (n : Int) ≤ 64
    · cases b
      · by_cases h3 : (0 : Int) ≤ K
        · go_wp2_with fail
          go_ret
          exact ⟨by rw [Hval.out, decide_eq_true (show 1 ≤ n by omega), decide_eq_true (show n ≤ 64 by omega), decide_eq_true h3]; rfl, HE2.out⟩
        · go_wp2_with fail
          go_ret
          exact ⟨by rw [Hval.out, decide_eq_false (show ¬ (0 : Int) ≤ K by omega)]; simp, HE2.out⟩
      · go_wp2_with fail
        go_ret
        exact ⟨by rw [Hval.out]; simp, HE2.out⟩
    · go_wp2_with fail
      go_ret
      exact ⟨by rw [Hval.out, decide_eq_false (show ¬ n ≤ 64 by omega)]; simp, HE2.out⟩
  · go_wp2_with fail
    go_ret
    exact ⟨by rw [Hval.out, decide_eq_false (show ¬ 1 ≤ n by omega)]; simp, HE2.out⟩
end Go.Proofs.Ytmadelflnjhibaa
