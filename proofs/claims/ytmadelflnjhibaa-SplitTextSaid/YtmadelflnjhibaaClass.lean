import Derived.Test.YtmadelflnjhibaaCorr
namespace Go.Proofs.Ytmadelflnjhibaa
open Go.RowKit

/-- A set of bytes: four words. -/
structure Cls where
  w0 : Int
  w1 : Int
  w2 : Int
  w3 : Int
deriving DecidableEq

namespace Cls
def val (c : Cls) : Value := .agg #[.int .u64 c.w0, .int .u64 c.w1, .int .u64 c.w2, .int .u64 c.w3]
def word (c : Cls) (k : Nat) : Int := if k = 0 then c.w0 else if k = 1 then c.w1 else if k = 2 then c.w2 else c.w3
/-- The words are words. -/
def ok (c : Cls) : Prop := ∀ k, 0 ≤ c.word k ∧ c.word k ≤ 18446744073709551615
end Cls

theorem Cls.cells (c : Cls) {k : Nat} (hk : k < 4) : (#[.int .u64 c.w0, .int .u64 c.w1, .int .u64 c.w2, .int .u64 c.w3] : Array Value)[k]? = some (.int .u64 (c.word k)) := by
  match k, hk with
  | 0, _ => rfl
  | 1, _ => rfl
  | 2, _ => rfl
  | 3, _ => rfl

/-- Is a byte in a set? -/
def has (c : Cls) (b : Nat) : Bool := c.word (b / 64) / 2 ^ (b % 64) % 2 == 1

theorem div_pow_bounds {x : Int} (h0 : 0 ≤ x) (h1 : x ≤ 18446744073709551615) (k : Nat) : 0 ≤ x / 2 ^ k ∧ x / 2 ^ k ≤ 18446744073709551615 := by
  have hp : (0 : Int) < 2 ^ k := Int.pow_pos (by omega)
  refine ⟨Int.ediv_nonneg h0 (Int.le_of_lt hp), Int.le_trans (Int.ediv_le_self _ h0) h1⟩

set_option maxHeartbeats 1000000 in
theorem has_any (c : Cls) (hc : c.ok) (b : Nat) (hb : b < 256) (w : World) :
    Calls Try.prog 48 #[c.val, .int .u8 b] w fun e w' => e = .returned (.bool (has c b)) ∧ Ext w w' := by
  have hcell := c.cells (k := b / 64) (by omega)
  unfold Cls.val
  have q1 : ((b : Int) / 64).toNat = b / 64 := by omega
  have q2 : ((b : Int) % 64).toNat = b % 64 := by omega
  obtain ⟨hx0, hx1⟩ := div_pow_bounds (hc (b / 64)).1 (hc (b / 64)).2 (b % 64)
  have hand := and1_u64 _ hx0 hx1
  go_enter Try.func48, Try.ntmps48
  go_wp2_with fail
  go_ret
  exact ⟨rfl, (Ext.refl w).alloc _⟩

def withV (c : Cls) (b : Nat) : Cls :=
  let x := bits BinOp.or IntKind.u64 (c.word (b / 64)) (IntKind.u64.wrap (2 ^ (b % 64)))
  if b / 64 = 0 then { c with w0 := x } else if b / 64 = 1 then { c with w1 := x } else if b / 64 = 2 then { c with w2 := x } else { c with w3 := x }

set_option maxHeartbeats 2000000 in
theorem with_any (c : Cls) (b : Nat) (hb : b < 256) (w : World) :
    Calls Try.prog 84 #[c.val, .int .u8 b] w fun e w' => e = .returned (withV c b).val ∧ Ext w w' := by
  have hcell := c.cells (k := b / 64) (by omega)
  have q1 : ((b : Int) / 64).toNat = b / 64 := by omega
  have q2 : ((b : Int) % 64).toNat = b % 64 := by omega
  have hk : b / 64 = 0 ∨ b / 64 = 1 ∨ b / 64 = 2 ∨ b / 64 = 3 := by omega
  unfold Cls.val withV
  rcases hk with hk | hk | hk | hk
  all_goals
    rw [hk] at q1 hcell ⊢
    simp only [Cls.word, if_true, show ¬(1 : Nat) = 0 from by decide, show ¬(2 : Nat) = 0 from by decide, show ¬(3 : Nat) = 0 from by decide, show ¬(2 : Nat) = 1 from by decide, show ¬(3 : Nat) = 1 from by decide, show ¬(3 : Nat) = 2 from by decide, if_false] at hcell ⊢
    go_enter Try.func84, Try.ntmps84
    go_wp2_with fail
    exact bodyPost_ret (results_cell_row rfl _ _ (w.heap.size + 1) 27 _ (0, 0) (.array 4 25) rfl (by rw [show w.heap.size + 1 = (w.alloc (.cells #[_, _, _, _] 27)).heap.size from by simp]; exact heap_alloc_new _ _) Try.underlying27 rfl (by kernel_rfl)) rfl ⟨rfl, ((Ext.refl w).alloc _).alloc _⟩

/-- A set that holds nothing. -/
def clsNone : Cls := ⟨0, 0, 0, 0⟩
/-- A set that holds all. -/
def clsAll : Cls := ⟨18446744073709551615, 18446744073709551615, 18446744073709551615, 18446744073709551615⟩

def nf (k j : Nat) : Value := .int .u64 (if j < k then 18446744073709551615 else 0)
def NotRel (B : Nat) (w : World) (i : Value) (wr : World) : Prop :=
  ∃ k : Nat, k ≤ 4 ∧ i = .int .i64 k ∧ Ext w wr ∧ wr.heap[B]? = some (.cells #[nf k 0, nf k 1, nf k 2, nf k 3] 27 (0, 0)) ∧ wr.heap[B + 1]? = some (.cells #[.int .u64 0, .int .u64 0, .int .u64 0, .int .u64 0] 27 (0, 0))

theorem not_zero (w : World) : Calls Try.prog 92 #[clsNone.val] w fun e w' => e = .returned clsAll.val ∧ Ext w w' := by
  unfold Cls.val clsNone clsAll
  obtain ⟨hb1, hb2⟩ := box_cells w (.cells #[.int .u64 0, .int .u64 0, .int .u64 0, .int .u64 0] 27) (.cells #[.int .u64 0, .int .u64 0, .int .u64 0, .int .u64 0] 27)
  have HE := Lib.hid (((Ext.refl w).alloc (.cells #[.int .u64 0, .int .u64 0, .int .u64 0, .int .u64 0] 27)).alloc (.cells #[.int .u64 0, .int .u64 0, .int .u64 0, .int .u64 0] 27))
  have Hb1 := Lib.hid hb1
  have Hb2 := Lib.hid hb2
  clear hb1 hb2
  obtain ⟨B, hB⟩ : ∃ B, w.heap.size = B := ⟨_, rfl⟩
  have HB := Lib.hid hB
  go_enter Try.func92, Try.ntmps92
  go_wp2_with fail
  go_loopw [3, 4] (fun _ i wr => NotRel w.heap.size w i wr) (fun _ i _ => 4 - (intOf i).toNat)
  case atStart => exact ⟨0, by omega, rfl, HE.out, Hb1.out, Hb2.out⟩
  case round =>
    obtain ⟨k, hk, rfl, hE, h1, h2⟩ := hrel
    have HE := Lib.hid hE
    clear Hb1 Hb2 hE
    rw [hB] at h1 h2 ⊢
    have H1 := Lib.hid h1
    have H2 := Lib.hid h2
    match k, hk with
    | 0, _ =>
      have e0 : wr.cell? ⟨B, 0, none⟩ = some (.int .u64 0) := cell_of_row _ _ _ _ _ _ h1
      have f0 : wr.frozen? ⟨B, 0, none⟩ = false := frozen_of_row _ _ _ _ _ h1
      clear h1 h2
      go_wp2_with fail
      go_roundw
      case rel => exact ⟨1, by omega, by go_num, HE.out.setCell (by rw [HB.out]; exact Nat.le_refl _) _, heap_setCell_same _ _ 0 _ _ _ H1.out, (heap_setCell_other _ _ _ _ (by show B + 1 ≠ B; omega)).trans H2.out⟩
      case measure => simp [intOf]
    | 1, _ =>
      have e0 : wr.cell? ⟨B, 1, none⟩ = some (.int .u64 0) := cell_of_row _ _ _ _ _ _ h1
      have f0 : wr.frozen? ⟨B, 1, none⟩ = false := frozen_of_row _ _ _ _ _ h1
      clear h1 h2
      go_wp2_with fail
      go_roundw
      case rel => exact ⟨2, by omega, by go_num, HE.out.setCell (by rw [HB.out]; exact Nat.le_refl _) _, heap_setCell_same _ _ 1 _ _ _ H1.out, (heap_setCell_other _ _ _ _ (by show B + 1 ≠ B; omega)).trans H2.out⟩
      case measure => simp [intOf]
    | 2, _ =>
      have e0 : wr.cell? ⟨B, 2, none⟩ = some (.int .u64 0) := cell_of_row _ _ _ _ _ _ h1
      have f0 : wr.frozen? ⟨B, 2, none⟩ = false := frozen_of_row _ _ _ _ _ h1
      clear h1 h2
      go_wp2_with fail
      go_roundw
      case rel => exact ⟨3, by omega, by go_num, HE.out.setCell (by rw [HB.out]; exact Nat.le_refl _) _, heap_setCell_same _ _ 2 _ _ _ H1.out, (heap_setCell_other _ _ _ _ (by show B + 1 ≠ B; omega)).trans H2.out⟩
      case measure => simp [intOf]
    | 3, _ =>
      have e0 : wr.cell? ⟨B, 3, none⟩ = some (.int .u64 0) := cell_of_row _ _ _ _ _ _ h1
      have f0 : wr.frozen? ⟨B, 3, none⟩ = false := frozen_of_row _ _ _ _ _ h1
      clear h1 h2
      go_wp2_with fail
      go_roundw
      case rel => exact ⟨4, by omega, by go_num, HE.out.setCell (by rw [HB.out]; exact Nat.le_refl _) _, heap_setCell_same _ _ 3 _ _ _ H1.out, (heap_setCell_other _ _ _ _ (by show B + 1 ≠ B; omega)).trans H2.out⟩
      case measure => simp [intOf]
    | 4, _ =>
      have e0 : wr.cell? ⟨B, 0, none⟩ = some (.int .u64 18446744073709551615) := cell_of_row _ _ _ _ _ _ h1
      have g0 : wr.frozen? ⟨B + 1, 0, none⟩ = false := frozen_of_row _ _ _ _ _ h2
      have d0 : wr.cell? ⟨B + 1, 0, none⟩ = some (.int .u64 0) := cell_of_row _ _ _ _ _ _ h2
      have e1 : wr.cell? ⟨B, 1, none⟩ = some (.int .u64 18446744073709551615) := cell_of_row _ _ _ _ _ _ h1
      have g1 : wr.frozen? ⟨B + 1, 1, none⟩ = false := frozen_of_row _ _ _ _ _ h2
      have d1 : wr.cell? ⟨B + 1, 1, none⟩ = some (.int .u64 0) := cell_of_row _ _ _ _ _ _ h2
      have e2 : wr.cell? ⟨B, 2, none⟩ = some (.int .u64 18446744073709551615) := cell_of_row _ _ _ _ _ _ h1
      have g2 : wr.frozen? ⟨B + 1, 2, none⟩ = false := frozen_of_row _ _ _ _ _ h2
      have d2 : wr.cell? ⟨B + 1, 2, none⟩ = some (.int .u64 0) := cell_of_row _ _ _ _ _ _ h2
      have e3 : wr.cell? ⟨B, 3, none⟩ = some (.int .u64 18446744073709551615) := cell_of_row _ _ _ _ _ _ h1
      have g3 : wr.frozen? ⟨B + 1, 3, none⟩ = false := frozen_of_row _ _ _ _ _ h2
      have d3 : wr.cell? ⟨B + 1, 3, none⟩ = some (.int .u64 0) := cell_of_row _ _ _ _ _ _ h2
      clear h1 h2
      go_wp2_with fail
      refine bodyPost_ret (results_cell_row rfl _ _ (B + 1) 27 _ (0, 0) (.array 4 25) rfl (heap_setCell_same _ _ 3 _ _ _ (heap_setCell_same _ _ 2 _ _ _ (heap_setCell_same _ _ 1 _ _ _ (heap_setCell_same _ _ 0 _ _ _ H2.out)))) Try.underlying27 rfl (by kernel_rfl)) rfl ⟨rfl, ?_⟩
      have hs := HB.out
      exact (((HE.out.setCell (by show _ ≤ B + 1; omega) _).setCell (by show _ ≤ B + 1; omega) _).setCell (by show _ ≤ B + 1; omega) _).setCell (by show _ ≤ B + 1; omega) _

attribute [local go_sem] Cls.val clsNone clsAll

theorem cls_cells {W : World} {B : Nat} {x0 x1 x2 x3 : Value} {T : TypeId} (h : W.heap[B]? = some (.cells #[x0, x1, x2, x3] T (0, 0))) :
    (W.cell? ⟨B, 0, none⟩ = some x0 ∧ W.cell? ⟨B, 1, none⟩ = some x1 ∧ W.cell? ⟨B, 2, none⟩ = some x2 ∧ W.cell? ⟨B, 3, none⟩ = some x3) ∧
    W.frozen? ⟨B, 0, none⟩ = false ∧ W.frozen? ⟨B, 1, none⟩ = false ∧ W.frozen? ⟨B, 2, none⟩ = false ∧ W.frozen? ⟨B, 3, none⟩ = false :=
  ⟨⟨cell_of_row _ _ _ _ _ _ h, cell_of_row _ _ _ _ _ _ h, cell_of_row _ _ _ _ _ _ h, cell_of_row _ _ _ _ _ _ h⟩, frozen_of_row _ _ _ _ _ h, frozen_of_row _ _ _ _ _ h, frozen_of_row _ _ _ _ _ h, frozen_of_row _ _ _ _ _ h⟩

theorem cls_stored {W : World} {B : Nat} {x0 x1 x2 x3 : Value} {T : TypeId} (h : W.heap[B]? = some (.cells #[x0, x1, x2, x3] T (0, 0))) (y0 y1 y2 y3 : Value) :
    ((((W.setCell ⟨B, 0, none⟩ y0).setCell ⟨B, 1, none⟩ y1).setCell ⟨B, 2, none⟩ y2).setCell ⟨B, 3, none⟩ y3).heap[B]? = some (.cells #[y0, y1, y2, y3] T (0, 0)) :=
  heap_setCell_same _ _ 3 _ _ _ (heap_setCell_same _ _ 2 _ _ _ (heap_setCell_same _ _ 1 _ _ _ (heap_setCell_same _ _ 0 _ _ _ h)))

theorem Ext.stored {w W : World} (h : Ext w W) {B : Nat} (hB : w.heap.size ≤ B) (y0 y1 y2 y3 : Value) :
    Ext w ((((W.setCell ⟨B, 0, none⟩ y0).setCell ⟨B, 1, none⟩ y1).setCell ⟨B, 2, none⟩ y2).setCell ⟨B, 3, none⟩ y3) :=
  (((h.setCell hB _).setCell hB _).setCell hB _).setCell hB _

theorem full_any (w : World) : Calls Try.prog 59 #[] w fun e w' => e = .returned clsAll.val ∧ Ext w w' := by
  go_enter Try.func59, Try.ntmps59
  go_wp2_with fail
  have hnew := heap_alloc_new w (.cells #[.int .u64 0, .int .u64 0, .int .u64 0, .int .u64 0] 27)
  have hE0 := (Ext.refl w).alloc (.cells #[.int .u64 0, .int .u64 0, .int .u64 0, .int .u64 0] 27)
  refine (not_zero _).mono ?_
  rintro e w1 ⟨rfl, hE⟩
  have h1 := hE.heap hnew
  obtain ⟨⟨c0, c1, c2, c3⟩, f0, f1, f2, f3⟩ := cls_cells h1
  have H1 := Lib.hid h1
  have HE := Lib.hid (hE0.trans hE)
  clear h1 hnew hE hE0
  go_wp2_with fail
  refine bodyPost_ret (results_cell_row rfl _ _ w.heap.size 27 _ (0, 0) (.array 4 25) rfl (cls_stored H1.out _ _ _ _) Try.underlying27 rfl (by kernel_rfl)) rfl ⟨rfl, HE.out.stored (Nat.le_refl _) _ _ _ _⟩

/-- A set's four cells. -/
def ClsAt (W : World) (B o : Nat) (c : Cls) : Prop :=
  W.cell? ⟨B, o, none⟩ = some (.int .u64 c.w0) ∧ W.cell? ⟨B, o + 1, none⟩ = some (.int .u64 c.w1) ∧ W.cell? ⟨B, o + 2, none⟩ = some (.int .u64 c.w2) ∧ W.cell? ⟨B, o + 3, none⟩ = some (.int .u64 c.w3)

theorem ClsAt.ext {w W : World} {B o : Nat} {c : Cls} (h : ClsAt w B o c) (he : Ext w W) : ClsAt W B o c := ⟨he.cell h.1, he.cell h.2.1, he.cell h.2.2.1, he.cell h.2.2.2⟩

theorem run_equalIn_u64 (d : Nat) (a b : Int) (w : World) : (Op.equalIn (d + 1) 25 (.int .u64 a) (.int .u64 b)).run Try.prog w = .ok (a == b) w := by
  simp only [Op.equalIn, Sem.run_bind, run_underlying Try.underlying25, Result.andThen_ok, if_true]
  rfl

theorem run_equalIn_cls (k : Nat) (c d : Cls) (w : World) : (Op.equalIn (k + 2) 27 (.agg #[.int .u64 c.w0, .int .u64 c.w1, .int .u64 c.w2, .int .u64 c.w3]) (.agg #[.int .u64 d.w0, .int .u64 d.w1, .int .u64 d.w2, .int .u64 d.w3])).run Try.prog w = .ok (decide (c = d)) w := by
  have hs : (sizeOf 25).run Try.prog w = .ok 1 w := by kernel_rfl
  have hp : ∀ (a0 a1 a2 a3 : Int), (part 25 #[.int .u64 a0, .int .u64 a1, .int .u64 a2, .int .u64 a3] 0).run Try.prog w = .ok (.int .u64 a0) w ∧ (part 25 #[.int .u64 a0, .int .u64 a1, .int .u64 a2, .int .u64 a3] 1).run Try.prog w = .ok (.int .u64 a1) w ∧ (part 25 #[.int .u64 a0, .int .u64 a1, .int .u64 a2, .int .u64 a3] 2).run Try.prog w = .ok (.int .u64 a2) w ∧ (part 25 #[.int .u64 a0, .int .u64 a1, .int .u64 a2, .int .u64 a3] 3).run Try.prog w = .ok (.int .u64 a3) w := by
    intro a0 a1 a2 a3
    refine ⟨?_, ?_, ?_, ?_⟩ <;> kernel_rfl
  obtain ⟨p0, p1, p2, p3⟩ := hp c.w0 c.w1 c.w2 c.w3
  obtain ⟨q0, q1, q2, q3⟩ := hp d.w0 d.w1 d.w2 d.w3
  have he : ∀ a b : Int, (Op.equalIn (k + 1) 25 (.int .u64 a) (.int .u64 b)).run Try.prog w = .ok (a == b) w := fun a b => run_equalIn_u64 k a b w
  rw [Op.equalIn]
  simp only [Sem.run_bind, run_underlying Try.underlying27, Result.andThen_ok, hs]
  rw [Std.Legacy.Range.forIn_eq_forIn_range']
  simp only [Std.Legacy.Range.size, List.range', List.forIn_cons, List.forIn_nil, Nat.reduceSub, Nat.reduceAdd, Nat.reduceDiv, Nat.mul_one, Sem.run_bind, p0, q0, he, Result.andThen_ok]
  obtain ⟨c0, c1, c2, c3⟩ := c
  obtain ⟨d0, d1, d2, d3⟩ := d
  simp only [Cls.mk.injEq] at *
  by_cases h0 : c0 = d0 <;> by_cases h1 : c1 = d1 <;> by_cases h2 : c2 = d2 <;> by_cases h3 : c3 = d3 <;>
    simp [h0, h1, h2, h3, Sem.run_bind, fun a b c d => (hp a b c d).2.1, fun a b c d => (hp a b c d).2.2.1, fun a b c d => (hp a b c d).2.2.2, he]

theorem eql_cls (c d : Cls) (w : World) : (binOp .eql 27 (.agg #[.int .u64 c.w0, .int .u64 c.w1, .int .u64 c.w2, .int .u64 c.w3]) (.agg #[.int .u64 d.w0, .int .u64 d.w1, .int .u64 d.w2, .int .u64 d.w3])).run Try.prog w = .ok (.bool (decide (c = d))) w := by
  have h : (Op.equal 27 (.agg #[.int .u64 c.w0, .int .u64 c.w1, .int .u64 c.w2, .int .u64 c.w3]) (.agg #[.int .u64 d.w0, .int .u64 d.w1, .int .u64 d.w2, .int .u64 d.w3])).run Try.prog w = .ok (decide (c = d)) w := run_equalIn_cls 9998 c d w
  simp only [binOp, Sem.run_bind, h, Result.andThen_ok]
  rfl
theorem neq_cls (c d : Cls) (w : World) : (binOp .neq 27 (.agg #[.int .u64 c.w0, .int .u64 c.w1, .int .u64 c.w2, .int .u64 c.w3]) (.agg #[.int .u64 d.w0, .int .u64 d.w1, .int .u64 d.w2, .int .u64 d.w3])).run Try.prog w = .ok (.bool (!decide (c = d))) w := by
  have h : (Op.equal 27 (.agg #[.int .u64 c.w0, .int .u64 c.w1, .int .u64 c.w2, .int .u64 c.w3]) (.agg #[.int .u64 d.w0, .int .u64 d.w1, .int .u64 d.w2, .int .u64 d.w3])).run Try.prog w = .ok (decide (c = d)) w := run_equalIn_cls 9998 c d w
  simp only [binOp, Sem.run_bind, h, Result.andThen_ok]
  rfl
theorem free_any (c : Cls) (w : World) : Calls Try.prog 112 #[c.val] w fun e w' => e = .returned (.bool (decide (c = clsAll))) ∧ Ext w w' := by
  have heq := fun W => eql_cls c clsAll W
  simp only [clsAll] at heq
  have hE0 := (Ext.refl w).alloc (.cells #[.int .u64 c.w0, .int .u64 c.w1, .int .u64 c.w2, .int .u64 c.w3] 27)
  have hnew := heap_alloc_new w (.cells #[.int .u64 c.w0, .int .u64 c.w1, .int .u64 c.w2, .int .u64 c.w3] 27)
  go_enter Try.func112, Try.ntmps112
  go_wp2_with fail
  generalize hW : w.alloc (.cells #[.int .u64 c.w0, .int .u64 c.w1, .int .u64 c.w2, .int .u64 c.w3] 27) = W at *
  obtain ⟨⟨c0, c1, c2, c3⟩, -⟩ := cls_cells hnew
  have HE0 := Lib.hid hE0
  clear hnew hE0 hW
  generalize w.heap.size = B at *
  go_region_held3 (fun W' => Ext W W' ∧ W'.cell? ⟨B, 0, none⟩ = some (.int .u64 c.w0) ∧ W'.cell? ⟨B, 1, none⟩ = some (.int .u64 c.w1) ∧ W'.cell? ⟨B, 2, none⟩ = some (.int .u64 c.w2) ∧ W'.cell? ⟨B, 3, none⟩ = some (.int .u64 c.w3)) ((first | exact ⟨Ext.refl W, c0, c1, c2, c3⟩ | exact ⟨(Ext.refl W).drew, c0, c1, c2, c3⟩ | exact ⟨(Ext.refl W).drew.trans hb2, hb2.cell c0, hb2.cell c1, hb2.cell c2, hb2.cell c3⟩)) ((go_at_call 59; refine (full_any _).mono ?_; rintro e w2 ⟨rfl, hb2⟩))
  go_wp2_with fail
  go_ret
  exact ⟨rfl, HE0.out.drew.trans hb2⟩

def RefHasRel (x : Int) (b : Nat) (w : World) (i v : Value) (wr : World) : Prop :=
  ∃ k : Nat, k ≤ b % 64 ∧ i = .int .i64 k ∧ v = .int .u64 (x / 2 ^ k) ∧ Ext w wr

theorem shr_half (x : Int) (k : Nat) : x / 2 ^ k / 2 = x / 2 ^ (k + 1) := by
  rw [Int.ediv_ediv_of_nonneg (Int.le_of_lt (Int.pow_pos (by omega))), Int.pow_succ]

theorem refhas_any (c : Cls) (hc : c.ok) (b : Nat) (hb : b < 256) (w : World) :
    Calls Try.prog 49 #[c.val, .int .u8 b] w fun e w' => e = .returned (.bool (has c b)) ∧ Ext w w' := by
  have hcell := c.cells (k := b / 64) (by omega)
  unfold has
  obtain ⟨x0, x1⟩ := hc (b / 64)
  generalize c.word (b / 64) = x at *
  have q1 : ((b : Int) / 64).toNat = b / 64 := by omega
  have i1 : IntKind.i64.wrap (b : Int) = b := IntWalk.i64_in _ ⟨by omega, by omega⟩
  have X0 := Lib.hid x0
  have X1 := Lib.hid x1
  clear x0 x1
  have HE0 := Lib.hid ((Ext.refl w).alloc (.cells #[.int .u64 c.w0, .int .u64 c.w1, .int .u64 c.w2, .int .u64 c.w3] 27))
  go_enter Try.func49, Try.ntmps49
  go_wp2_with fail
  go_loopw [5, 6] (fun v i wr => RefHasRel x b w i v wr) (fun _ i _ => b % 64 - (intOf i).toNat)
  case atStart => exact ⟨0, by omega, rfl, by simp, HE0.out⟩
  case round =>
    obtain ⟨k, hk, rfl, rfl, hE⟩ := hrel
    obtain ⟨y0, y1⟩ := div_pow_bounds X0.out X1.out k
    by_cases hlt : k < b % 64
    · have hlt' : (k : Int) < (b : Int) % 64 := by omega
      have hp := shr_half x k
      generalize hy : x / 2 ^ k = y at *
      go_wp2_with fail
      go_roundw
      case rel => exact ⟨k + 1, by omega, by go_num, by rw [hp], hE⟩
      case measure => simp [intOf]; omega
    · have e : k = b % 64 := by omega
      subst e
      have hlt' : ¬ (((b % 64 : Nat) : Int) < (b : Int) % 64) := by omega
      generalize hy : x / 2 ^ (b % 64) = y at *
      go_wp2_with fail
      go_ret
      exact ⟨rfl, hE⟩
end Go.Proofs.Ytmadelflnjhibaa
