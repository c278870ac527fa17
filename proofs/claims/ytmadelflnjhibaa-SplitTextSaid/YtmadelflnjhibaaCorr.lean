import Derived.Test.YtmadelflnjhibaaBlkB
namespace Go.Proofs.Ytmadelflnjhibaa
open Go.RowKit

theorem gen_world {P : Program} {f : FuncId} {args : Array Value} {R : Ending → World → Prop} {w : World} (F : World → Prop) (hf : F w) (h : ∀ W, F W → Calls P f args W R) : Calls P f args w R := h w hf

theorem cell_new (w : World) (v : Value) (T : TypeId) : (w.alloc (.cells #[v] T)).cell? ⟨w.heap.size, 0, none⟩ = some v := cell_of_row _ _ _ _ _ _ (heap_alloc_new w _)

set_option maxRecDepth 100000 in
set_option maxHeartbeats 1000000 in
theorem corr_no (m n : Nat) (size : Int) (h1 : 1 ≤ m) (h2 : n < m) (p q : Option Addr) (c d : Nat) (w : World) :
    Calls Try.prog 30 #[.slice p m c, .slice q n d, .int .i64 size] w fun e w' => e = .returned (.tuple #[.slice none 0 0, .int .i64 0, .int .i64 0]) ∧ Ext w w' := by
  go_enter Try.func30, Try.ntmps30
  go_wp2_with fail
  go_region
  go_wp2_with fail
  refine (bcheck_no m n size h1 h2 _ _ _ _ _).mono ?_
  rintro e w1 ⟨rfl, rfl⟩
  go_wp2_with fail
  refine (slides_no m n h1 h2 _).mono ?_
  rintro e w1 ⟨rfl, rfl⟩
  go_wp2
  go_ret3
  exact ⟨rfl, (by repeat (first | exact Ext.refl _ | refine Ext.drew ?_ | refine Ext.alloc ?_ _ | refine Ext.setCell ?_ (by simp; done) _ | refine Ext.setCell ?_ (by simp; omega) _))⟩

set_option maxRecDepth 100000 in
set_option maxHeartbeats 1000000 in
theorem corr_bad (m n : Nat) (size : Int) (h1 : 1 ≤ m) (h2 : m ≤ n) (h3 : szOk m size = false) (p q : Option Addr) (c d : Nat) (w : World) :
    Calls Try.prog 30 #[.slice p m c, .slice q n d, .int .i64 size] w fun e w' => e = .returned (.tuple #[.slice none 0 0, .int .i64 0, .int .i64 50]) ∧ Ext w w' := by
  have H3 := Lib.hid h3
  clear h3
  go_enter Try.func30, Try.ntmps30
  go_wp2_with fail
  go_region
  go_wp2_with fail
  refine (bcheck_bad m n size h1 h2 H3.out _ _ _ _ _).mono ?_
  rintro e w1 ⟨rfl, rfl⟩
  go_wp2
  go_ret3
  exact ⟨rfl, (by repeat (first | exact Ext.refl _ | refine Ext.drew ?_ | refine Ext.alloc ?_ _ | refine Ext.setCell ?_ (by simp; done) _ | refine Ext.setCell ?_ (by simp; omega) _))⟩

/-- The sums of a row that slides along another one. -/
def slideV (P T : Nat → Int) (m i : Nat) : Int := NttM.sm m (fun u => P u * T (i + u))

def CorrPost (m n size : Nat) (P T : Nat → Int) (w : World) (e : Ending) (w' : World) : Prop :=
  ∃ v, e = .returned (.tuple #[v, .int .i64 (countV m n size), .int .i64 0]) ∧ w'.ownsRow w.heap.size 25 1 v (n - m + 1) ((List.range (n - m + 1)).map (U (slideV P T m))) ∧ Ext w w'

/-- The row that slides, turned. -/
def turnV (m size : Nat) (P : Nat → Int) (u : Nat) : Int := if (size - u) % size < m then P ((size - u) % size) else 0

/-- Block B holds three slices of n numbers; the first k of them are at the blocks R j. -/
def Three (wr : World) (B n k : Nat) (R cc : Nat → Nat) : Prop :=
  ∃ cells, wr.heap[B]? = some (.cells cells 78 (0, 0)) ∧ ∀ j, j < 3 → cells[j]? = some (if j < k then .slice (some ⟨R j, 0, none⟩) n (cc j) else .slice none 0 0)
theorem Three.ext {w w' : World} {B n k : Nat} {R cc : Nat → Nat} (h : Three w B n k R cc) (he : Ext w w') : Three w' B n k R cc := by
  obtain ⟨cells, h1, h2⟩ := h
  exact ⟨cells, he.heap h1, h2⟩
theorem Three.cell {w : World} {B n k : Nat} {R cc : Nat → Nat} (h : Three w B n k R cc) {j : Nat} (hj : j < 3) : w.cell? ⟨B, j, none⟩ = some (if j < k then .slice (some ⟨R j, 0, none⟩) n (cc j) else .slice none 0 0) := by
  obtain ⟨cells, h1, h2⟩ := h
  rw [cell_of_row _ _ _ _ _ _ h1, h2 j hj]
theorem Three.frozen {w : World} {B n k : Nat} {R cc : Nat → Nat} (h : Three w B n k R cc) (j : Nat) : w.frozen? ⟨B, j, none⟩ = false := by
  obtain ⟨cells, h1, h2⟩ := h
  exact frozen_of_row _ _ _ _ _ h1
theorem Three.set {w : World} {B n k : Nat} {R cc : Nat → Nat} (h : Three w B n k R cc) (_ : k < 3) (r c : Nat) :
    Three (w.setCell ⟨B, k, none⟩ (.slice (some ⟨r, 0, none⟩) n c)) B n (k + 1) (fun j => if j = k then r else R j) (fun j => if j = k then c else cc j) := by
  obtain ⟨cells, h1, h2⟩ := h
  refine ⟨_, heap_setCell_same _ _ _ _ _ _ h1, fun j hj => ?_⟩
  have hcj := h2 j hj
  have hlt := (Array.getElem?_eq_some_iff.1 hcj).1
  rw [Array.getElem?_setIfInBounds]
  by_cases e : k = j
  · subst e
    simp [hlt]
  · rw [if_neg e, hcj]
    have e' : ¬ j = k := fun h => e h.symm
    simp only [if_neg e']
    by_cases hjk : j < k
    · rw [if_pos hjk, if_pos (by omega)]
    · rw [if_neg hjk, if_neg (by omega)]
theorem Three.set2 {w : World} {B n k : Nat} {R cc : Nat → Nat} (h : Three w B n k R cc) (_ : k < 3) (v1 : Value) (r c : Nat) :
    Three ((w.setCell ⟨B, k, none⟩ v1).setCell ⟨B, k, none⟩ (.slice (some ⟨r, 0, none⟩) n c)) B n (k + 1) (fun j => if j = k then r else R j) (fun j => if j = k then c else cc j) := by
  obtain ⟨cells, h1, h2⟩ := h
  refine ⟨_, heap_setCell_same _ _ _ _ _ _ (heap_setCell_same _ _ _ _ _ _ h1), fun j hj => ?_⟩
  have hcj := h2 j hj
  have hlt := (Array.getElem?_eq_some_iff.1 hcj).1
  rw [Array.getElem?_setIfInBounds, Array.getElem?_setIfInBounds]
  by_cases e : k = j
  · subst e
    simp [hlt]
  · rw [if_neg e, if_neg e, hcj]
    have e' : ¬ j = k := fun h => e h.symm
    simp only [if_neg e']
    by_cases hjk : j < k
    · rw [if_pos hjk, if_pos (by omega)]
    · rw [if_neg hjk, if_neg (by omega)]
theorem Three.congr {w : World} {B n k : Nat} {R cc R' cc' : Nat → Nat} (h : Three w B n k R cc) (hR : ∀ j, j < k → R j = R' j) (hc : ∀ j, j < k → cc j = cc' j) : Three w B n k R' cc' := by
  obtain ⟨cells, h1, h2⟩ := h
  refine ⟨cells, h1, fun j hj => ?_⟩
  rw [h2 j hj]
  by_cases hjk : j < k
  · rw [if_pos hjk, if_pos hjk, hR j hjk, hc j hjk]
  · rw [if_neg hjk, if_neg hjk]

def SlRel (m L size Bs : Nat) (P : Nat → Int) (w0 : World) (c : Value) (wr : World) : Prop :=
  ∃ (k : Nat) (R cc : Nat → Nat), k ≤ 3 ∧ c = .int .i64 k ∧ Ext w0 wr ∧ Three wr Bs size k R cc ∧
    ∀ j, j < k → Bs < R j ∧ Row wr 25 (R j) size (U (NttM.T (primeV j) (rootV j L) size (turnV m size P)))

end Go.Proofs.Ytmadelflnjhibaa
