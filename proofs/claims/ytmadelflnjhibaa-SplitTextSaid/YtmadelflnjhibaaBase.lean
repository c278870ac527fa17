import Derived.Test.YtmadelflnjhibaaProg
import Derived.WalkKit
import Derived.WalkSpells
import Derived.WalkLawsBesides
import Derived.Below
import Derived.Lib.Hide
import Derived.WalkMore
namespace Go.Proofs.Ytmadelflnjhibaa
open Go.RowKit

/-- w' is w with new blocks: nothing that lay in w has changed. -/
def Ext (w w' : World) : Prop := Below w.heap.size w w'

section
variable {a b c w w' : World}
theorem Ext.refl (w : World) : Ext w w := Below.refl _ _
theorem Ext.size (h : Ext w w') : w.heap.size ≤ w'.heap.size := Below.size h
theorem Ext.trans (h : Ext a b) (k : Ext b c) : Ext a c := Below.trans h (Below.mono k (Below.size h))
theorem Ext.alloc (h : Ext a w) (o : Obj) : Ext a (w.alloc o) := Below.alloc h (Below.size h) o
theorem Ext.drew (h : Ext a w) : Ext a w.drew := Below.drew h
theorem Ext.setCell (h : Ext a w) {p : Addr} (hp : a.heap.size ≤ p.block) (u : Value) : Ext a (w.setCell p u) := Below.setCell h hp u
theorem Ext.grown {row : Option Nat} (h : Ext a w) (hg : w.grownBy w' row) (hr : ∀ k, row = some k → a.heap.size ≤ k) : Ext a w' := Below.grown h hg (Below.size h) hr
theorem Ext.cell (h : Ext w w') {p : Addr} {v : Value} (hc : w.cell? p = some v) : w'.cell? p = some v := (Below.cell h (World.block_lt_of_cell? w p hc)).trans hc
theorem Ext.heap (h : Ext w w') {k : Nat} {o : Obj} (hc : w.heap[k]? = some o) : w'.heap[k]? = some o := (Below.block h k (Array.getElem?_eq_some_iff.1 hc).1).trans hc
theorem Ext.frozen (h : Ext w w') {p : Addr} {v : Value} (hc : w.cell? p = some v) : w'.frozen? p = w.frozen? p := Below.frozen h (World.block_lt_of_cell? w p hc)
theorem Ext.below (h : Ext w w') : Below w.heap.size w w' := h
theorem Ext.to {B : Nat} {w0 : World} (hb : Below B w0 w) (h : Ext w w') (hB : B ≤ w.heap.size) : Below B w0 w' := Below.trans hb (Below.mono h hB)
theorem Ext.owns {base : Nat} {e : TypeId} {size : Nat} {v : Value} {n : Nat} {xs : List Value} (h : Ext w w') (ho : w.ownsRow base e size v n xs) : w'.ownsRow base e size v n xs := by
  obtain ⟨h1, h2⟩ := ho
  refine ⟨h1, ?_⟩
  rcases h2 with h2 | ⟨g, cap, cur, hv, hg, hh, r⟩
  · exact .inl h2
  · exact .inr ⟨g, cap, cur, hv, hg, h.heap hh, r⟩
end

theorem ownsRow_lower {w : World} {base base' : Nat} {e : TypeId} {size : Nat} {v : Value} {n : Nat} {xs : List Value} (h : w.ownsRow base e size v n xs) (hb : base' ≤ base) : w.ownsRow base' e size v n xs := by
  obtain ⟨h1, h2⟩ := h
  refine ⟨h1, ?_⟩
  rcases h2 with h2 | ⟨g, cap, cur, hv, hg, r⟩
  · exact .inl h2
  · exact .inr ⟨g, cap, cur, hv, Nat.le_trans hb hg, r⟩

theorem ret_eq {v v' : Value} (h : v' = v) : Ending.returned v = Ending.returned v' := by rw [h]

theorem and1_u64 (m : Int) (h0 : 0 ≤ m) (h1 : m ≤ 18446744073709551615) : bits BinOp.and IntKind.u64 m 1 = m % 2 := by
  rw [u64_and m 1 h0 (by omega) (by omega) (by omega)]
  have : m.toNat &&& (1 : Int).toNat = m.toNat % 2 := nat_mask1 _
  rw [this]; omega

/-- At p stand the n cells f 0 .. f (n-1). -/
def Rd (w : World) (p : Option Addr) (n : Nat) (f : Nat → Value) : Prop :=
  n = 0 ∨ ∃ b off, p = some ⟨b, off, none⟩ ∧ ∀ j, j < n → w.cell? ⟨b, off + j, none⟩ = some (f j)
theorem Rd.ext {w w' : World} {p : Option Addr} {n : Nat} {f : Nat → Value} (h : Rd w p n f) (he : Ext w w') : Rd w' p n f := by
  rcases h with h | ⟨b, off, hp, h⟩
  · exact .inl h
  · exact .inr ⟨b, off, hp, fun j hj => he.cell (h j hj)⟩
theorem Rd.congr {w : World} {p : Option Addr} {n : Nat} {f g : Nat → Value} (h : Rd w p n f) (hg : ∀ j, j < n → f j = g j) : Rd w p n g := by
  rcases h with h | ⟨b, off, hp, h⟩
  · exact .inl h
  · exact .inr ⟨b, off, hp, fun j hj => by rw [h j hj, hg j hj]⟩
theorem Rd.at {w : World} {p : Option Addr} {n : Nat} {f : Nat → Value} (h : Rd w p n f) {j : Nat} (hj : j < n) : ∃ b off, p = some ⟨b, off, none⟩ ∧ w.cell? ⟨b, off + j, none⟩ = some (f j) := by
  rcases h with h | ⟨b, off, hp, h⟩
  · omega
  · exact ⟨b, off, hp, h j hj⟩

/-- Block b of w, of elements of type T, begins with the n cells f 0 .. f (n-1), and may be written. -/
def Row (w : World) (T : TypeId) (b n : Nat) (f : Nat → Value) : Prop := ∃ cur, w.heap[b]? = some (.cells cur T (0, 0)) ∧ ∀ j, j < n → cur[j]? = some (f j)
section
variable {w w' : World} {T : TypeId} {b n : Nat} {f g : Nat → Value}
theorem Row.cell (h : Row w T b n f) {i : Nat} (hi : i < n) : w.cell? ⟨b, i, none⟩ = some (f i) := by
  obtain ⟨cur, h, hc⟩ := h
  rw [cell_of_row w b i _ _ _ h, hc i hi]
theorem Row.frozen (h : Row w T b n f) (i : Nat) : w.frozen? ⟨b, i, none⟩ = false := by
  obtain ⟨cur, h, hc⟩ := h
  exact frozen_of_row w b i _ _ h
theorem Row.set (h : Row w T b n f) (i : Nat) (v : Value) : Row (w.setCell ⟨b, i, none⟩ v) T b n (fun j => if j = i then v else f j) := by
  obtain ⟨cur, h, hc⟩ := h
  refine ⟨_, heap_setCell_same w b i _ _ _ h, fun j hj => ?_⟩
  have hcj := hc j hj
  have hlt := (Array.getElem?_eq_some_iff.1 hcj).1
  rw [Array.getElem?_setIfInBounds]
  by_cases e : i = j
  · subst e; simp [hlt]
  · show (if i = j then _ else _) = some (if j = i then v else f j)
    rw [if_neg e, if_neg (fun h : j = i => e h.symm), hcj]
theorem Row.lt (h : Row w T b n f) : b < w.heap.size := by
  obtain ⟨cur, h, hc⟩ := h
  exact (Array.getElem?_eq_some_iff.1 h).1
theorem Row.ext (h : Row w T b n f) (he : Ext w w') : Row w' T b n f := by
  obtain ⟨cur, h, hc⟩ := h
  exact ⟨cur, he.heap h, hc⟩
theorem Row.congr (h : Row w T b n f) (hg : ∀ j, j < n → f j = g j) : Row w T b n g := by
  obtain ⟨cur, h, hc⟩ := h
  exact ⟨cur, h, fun j hj => by rw [hc j hj, hg j hj]⟩
theorem Row.kept {row : Option Nat} (h : Row w T b n f) (hg : w.grownBy w' row) (hne : some b ≠ row) : Row w' T b n f := by
  obtain ⟨cur, h, hc⟩ := h
  exact ⟨cur, (hg.block b (Array.getElem?_eq_some_iff.1 h).1 hne).trans h, hc⟩
theorem Row.rd (h : Row w T b n f) : Rd w (some ⟨b, 0, none⟩) n f := .inr ⟨b, 0, rfl, fun j hj => by rw [Nat.zero_add]; exact h.cell hj⟩
theorem Row.sub (h : Row w T b n f) (off m : Nat) (hm : off + m ≤ n) : Rd w (some ⟨b, off, none⟩) m (fun j => f (off + j)) := .inr ⟨b, off, rfl, fun j hj => h.cell (by omega)⟩
theorem Row.owns {base : Nat} {v : Value} {size m : Nat} {xs : List Value} (h : w.ownsRow base T size v m xs) (hm : 0 < m) :
    ∃ B cap, v = .slice (some ⟨B, 0, none⟩) m cap ∧ m ≤ cap ∧ base ≤ B ∧ Row w T B (m * size) (fun j => xs.getD j undef) := by
  obtain ⟨hl, h2⟩ := h
  rcases h2 with ⟨_, h2⟩ | ⟨g, cap, cur, hv, hg, hh, h3, _, _, h4⟩
  · omega
  · refine ⟨g, cap, hv, h3, hg, cur, hh, fun j hj => ?_⟩
    have : cur.toList[j]? = xs[j]? := by rw [← h4, List.getElem?_take, if_pos hj]
    rw [Array.getElem?_toList] at this
    rw [this, List.getElem?_eq_getElem (by omega)]
    simp [List.getD, List.getElem?_eq_getElem (show j < xs.length by omega)]
end
theorem Ext.of_grown {w w' : World} (h : w.grownBy w' none) : Ext w w' := ⟨h.os, h.tape, h.output, h.size, fun k hk => h.block k hk (by simp)⟩
theorem Ext.grownBy {w w' : World} (h : Ext w w') (row : Option Nat) : w.grownBy w' row := ⟨Below.os h, Below.tape h, Below.output h, Below.size h, fun k hk _ => Below.block h k hk⟩
theorem grownBy_trans {a b c : World} {row : Option Nat} (h : a.grownBy b row) (k : b.grownBy c row) : a.grownBy c row :=
  ⟨k.os.trans h.os, k.tape.trans h.tape, k.output.trans h.output, Nat.le_trans h.size k.size, fun i hi hne => (k.block i (Nat.lt_of_lt_of_le hi h.size) hne).trans (h.block i hi hne)⟩
theorem grownBy_setCell (w : World) (b i : Nat) (v : Value) : w.grownBy (w.setCell ⟨b, i, none⟩ v) (some b) :=
  ⟨rfl, rfl, rfl, by simp, fun k _ hne => heap_setCell_other w ⟨b, i, none⟩ k v (fun e => hne (by rw [e]))⟩

theorem Row.owns' {w : World} {T : TypeId} {base B m cap size : Nat} {xs : List Value} (h : w.ownsRow base T size (.slice (some ⟨B, 0, none⟩) m cap) m xs) :
    m ≤ cap ∧ base ≤ B ∧ Row w T B (m * size) (fun j => xs.getD j undef) := by
  obtain ⟨hl, h2⟩ := h
  rcases h2 with ⟨h3, _⟩ | ⟨g, cap', cur, hv, hg, hh, h3, _, _, h4⟩
  · cases h3
  · obtain ⟨rfl, rfl⟩ : B = g ∧ cap = cap' := by injection hv with h1 h2 h3; injection h1 with h1; injection h1 with h1; exact ⟨h1, h3⟩
    refine ⟨h3, hg, cur, hh, fun j hj => ?_⟩
    have : cur.toList[j]? = xs[j]? := by rw [← h4, List.getElem?_take, if_pos hj]
    rw [Array.getElem?_toList] at this
    rw [this, List.getElem?_eq_getElem (by omega)]
    simp [List.getD, List.getElem?_eq_getElem (show j < xs.length by omega)]

theorem info_u64 : (Try.prog.info? 25).map (fun i => (i.zero, i.size, i.bytes)) = some (some (.int .u64 0), 1, 8) := by kernel_rfl
theorem info_int : (Try.prog.info? 3).map (fun i => (i.zero, i.size, i.bytes)) = some (some (.int .i64 0), 1, 8) := by kernel_rfl
theorem info_bool : (Try.prog.info? 4).map (fun i => (i.zero, i.size, i.bytes)) = some (some (.bool false), 1, 1) := by kernel_rfl

theorem make_gen (w : World) (t e : TypeId) (z : Value) (by8 n : Nat) (hu : Try.prog.underlying t = some (.slice e)) (hz1 : z.cells = #[z]) (hinfo : (Try.prog.info? e).map (fun i => (i.zero, i.size, i.bytes)) = some (some z, 1, by8)) (hb : by8 * n ≤ 281474976710656) (hn : n ≤ 4611686018427387904) :
    ∃ w1, (Instr.makeSlice t (.int .i64 (n : Int)) (.int .i64 (n : Int))).run Try.prog w = .ok (.slice (some ⟨w.heap.size, 0, none⟩) n n) w1 ∧ Row w1 e w.heap.size n (fun _ => z) ∧ Ext w w1 := by
  obtain ⟨i0, hi, ha, hb', hc⟩ := info_parts hinfo
  obtain ⟨w1, h1, h2, h3⟩ := run_make_full (P := Try.prog) w w.heap.size t e i0 z 1 hu hi ha hb' .i64 .i64 n (by rw [hc]; exact hb) (by unfold maxLen; omega) (Nat.le_refl _)
  refine ⟨w1, h1, ?_, Ext.of_grown h3⟩
  have h4 := (Row.owns' h2).2.2
  rw [Nat.mul_one] at h4
  refine h4.congr fun j hj => ?_
  rw [hz1, toList_madeCells_one]
  simp [List.getD, hj]

theorem make_u64 (w : World) (n : Nat) (hn : n ≤ 35184372088832) : ∃ w1, (Instr.makeSlice 31 (.int .i64 (n : Int)) (.int .i64 (n : Int))).run Try.prog w = .ok (.slice (some ⟨w.heap.size, 0, none⟩) n n) w1 ∧ Row w1 25 w.heap.size n (fun _ => .int .u64 0) ∧ Ext w w1 :=
  make_gen w _ _ _ 8 n Try.underlying31 rfl info_u64 (by omega) (by omega)
theorem make_int (w : World) (n : Nat) (hn : n ≤ 35184372088832) : ∃ w1, (Instr.makeSlice 35 (.int .i64 (n : Int)) (.int .i64 (n : Int))).run Try.prog w = .ok (.slice (some ⟨w.heap.size, 0, none⟩) n n) w1 ∧ Row w1 3 w.heap.size n (fun _ => .int .i64 0) ∧ Ext w w1 :=
  make_gen w _ _ _ 8 n Try.underlying35 rfl info_int (by omega) (by omega)

/-- Numbers of the kinds that stand in cells. -/
def U (g : Nat → Int) (j : Nat) : Value := .int .u64 (g j)
def I (g : Nat → Int) (j : Nat) : Value := .int .i64 (g j)

end Go.Proofs.Ytmadelflnjhibaa
