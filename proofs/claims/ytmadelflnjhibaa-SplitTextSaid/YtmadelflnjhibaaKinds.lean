import Derived.Test.YtmadelflnjhibaaMap
namespace Go.Proofs.Ytmadelflnjhibaa
open Go.RowKit
attribute [local go_sem] Cls.val clsNone clsAll

theorem Ext.put {w A : World} (h : Ext w A) {l : Nat} (hl : w.heap.size ≤ l) (o : Obj) : Ext w (A.putObj l o) :=
  ⟨h.os, h.tape, h.output, by rw [World.putObj_size]; exact h.size, fun k hk => (World.putObj_heap_other (by omega)).trans (Below.block h k hk)⟩

/-- The kinds of the first elements. -/
def kindsV (f : Nat → Cls) : Nat → List Cls
  | 0 => []
  | k + 1 => if f k ∈ clsAll :: kindsV f k then kindsV f k else kindsV f k ++ [f k]

def cells4 (c : Cls) : List Value := [.int .u64 c.w0, .int .u64 c.w1, .int .u64 c.w2, .int .u64 c.w3]

theorem kindsV_len (f : Nat → Cls) (k : Nat) : (kindsV f k).length ≤ k := by
  induction k with
  | zero => exact Nat.le_refl _
  | succ k ih =>
    unfold kindsV
    split
    · omega
    · rw [List.length_append]; simp; omega

theorem info_cls : (Try.prog.info? 27).map (fun i => (i.zero, i.size, i.bytes)) = some (some clsNone.val, 4, 32) := by kernel_rfl

theorem cls_new (w : World) (x0 x1 x2 x3 : Value) (T : TypeId) : ∀ (j : Nat) (u : Value), [x0, x1, x2, x3][j]? = some u → (w.alloc (.cells #[x0, x1, x2, x3] T)).cell? ((⟨w.heap.size, 0, none⟩ : Addr).add j) = some u := by
  intro j u hu
  obtain ⟨⟨c0, c1, c2, c3⟩, -⟩ := cls_cells (heap_alloc_new w (.cells #[x0, x1, x2, x3] T))
  match j, hu with
  | 0, hu => simp at hu; subst hu; exact c0
  | 1, hu => simp at hu; subst hu; exact c1
  | 2, hu => simp at hu; subst hu; exact c2
  | 3, hu => simp at hu; subst hu; exact c3

/-- A row of sets of its own. -/
def ClsRow (w : World) (base : Nat) (v : Value) (ks : List Cls) : Prop := w.ownsRow base 27 4 v ks.length (ks.flatMap cells4)

def KindsRel (f : Nat → Cls) (n r : Nat) (w0 : World) (v i : Value) (wr : World) : Prop :=
  ∃ k : Nat, k ≤ n ∧ i = .int .i64 k ∧ ClsRow wr (r + 1) v (kindsV f k) ∧ MapAt wr r (clsAll :: kindsV f k) ∧ Ext w0 wr

set_option maxRecDepth 100000 in
set_option maxHeartbeats 2000000 in
theorem kinds_any (p : Option Addr) (n cap : Nat) (K : Int) (f : Nat → Cls) (hcap : n ≤ cap) (hn : n ≤ 1099511627776) (w : World) (hr : RdC w p n f) :
    Calls Try.prog 29 #[leafVal p n cap K] w fun e w' => ∃ v, e = .returned v ∧ ClsRow w' w.heap.size v (kindsV f n) ∧ Ext w w' := by
  obtain ⟨i0, hi, hz0, hz1, hz2⟩ := info_parts info_cls
  have hnew := heap_alloc_new w (.cells #[.slice p n cap, .int .i64 K] 24)
  have hE0 := (Ext.refl w).alloc (.cells #[.slice p n cap, .int .i64 K] 24)
  have Hr := Lib.hid hr
  clear hr
  unfold leafVal
  have hmk : ∀ V : World, (Instr.makeMap 75 none).run Try.prog V = .ok (.map (some V.heap.size)) (V.alloc (.map #[] 0)) := fun _ => rfl
  go_enter Try.func29, Try.ntmps29
  go_wp2_with fail
  clear hmk
  have hsz0 := World.size_alloc w (.cells #[.slice p n cap, .int .i64 K] 24)
  generalize w.alloc (.cells #[.slice p n cap, .int .i64 K] 24) = W at *
  have hmap0 : MapAt (W.alloc (.map #[] 0)) W.heap.size [] := ⟨#[], 0, World.alloc_heap_new _ _, rfl, fun e he => by cases he⟩
  have hEm := (Ext.refl W).alloc (.map #[] 0)
  generalize hW1 : W.alloc (.map #[] 0) = W1 at *
  have hsz1 : W1.heap.size = W.heap.size + 1 := by rw [← hW1]; exact World.size_alloc _ _
  rw [hsz0] at hmap0 hsz1
  have Hsz1 := Lib.hid hsz1
  have Hsz0 := Lib.hid hsz0
  clear hW1 hsz1 hsz0
  refine (full_any W1).mono ?_
  rintro e w2 ⟨rfl, hE2⟩
  obtain ⟨o, hu, hm3⟩ := update_met w2 (w.heap.size + 1) [] clsAll (hmap0.ext hE2) List.not_mem_nil
  have hE3 : Ext W (w2.putObj (w.heap.size + 1) o) := (hEm.trans hE2).put (by rw [Hsz0.out]; exact Nat.le_refl _) _
  have hc0 : (w2.putObj (w.heap.size + 1) o).cell? ⟨w.heap.size, 0, none⟩ = some (.slice p n cap) := hE3.cell (cell_of_row _ _ _ _ _ _ hnew)
  simp only [Cls.val, clsAll] at hu
  have Hm3 := Lib.hid hm3
  have HE0 := Lib.hid hE0
  have HE3 := Lib.hid hE3
  have HE2 := Lib.hid hE2
  clear hm3 hmap0 hEm hE0 hE3 hE2 hnew
  generalize hB : w.heap.size = B at *
  have hs3 : B + 1 + 1 ≤ (w2.putObj (B + 1) o).heap.size := by rw [World.putObj_size]; have := HE2.out.size; have := Hsz1.out; omega
  have Hs3 := Lib.hid hs3
  clear hs3
  go_wp2_with fail
  generalize w2.putObj (B + 1) o = W3 at *
  clear hu
  go_loopw [4, 6, 13] (fun v _ i wr => KindsRel f n (B + 1) W v i wr) (fun _ _ i _ => n - (intOf i).toNat)
  case atStart => exact ⟨0, by omega, rfl, by simp [ClsRow, World.ownsRow, kindsV], Hm3.out, HE3.out⟩
  case round =>
    clear hc0 Hm3 HE3 Hs3 HE2
    obtain ⟨k, hk, rfl, hrow, hmap, hE⟩ := hrel
    have hlen := kindsV_len f k
    have hsz := hE.size
    rw [Hsz0.out] at hsz
    have HRow := Lib.hid hrow
    have HMap := Lib.hid hmap
    have HE := Lib.hid hE
    clear hrow hmap hE
    by_cases hlt : k < n
    · obtain ⟨b, off, rfl, d0, d1, d2, d3⟩ := (Hr.out.ext (HE0.out.trans HE.out)).at hlt
      have hstep : kindsV f (k + 1) = if f k ∈ clsAll :: kindsV f k then kindsV f k else kindsV f k ++ [f k] := rfl
      generalize hd : f k = d at *
      have hwa : Ext wr (wr.alloc (.cells #[.int .u64 d.w0, .int .u64 d.w1, .int .u64 d.w2, .int .u64 d.w3] 27)) := (Ext.refl wr).alloc _
      have hmapa := HMap.out.ext hwa
      have hlk := lookup_met _ _ _ d hmapa
      by_cases hx : d ∈ clsAll :: kindsV f k
      · rw [if_pos hx] at hstep
        rw [decide_eq_true hx] at hlk
        have Hs := Lib.hid hstep
        have HMapa := Lib.hid hmapa
        have Hwa := Lib.hid hwa
        simp only [Cls.val] at hlk
        clear hstep hx hd hmapa hwa
        go_wp2_with fail
        go_roundw
        case rel => exact ⟨k + 1, by omega, by go_num, by rw [Hs.out]; exact Hwa.out.owns HRow.out, by rw [Hs.out]; exact HMapa.out, HE.out.trans Hwa.out⟩
        case measure => simp [intOf]; omega
      · obtain ⟨o', hu, hm'⟩ := update_met _ _ _ d hmapa hx
        rw [if_neg hx] at hstep
        rw [decide_eq_false hx] at hlk
        have Hs := Lib.hid hstep
        simp only [Cls.val] at hlk hu
        have hro : Hid (ClsRow ((wr.alloc (.cells #[.int .u64 d.w0, .int .u64 d.w1, .int .u64 d.w2, .int .u64 d.w3] 27)).putObj (B + 1) o') (B + 1 + 1) u4 (kindsV f k)) := by
          obtain ⟨es, clock, h1, _⟩ := hmapa
          exact ownsRow_putObj (hwa.owns HRow.out) _ h1 rfl
        have hEb : Hid (Ext W ((wr.alloc (.cells #[.int .u64 d.w0, .int .u64 d.w1, .int .u64 d.w2, .int .u64 d.w3] 27)).putObj (B + 1) o')) := (HE.out.trans hwa).put (by rw [Hsz0.out]; exact Nat.le_refl _) _
        have hBlt : B + 1 < wr.heap.size := by
          obtain ⟨es, clock, h1, _⟩ := HMap.out
          exact (Array.getElem?_eq_some_iff.1 h1).1
        obtain ⟨⟨a0, a1, a2, a3⟩, -⟩ := cls_cells ((World.putObj_heap_other (o := o') (show wr.heap.size ≠ B + 1 by omega)).trans (heap_alloc_new wr (.cells #[.int .u64 d.w0, .int .u64 d.w1, .int .u64 d.w2, .int .u64 d.w3] 27)))
        have hVs : ((wr.alloc (.cells #[.int .u64 d.w0, .int .u64 d.w1, .int .u64 d.w2, .int .u64 d.w3] 27)).putObj (B + 1) o').heap.size = wr.heap.size + 1 := by rw [World.putObj_size, World.size_alloc]
        have Hm' := Lib.hid hm'
        clear hstep hx hd hmapa hwa hm'
        have Hcap := Lib.hid hcap
        clear hcap
        have hVs' := hVs
        generalize hV : (wr.alloc (.cells #[.int .u64 d.w0, .int .u64 d.w1, .int .u64 d.w2, .int .u64 d.w3] 27)).putObj (B + 1) o' = V at *
        have hcap := Hcap.out
        go_wp2_with (at_builtin; refine wpList_append_own _ rfl (.tmp 23) (.tmp 25) 22 rfl (B + 1 + 1) 27 i0 clsNone.val 4 32 Try.underlying22 hi hz0 hz1 hz2 rfl (by decide) _ _ _ rfl (World.ownsRow.alloc hro.out _) ⟨wr.heap.size + 1, 0, none⟩ 1 1 [.int .u64 d.w0, .int .u64 d.w1, .int .u64 d.w2, .int .u64 d.w3] rfl rfl ?c1 ?c2 ?c3 ?c4 ?c5 ?_)
        case c1 => have h := cls_new V (.int .u64 d.w0) (.int .u64 d.w1) (.int .u64 d.w2) (.int .u64 d.w3) 27; rwa [hVs'] at h
        case c2 =>
          intro u hu
          simp only [List.mem_cons, List.not_mem_nil, or_false] at hu
          rcases hu with rfl | rfl | rfl | rfl <;> rfl
        case c3 => unfold maxLen; omega
        case c4 => omega
        case c5 => rw [World.size_alloc, hVs']; omega
        intro v' w3 hown3 hgrow _
        have hE3 : Ext W w3 := (hEb.out.alloc _).grown hgrow (fun q hq => by rw [Hsz0.out]; have := (World.ownsRow.lt hro.out q hq).1; omega)
        have hm3 : MapAt w3 (B + 1) (clsAll :: kindsV f k ++ [d]) := by
          obtain ⟨es, clock, h1, h2⟩ := Hm'.out
          refine ⟨es, clock, ?_, h2⟩
          have hl := (Array.getElem?_eq_some_iff.1 h1).1
          rw [hgrow.block (B + 1) (by rw [World.size_alloc]; omega) (fun h => by have := (World.ownsRow.lt hro.out _ h.symm).1; omega)]
          exact ((Ext.refl V).alloc _).heap h1
        have Hown3 := Lib.hid hown3
        have Hm3 := Lib.hid hm3
        clear hown3 hgrow hm3
        go_wp2
        go_roundw
        case rel => exact ⟨k + 1, by omega, by go_num, by rw [Hs.out]; unfold ClsRow; rw [List.length_append, List.flatMap_append]; exact Hown3.out, by rw [Hs.out]; exact Hm3.out, hE3⟩
        case measure => simp [intOf]; omega
    · have e : k = n := by omega
      subst e
      go_wp2_with fail
      go_ret
      exact ⟨_, rfl, ownsRow_lower HRow.out (by omega), HE0.out.trans HE.out⟩
end Go.Proofs.Ytmadelflnjhibaa
