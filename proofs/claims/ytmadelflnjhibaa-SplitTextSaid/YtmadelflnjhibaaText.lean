import Derived.Test.YtmadelflnjhibaaOf
namespace Go.Proofs.Ytmadelflnjhibaa
open Go.RowKit
attribute [local go_sem] Cls.val clsNone clsAll

/-- The set of one byte. -/
def oneV (b : Nat) : Cls := withV clsNone b
/-- The sets of a text's first bytes. -/
def txtL (s : ByteArray) (k : Nat) : List Cls := (List.range k).map fun j => oneV (byteV s j)

def TextRel (s : ByteArray) (K : Int) (B : Nat) (w : World) (i : Value) (wr : World) : Prop :=
  ∃ (k : Nat) (v : Value), k ≤ s.size ∧ i = .int .i64 k ∧ Ext w wr ∧ wr.heap[B]? = some (.cells #[.slice none 0 0, .int .i64 0] 24 (0, 0)) ∧
    wr.heap[B + 1]? = some (.cells #[v, .int .i64 K] 24 (0, 0)) ∧ ClsRow wr (B + 2) v (txtL s k) ∧ B + 2 ≤ wr.heap.size

set_option maxRecDepth 100000 in
set_option maxHeartbeats 2000000 in
theorem text_any (s : ByteArray) (hs : s.size ≤ 1099511627776) (K : Int) (w : World) :
    Calls Try.prog 44 #[.string s, .int .i64 K] w fun e w' => ∃ p cap, e = .returned (leafVal p s.size cap K) ∧ s.size ≤ cap ∧ RdC w' p s.size (fun j => (txtL s s.size).getD j clsNone) ∧ Ext w w' := by
  obtain ⟨i0, hi, hz0, hz1, hz2⟩ := info_parts info_cls
  obtain ⟨hb1, hb2⟩ := box_cells w (.cells #[.slice none 0 0, .int .i64 0] 24) (.cells #[.slice none 0 0, .int .i64 K] 24)
  have HE := Lib.hid (((Ext.refl w).alloc (.cells #[.slice none 0 0, .int .i64 0] 24)).alloc (.cells #[.slice none 0 0, .int .i64 K] 24))
  have Hb1 := Lib.hid hb1
  have Hb2 := Lib.hid hb2
  clear hb1 hb2
  obtain ⟨B, hB⟩ : ∃ B, w.heap.size = B := ⟨_, rfl⟩
  have HB := Lib.hid hB
  go_enter Try.func44, Try.ntmps44
  go_wp2_with fail
  go_loopw [6, 11] (fun _ i wr => TextRel s K w.heap.size w i wr) (fun _ i _ => s.size - (intOf i).toNat)
  case atStart =>
    refine ⟨0, _, by omega, rfl, HE.out, Hb1.out, Hb2.out, by simp [ClsRow, World.ownsRow, txtL], by simp⟩
  case round =>
    obtain ⟨k, v, hk, rfl, hE, h1, h2, hrow, hsz⟩ := hrel
    have HE := Lib.hid hE
    clear Hb1 Hb2 hE
    rw [hB] at h1 h2 hrow hsz ⊢
    have l0 : wr.cell? ⟨B + 1, 0, none⟩ = some v := cell_of_row _ _ _ _ _ _ h2
    have l1 : wr.cell? ⟨B + 1, 1, none⟩ = some (.int .i64 K) := cell_of_row _ _ _ _ _ _ h2
    have f0 : wr.frozen? ⟨B + 1, 0, none⟩ = false := frozen_of_row _ _ _ _ _ h2
    have H1 := Lib.hid h1
    have H2 := Lib.hid h2
    have HRow := Lib.hid hrow
    obtain ⟨pv, cv, rfl, hcv, hpv, hrd⟩ := hrow.rd
    have hlen : (txtL s k).length = k := by unfold txtL; simp
    by_cases hlt : k < s.size
    · have hstep : txtL s (k + 1) = txtL s k ++ [oneV (byteV s k)] := by unfold txtL; rw [List.range_succ, List.map_append]; rfl
      have hes : (s.extract k (k + 1)).size = 1 := by rw [ByteArray.size_extract]; omega
      have hsub : ofV (s.extract k (k + 1)) (s.extract k (k + 1)).size = oneV (byteV s k) := by
        rw [hes]
        show withV clsNone (byteV (s.extract k (k + 1)) 0) = withV clsNone (byteV s k)
        congr 1
        unfold byteV
        rw [dif_pos (by omega), dif_pos hlt, ByteArray.getElem_extract]
        simp
      have Hof := Lib.hid (fun V => clsof_any (s.extract k (k + 1)) (by omega) V)
      rw [hsub] at Hof
      clear hes
      generalize oneV (byteV s k) = d at *
      generalize txtL s k = ks at *
      have Hs := Lib.hid hstep
      have b1 : (0 : Int) ≤ (k : Int) := by omega
      have b2 : (k : Int) < (s.size : Int) := by omega
      have i1 : IntKind.i64.wrap ((k : Int) + 1) = (k : Int) + 1 := IntWalk.i64_in _ ⟨by omega, by omega⟩
      have Hlen := Lib.hid hlen
      clear h1 h2 hstep hrow hrd hpv hlen
      go_wp2_with fail
      refine wp_region_permE (last := 11) (S := fun W' => Ext w W' ∧ W'.cell? ⟨B + 1, 0, none⟩ = some (.slice pv ks.length cv))
        [(0, true), (1, true), (2, true), (3, true), (4, true), (5, true), (6, true), (7, false), (8, false), (9, false), (10, true), (11, false)] (by kernel_rfl) rfl (by kernel_rfl) (by kernel_rfl) ⟨HE.out.drew, l0⟩ ?_
      refine wpPermE_take rfl rfl (.pointer (some ⟨B + 1, 0, none⟩)) (fun W' hS => ?_) (fun Kt hK => ?_)
      · obtain ⟨s0, s1⟩ := hS; go_simp
      go_simp
      refine hK _ _ ?_
      clear hK Kt
      refine wpPermE_take rfl rfl (.slice pv ks.length cv) (fun W' hS => ?_) (fun Kt hK => ?_)
      · obtain ⟨s0, s1⟩ := hS; go_simp
      go_simp
      refine hK _ _ ?_
      clear hK Kt
      refine wpPermE_take rfl rfl (.string s) (fun W' hS => ?_) (fun Kt hK => ?_)
      · obtain ⟨s0, s1⟩ := hS; go_simp
      go_simp
      refine hK _ _ ?_
      clear hK Kt
      refine wpPermE_take rfl rfl (.int .i64 k) (fun W' hS => ?_) (fun Kt hK => ?_)
      · obtain ⟨s0, s1⟩ := hS; go_simp
      go_simp
      refine hK _ _ ?_
      clear hK Kt
      refine wpPermE_take rfl rfl (.int .i64 k) (fun W' hS => ?_) (fun Kt hK => ?_)
      · obtain ⟨s0, s1⟩ := hS; go_simp
      go_simp
      refine hK _ _ ?_
      clear hK Kt
      refine wpPermE_take rfl rfl (.int .i64 ((k : Int) + 1)) (fun W' hS => ?_) (fun Kt hK => ?_)
      · obtain ⟨s0, s1⟩ := hS; go_simp
      go_simp
      refine hK _ _ ?_
      clear hK Kt
      refine wpPermE_take rfl rfl (.string (s.extract k (k + 1))) (fun W' hS => ?_) (fun Kt hK => ?_)
      · obtain ⟨s0, s1⟩ := hS; go_simp; rw [if_pos ⟨by omega, by omega⟩, if_pos (by omega)]
      go_simp
      refine hK _ _ ?_
      clear hK Kt
      refine wpPermE_bar rfl rfl (fun Kt hK => ?_)
      go_simp
      refine (Hof.out _).mono ?_
      rintro e w2 ⟨rfl, hE2⟩
      have hEa := (Ext.refl wr).drew.trans hE2
      refine hK _ _ (fun _ => ⟨HE.out.trans hEa, hEa.cell l0⟩) ?_
      clear hK Kt
      refine wpPermE_bar rfl rfl (fun Kt hK => ?_)
      go_simp
      have hEb := hEa.alloc (.cells #[.int .u64 d.w0, .int .u64 d.w1, .int .u64 d.w2, .int .u64 d.w3] 27)
      have hnews := cls_new w2 (.int .u64 d.w0) (.int .u64 d.w1) (.int .u64 d.w2) (.int .u64 d.w3) 27
      refine hK _ _ (fun _ => ⟨HE.out.trans hEb, hEb.cell l0⟩) ?_
      clear hK Kt
      generalize hw3 : w2.alloc (.cells #[.int .u64 d.w0, .int .u64 d.w1, .int .u64 d.w2, .int .u64 d.w3] 27) = w3 at *
      have hs3 := hEb.size
      have hrow3 := hEb.owns HRow.out
      refine wpPermE_bar rfl rfl (fun Kt hK => ?_)
      refine wp_append_own w3 (.tmp 15) (.tmp 22) 22 rfl (B + 2) 27 i0 clsNone.val 4 32 Try.underlying22 hi hz0 hz1 hz2 rfl (by decide) _ ks.length (ks.flatMap cells4) rfl hrow3 ⟨w2.heap.size, 0, none⟩ 1 1 [.int .u64 d.w0, .int .u64 d.w1, .int .u64 d.w2, .int .u64 d.w3] rfl rfl hnews ?c2 ?c3 ?c4 ?c5 ?_
      case c2 =>
        intro u hu
        simp only [List.mem_cons, List.not_mem_nil, or_false] at hu
        rcases hu with rfl | rfl | rfl | rfl <;> rfl
      case c3 => have := Hlen.out; unfold maxLen; omega
      case c4 => have := Hlen.out; omega
      case c5 => omega
      intro v' w4 hown4 hgrow _
      obtain ⟨pv', cv', rfl, hcv'⟩ := ownsRow_form hown4
      have hg4 : w3.grownBy w4 (Value.slice pv ks.length cv).ownBlock := hgrow
      have hown4' : w4.ownsRow (B + 2) 27 4 (.slice pv' (ks.length + 1) cv') (ks ++ [d]).length ((ks ++ [d]).flatMap cells4) := by rw [List.length_append, List.flatMap_append]; exact hown4
      have hbk : ∀ q, some q = (Value.slice pv ks.length cv).ownBlock → B + 2 ≤ q := fun q hq => (World.ownsRow.lt hrow3 q hq.symm).1
      have hne : ∀ x, x ≤ B + 1 → some x ≠ (Value.slice pv ks.length cv).ownBlock := fun x hx h => by have := hbk x h; omega
      have hE4 : Ext w w4 := (HE.out.trans hEb).grown hg4 (fun q hq => by have := hbk q hq.symm; have := HB.out; omega)
      have h24 : w4.heap[B + 1]? = some (.cells #[.slice pv ks.length cv, .int .i64 K] 24 (0, 0)) := (hg4.block (B + 1) (by omega) (hne _ (by omega))).trans (hEb.heap H2.out)
      have h14 : w4.heap[B]? = some (.cells #[.slice none 0 0, .int .i64 0] 24 (0, 0)) := (hg4.block B (by omega) (hne _ (by omega))).trans (hEb.heap H1.out)
      have m0 : w4.cell? ⟨B + 1, 0, none⟩ = some (.slice pv ks.length cv) := cell_of_row _ _ _ _ _ _ h24
      have n0 : w4.frozen? ⟨B + 1, 0, none⟩ = false := frozen_of_row _ _ _ _ _ h24
      have hs4 := hg4.size
      refine hK _ _ (fun _ => ⟨hE4, m0⟩) ?_
      clear hK Kt
      have Hown4 := Lib.hid hown4'
      have H24 := Lib.hid h24
      have H14 := Lib.hid h14
      have HE4 := Lib.hid hE4
      clear hown4 hown4' h24 h14 hE4 hrow3 hnews hgrow hg4 hbk hne l0 l1 f0
      go_simp
      refine wpPermE_take rfl rfl (.pointer (some ⟨B + 1, 0, none⟩)) (fun W' hS => ?_) (fun Kt hK => ?_)
      · obtain ⟨s0, s1⟩ := hS; go_simp
      go_simp
      refine hK _ _ ?_
      clear hK Kt
      refine wpPermE_bar rfl rfl (fun Kt hK => ?_)
      go_simp
      refine hK _ _ (fun h => absurd rfl h) ?_
      clear hK Kt
      refine wpPermE_end (NoPanic.normal ?_)
      have hBw : w.heap.size ≤ B + 1 := by have := HB.out; omega
      have hfin : Hid ((w4.setCell ⟨B + 1, 0, none⟩ (.slice pv' (ks.length + 1) cv')).heap[B + 1]? = some (.cells #[.slice pv' (ks.length + 1) cv', .int .i64 K] 24 (0, 0))) := heap_setCell_same _ _ 0 _ _ _ H24.out
      have hone : Hid ((w4.setCell ⟨B + 1, 0, none⟩ (.slice pv' (ks.length + 1) cv')).heap[B]? = some (.cells #[.slice none 0 0, .int .i64 0] 24 (0, 0))) := (heap_setCell_other _ _ _ _ (by show B ≠ B + 1; omega)).trans H14.out
      have hext : Hid (Ext w (w4.setCell ⟨B + 1, 0, none⟩ (.slice pv' (ks.length + 1) cv'))) := HE4.out.setCell hBw _
      have hro : Hid (ClsRow (w4.setCell ⟨B + 1, 0, none⟩ (.slice pv' (ks.length + 1) cv')) (B + 2) (.slice pv' (ks.length + 1) cv') (ks ++ [d])) := by
        obtain ⟨e1, e2⟩ := Hown4.out
        refine ⟨e1, ?_⟩
        rcases e2 with e2 | ⟨g, cap, cur, e3, e4, e5, e6⟩
        · exact .inl e2
        · exact .inr ⟨g, cap, cur, e3, e4, (heap_setCell_other _ _ _ _ (by show g ≠ B + 1; omega)).trans e5, e6⟩
      go_wp2_with fail
      go_roundw
      case rel => exact ⟨k + 1, _, by omega, by go_num, hext.out, hone.out, hfin.out, by rw [Hs.out]; exact hro.out, by simp; omega⟩
      case measure => simp [intOf]; omega
    · have e : k = s.size := by omega
      subst e
      have g0 : wr.frozen? ⟨B, 0, none⟩ = false := frozen_of_row _ _ _ _ _ h1
      have g1 : wr.frozen? ⟨B, 1, none⟩ = false := frozen_of_row _ _ _ _ _ h1
      have d0 : wr.cell? ⟨B, 0, none⟩ = some (.slice none 0 0) := cell_of_row _ _ _ _ _ _ h1
      have d1 : wr.cell? ⟨B, 1, none⟩ = some (.int .i64 0) := cell_of_row _ _ _ _ _ _ h1
      have Hlen := Lib.hid hlen
      have Hrd := Lib.hid hrd
      have Hpv := Lib.hid hpv
      have hBw : w.heap.size ≤ B := by have := HB.out; omega
      clear h1 h2 hrow hlen hrd hpv
      go_wp2_with fail
      refine bodyPost_ret (results_cell_row rfl _ _ B 24 _ (0, 0) _ rfl (heap_setCell_same _ _ 1 _ _ _ (heap_setCell_same _ _ 0 _ _ _ H1.out)) Try.underlying24 rfl (by kernel_rfl)) rfl ⟨pv, cv, ?_, by rw [← Hlen.out]; exact hcv, ?_, ?_⟩
      · rw [Hlen.out]; rfl
      · have h5 := Hrd.out
        rw [Hlen.out] at h5
        rcases h5 with h5 | ⟨b, o, h6, h7⟩
        · exact .inl h5
        · refine .inr ⟨b, o, h6, fun j hj => ?_⟩
          have h8 := Hpv.out _ h6
          simp only [] at h8
          have hk2 : ∀ (x : Addr) (u : Value), x.block = b → wr.cell? x = some u → ((wr.setCell ⟨B, 0, none⟩ (.slice pv (txtL s s.size).length cv)).setCell ⟨B, 1, none⟩ (.int .i64 K)).cell? x = some u := by
            intro x u hx hu
            rw [World.cell?_of_block ((heap_setCell_other _ _ _ _ (by show x.block ≠ B; omega)).trans (heap_setCell_other _ _ _ _ (by show x.block ≠ B; omega)))]
            exact hu
          obtain ⟨q0, q1, q2, q3⟩ := h7 j hj
          exact ⟨hk2 _ _ rfl q0, hk2 _ _ rfl q1, hk2 _ _ rfl q2, hk2 _ _ rfl q3⟩
      · exact (HE.out.setCell hBw _).setCell hBw _
end Go.Proofs.Ytmadelflnjhibaa
