import Derived.Test.YtmadelflnjhibaaFind
namespace Go.Proofs.Ytmadelflnjhibaa
open Go.RowKit
attribute [local go_sem] Cls.val clsNone clsAll

theorem wp_region_permE {P : Program} {ops : Array Oper} {Q : Exit → Act → World → Prop} {S : World → Prop} {id last : Nat} {a : Act} {w : World} (π : List (Nat × Bool)) (hm : P.follows .mixedOrders = true) (hl : π.length = ops.size)
    (hB : permEB .any ops last π (Array.replicate ops.size false) = true) (hs : Region.noSelect ops = true) (hS : S w.drew)
    (h : wpPermE P ops (NoPanic Q) S last π a w.drew) : (Code.region id ops true).wp P Q a w := by
  refine wp_region_noPanic (wp_region_held (S := fun _ => True) hm (wpAnyH_of_E (S := S) (last := last) _ _ _ _ ?_))
  have key := wpPermE_sound hs (fun _ _ _ h => h) π _ _ _ hB (fun _ => hS) h
  rw [hl] at key
  exact key

/-- The set of a text's first bytes. -/
def ofV (s : ByteArray) : Nat → Cls
  | 0 => clsNone
  | k + 1 => withV (ofV s k) (byteV s k)

def OfRel (s : ByteArray) (B : Nat) (w : World) (i : Value) (wr : World) : Prop :=
  ∃ k : Nat, k ≤ s.size ∧ i = .int .i64 k ∧ Ext w wr ∧ wr.heap[B]? = some (.cells #[.int .u64 0, .int .u64 0, .int .u64 0, .int .u64 0] 27 (0, 0)) ∧
    wr.heap[B + 1]? = some (.cells #[.int .u64 (ofV s k).w0, .int .u64 (ofV s k).w1, .int .u64 (ofV s k).w2, .int .u64 (ofV s k).w3] 27 (0, 0))

set_option maxRecDepth 100000 in
set_option maxHeartbeats 2000000 in
theorem clsof_any (s : ByteArray) (hs : s.size ≤ 1099511627776) (w : World) :
    Calls Try.prog 45 #[.string s] w fun e w' => e = .returned (ofV s s.size).val ∧ Ext w w' := by
  obtain ⟨hb1, hb2⟩ := box_cells w (.cells #[.int .u64 0, .int .u64 0, .int .u64 0, .int .u64 0] 27) (.cells #[.int .u64 0, .int .u64 0, .int .u64 0, .int .u64 0] 27)
  have HE := Lib.hid (((Ext.refl w).alloc (.cells #[.int .u64 0, .int .u64 0, .int .u64 0, .int .u64 0] 27)).alloc (.cells #[.int .u64 0, .int .u64 0, .int .u64 0, .int .u64 0] 27))
  have Hb1 := Lib.hid hb1
  have Hb2 := Lib.hid hb2
  clear hb1 hb2
  obtain ⟨B, hB⟩ : ∃ B, w.heap.size = B := ⟨_, rfl⟩
  have HB := Lib.hid hB
  go_enter Try.func45, Try.ntmps45
  go_wp2_with fail
  go_loopw [4, 7] (fun _ i wr => OfRel s w.heap.size w i wr) (fun _ i _ => s.size - (intOf i).toNat)
  case atStart => exact ⟨0, by omega, rfl, HE.out, Hb1.out, Hb2.out⟩
  case round =>
    obtain ⟨k, hk, rfl, hE, h1, h2⟩ := hrel
    have HE := Lib.hid hE
    clear Hb1 Hb2 hE
    rw [hB] at h1 h2 ⊢
    obtain ⟨⟨c0, c1, c2, c3⟩, f0, f1, f2, f3⟩ := cls_cells h2
    have H1 := Lib.hid h1
    have H2 := Lib.hid h2
    by_cases hlt : k < s.size
    · have hbv := byteV_eq hlt
      have hbl := byteV_lt s k
      have hstep : ofV s (k + 1) = withV (ofV s k) (byteV s k) := rfl
      have Hwith := Lib.hid (fun V => with_any (ofV s k) (byteV s k) hbl V)
      generalize withV (ofV s k) (byteV s k) = d at *
      generalize ofV s k = c at *
      have Hs := Lib.hid hstep
      have b1 : (0 : Int) ≤ (k : Int) := by omega
      have b2 : (k : Int) < (s.size : Int) := by omega
      clear h1 h2 hstep
      go_wp2_with fail
      refine wp_region_permE (last := 5) (S := fun W' => Ext wr W' ∧ W'.heap[B + 1]? = some (.cells #[.int .u64 c.w0, .int .u64 c.w1, .int .u64 c.w2, .int .u64 c.w3] 27 (0, 0)))
        [(0, true), (1, true), (2, true), (3, true), (4, false), (5, false)] (by kernel_rfl) rfl (by kernel_rfl) (by kernel_rfl) ⟨(Ext.refl wr).drew, H2.out⟩ ?_
      refine wpPermE_take rfl rfl c.val (fun W' hS => ?_) (fun K hK => ?_)
      · obtain ⟨⟨c0, c1, c2, c3⟩, _⟩ := cls_cells hS.2
        go_simp
      go_simp
      refine hK _ _ ?_
      clear hK K
      refine wpPermE_take rfl rfl (.string s) (fun W' hS => ?_) (fun K hK => ?_)
      · go_simp
      go_simp
      refine hK _ _ ?_
      clear hK K
      refine wpPermE_take rfl rfl (.int .i64 k) (fun W' hS => ?_) (fun K hK => ?_)
      · go_simp
      go_simp
      refine hK _ _ ?_
      clear hK K
      refine wpPermE_take rfl rfl (.int .u8 (byteV s k)) (fun W' hS => ?_) (fun K hK => ?_)
      · go_simp
      go_simp
      refine hK _ _ ?_
      clear hK K
      refine wpPermE_bar rfl rfl (fun K hK => ?_)
      go_simp
      refine (Hwith.out _).mono ?_
      rintro e w2 ⟨rfl, hE2⟩
      have hB2 := ((Ext.refl wr).drew.trans hE2).heap H2.out
      refine hK _ _ (fun _ => ⟨(Ext.refl wr).drew.trans hE2, hB2⟩) ?_
      clear hK K
      obtain ⟨⟨c0, c1, c2, c3⟩, f0, f1, f2, f3⟩ := cls_cells hB2
      refine wpPermE_bar rfl rfl (fun K hK => ?_)
      go_simp
      refine hK _ _ (fun h => absurd rfl h) ?_
      clear hK K
      refine wpPermE_end (NoPanic.normal ?_)
      have hBw : w.heap.size ≤ B + 1 := by have := HB.out; omega
      have hfin := cls_stored hB2 (.int .u64 d.w0) (.int .u64 d.w1) (.int .u64 d.w2) (.int .u64 d.w3)
      have hone : ((((w2.setCell ⟨B + 1, 0, none⟩ (.int .u64 d.w0)).setCell ⟨B + 1, 1, none⟩ (.int .u64 d.w1)).setCell ⟨B + 1, 2, none⟩ (.int .u64 d.w2)).setCell ⟨B + 1, 3, none⟩ (.int .u64 d.w3)).heap[B]? = some (.cells #[.int .u64 0, .int .u64 0, .int .u64 0, .int .u64 0] 27 (0, 0)) := by
        refine (heap_setCell_other _ _ _ _ (by show B ≠ B + 1; omega)).trans ((heap_setCell_other _ _ _ _ (by show B ≠ B + 1; omega)).trans ((heap_setCell_other _ _ _ _ (by show B ≠ B + 1; omega)).trans ((heap_setCell_other _ _ _ _ (by show B ≠ B + 1; omega)).trans ?_)))
        exact ((Ext.refl wr).drew.trans hE2).heap H1.out
      have hext : Ext w ((((w2.setCell ⟨B + 1, 0, none⟩ (.int .u64 d.w0)).setCell ⟨B + 1, 1, none⟩ (.int .u64 d.w1)).setCell ⟨B + 1, 2, none⟩ (.int .u64 d.w2)).setCell ⟨B + 1, 3, none⟩ (.int .u64 d.w3)) := (HE.out.trans ((Ext.refl wr).drew.trans hE2)).stored hBw _ _ _ _
      have Hfin := Lib.hid hfin
      have Hone := Lib.hid hone
      have Hext := Lib.hid hext
      clear hfin hone hext c0 c1 c2 c3 f0 f1 f2 f3 hB2
      go_wp2_with fail
      go_roundw
      case rel => exact ⟨k + 1, by omega, by go_num, Hext.out, Hone.out, by rw [Hs.out]; exact Hfin.out⟩
      case measure => simp [intOf]; omega
    · have e : k = s.size := by omega
      subst e
      obtain ⟨-, g0, g1, g2, g3⟩ := cls_cells h1
      obtain ⟨⟨d0, d1, d2, d3⟩, -⟩ := cls_cells h1
      clear h1 h2
      generalize hc : ofV s s.size = c at *
      have Hc := Lib.hid hc
      clear hc
      go_wp2_with fail
      refine bodyPost_ret (results_cell_row rfl _ _ B 27 _ (0, 0) (.array 4 25) rfl (cls_stored H1.out _ _ _ _) Try.underlying27 rfl (by kernel_rfl)) rfl ⟨?_, HE.out.stored (by have := HB.out; omega) _ _ _ _⟩
      rw [Hc.out]
      rfl
end Go.Proofs.Ytmadelflnjhibaa
