import Derived.Test.YtmadelflnjhibaaLawT
import Derived.Laws.BytesArg
import Derived.Laws.IdiomStrings
namespace Go.Proofs.Ytmadelflnjhibaa
open Go.RowKit
attribute [local go_sem] Cls.val clsNone clsAll

/-- A row of bytes of one's own, made a text. -/
theorem conv_bytes (w : World) (base : Nat) (v : Value) (N : Nat) (g : Nat → Nat) (hg : ∀ j, g j < 256) (h : w.ownsRow base 5 1 v N ((List.range N).map fun j => .int .u8 (g j))) :
    ∃ s' : ByteArray, (convert 49 9 v).run Try.prog w = .ok (.string s') w ∧ s'.size = N ∧ ∀ i, i < N → byteV s' i = g i := by
  rcases h.2 with ⟨rfl, h0⟩ | ⟨b, cap, cur, rfl, _, hh, _, _, _, ht⟩
  · refine ⟨ByteArray.empty, run_convert_bytes_nil w 49 5 Try.underlying49 Try.underlying5 0 0 9 Try.underlying9, by rw [h0]; rfl, fun i hi => by omega⟩
  · have hl : ((List.range N).map fun j => UInt8.ofNat (g j)).length = N := by simp
    have hgj : ∀ j (hj : j < ((List.range N).map fun j => UInt8.ofNat (g j)).length), (((List.range N).map fun j => UInt8.ofNat (g j))[j]).toNat = g j := by
      intro j hj
      simp only [List.getElem_map, List.getElem_range]
      exact UInt8.toNat_ofNat_of_lt' (hg j)
    have hb := run_convert_bytes_back (P := Try.prog) w 49 9 5 ⟨b, 0, none⟩ cap ((List.range N).map fun j => UInt8.ofNat (g j)) Try.underlying49 Try.underlying5 Try.underlying9 (by
      intro j hj
      rw [hgj j hj]
      have hjN : j < N := by rw [hl] at hj; exact hj
      have e : (⟨b, 0, none⟩ : Addr).add j = ⟨b, j, none⟩ := by unfold Addr.add; split <;> simp_all
      rw [e, cell_of_row _ _ _ _ _ _ hh]
      have h2 : (cur.toList.take (N * 1))[j]? = some (.int .u8 (g j)) := by
        rw [ht, List.getElem?_map, List.getElem?_range hjN]
        rfl
      rw [List.getElem?_take, if_pos (by omega)] at h2
      simpa using h2)
    rw [hl] at hb
    refine ⟨_, hb, by show (List.toArray _).size = N; simp, fun i hi => ?_⟩
    have hsz : (⟨((List.range N).map fun j => UInt8.ofNat (g j)).toArray⟩ : ByteArray).size = N := by show (List.toArray _).size = N; simp
    unfold byteV
    rw [dif_pos (by rw [hsz]; exact hi)]
    exact hgj i (by rw [hl]; exact hi)

def backL (f : Nat → Cls) (n k : Nat) : List Cls := (List.range k).map fun j => f (n - 1 - j)
theorem backL_back (f : Nat → Cls) (n : Nat) : Back f (fun j => (backL f n n).getD j clsNone) n := by
  intro j hj
  unfold backL
  simp only [List.getD_eq_getElem?_getD, List.getElem?_map, List.getElem?_range hj, Option.map_some, Option.getD_some]
theorem backL_ok (f : Nat → Cls) (n : Nat) (h : ∀ j, (f j).ok) (j : Nat) : ((backL f n n).getD j clsNone).ok := by
  by_cases hj : j < n
  · rw [show (backL f n n).getD j clsNone = f (n - 1 - j) from backL_back f n j hj]
    exact h _
  · rw [List.getD_eq_getElem?_getD, List.getElem?_eq_none (by unfold backL; simp; omega)]
    exact none_ok

def TurnRel1 (f : Nat → Cls) (n : Nat) (K : Int) (X : Nat) (w0 : World) (i : Value) (wr : World) : Prop :=
  ∃ (k : Nat) (v : Value), k ≤ n ∧ i = .int .i64 k ∧ Ext w0 wr ∧ wr.heap[X]? = some (.cells #[v, .int .i64 K] 24 (0, 0)) ∧ ClsRow wr (X + 1) v (backL f n k)
def TurnRel2 (s : ByteArray) (w0 : World) (v i : Value) (wr : World) : Prop :=
  ∃ k : Nat, k ≤ s.size ∧ i = .int .i64 k ∧ wr.ownsRow w0.heap.size 5 1 v k ((List.range k).map fun j => .int .u8 (byteV s (s.size - 1 - j))) ∧ Ext w0 wr
def TurnRel3 (N : Nat) (w0 : World) (i : Value) (wr : World) : Prop := ∃ k : Nat, k ≤ N ∧ i = .int .i64 k ∧ Ext w0 wr

theorem info_u8 : (Try.prog.info? 5).map (fun i => (i.zero, i.size, i.bytes)) = some (some (.int .u8 0), 1, 1) := by kernel_rfl

set_option maxRecDepth 100000 in
set_option maxHeartbeats 8000000 in
theorem lawTurned (p : Option Addr) (n cap : Nat) (K : Int) (f : Nat → Cls) (hcap : n ≤ cap) (hcls : ∀ j, (f j).ok) (s : ByteArray) (size : Int) (w : World) (hr : RdC w p n f) :
    Calls Try.prog 8 #[leafVal p n cap K, .string s, .int .i64 size] w fun e w' => e = .returned (.bool true) ∧ Ext w w' := by
  obtain ⟨i0, hi, hz0, hz1, hz2⟩ := info_parts info_cls
  obtain ⟨j0, hj, hy0, hy1, hy2⟩ := info_parts info_u8
  have hb1 := heap_alloc_new w (.cells #[.slice p n cap, .int .i64 K] 24)
  have hE0 := (Ext.refl w).alloc (.cells #[.slice p n cap, .int .i64 K] 24)
  have Hfew := Lib.hid (fun W => few_any p n cap K s W)
  have Hal := Lib.hid (fun W => alive_any W)
  by_cases hfew : n ≤ 100 ∧ s.size ≤ 300
  · obtain ⟨hn, hs⟩ := hfew
    rw [decide_eq_true hn, decide_eq_true hs] at Hfew
    have Hx := Lib.hid (fun W (hW : Ext w W) => scounts_all p n cap K f hcap (by omega) s (by omega) size hcls W (hr.ext hW))
    have hy : ∀ p' cap' (_ : n ≤ cap') (s' : ByteArray) (_ : BackT s s') W (_ : RdC W p' n (fun j => (backL f n n).getD j clsNone)),
        Calls Try.prog 22 #[leafVal p' n cap' K, .string s', .int .i64 size] W fun e w' => ∃ v g, e = .returned (.tuple #[v, .int .i64 (cntsN f n s.size size (checkV f n K s.size size)), .int .i64 (checkV f n K s.size size)]) ∧
          Sl w' v (cntsL f s n K (checkV f n K s.size size)).length (I g) ∧ (∀ i, i < (cntsL f s n K (checkV f n K s.size size)).length → IL (cntsL f s n K (checkV f n K s.size size)) i = g ((cntsL f s n K (checkV f n K s.size size)).length - 1 - i)) ∧ Ext W w' := by
      intro p' cap' hcap' s' hs' W hr'
      have h := scounts_all p' n cap' K (fun j => (backL f n n).getD j clsNone) hcap' (by omega) s' (by have := hs'.1; omega) size (backL_ok f n hcls) W hr'
      obtain ⟨e1, e2⟩ := cntsL_back (K := K) (size := size) (backL_back f n) hs'
      rw [hs'.1, checkV_back (backL_back f n), cntsN_back (backL_back f n), e1] at h
      exact h.mono fun e w' ⟨v, h1, h2, h3⟩ => ⟨v, _, h1, h2, e2, h3⟩
    have Hy := Lib.hid hy
    have hlL := cntsL_len f s n K (checkV f n K s.size size)
    clear hy
    generalize cntsN f n s.size size (checkV f n K s.size size) = N at *
    generalize cntsL f s n K (checkV f n K s.size size) = L at *
    generalize checkV f n K s.size size = z at *
    have Hr := Lib.hid hr
    clear hr hcls
    unfold leafVal at *
    go_enter Try.func8, Try.ntmps8
    go_wp2_with fail
    generalize w.alloc (.cells #[.slice p n cap, .int .i64 K] 24) = W at *
    refine (Hfew.out _).mono ?_
    rintro e w2 ⟨rfl, hE2⟩
    have l0 : w2.cell? ⟨w.heap.size, 0, none⟩ = some (.slice p n cap) := hE2.cell (cell_of_row _ _ _ _ _ _ hb1)
    have l1 : w2.cell? ⟨w.heap.size, 1, none⟩ = some (.int .i64 K) := hE2.cell (cell_of_row _ _ _ _ _ _ hb1)
    have HE2 := Lib.hid (hE0.trans hE2)
    clear hE0 hE2 hb1
    generalize hB : w.heap.size = B at *
    have a0 := ((Ext.refl w2).alloc (.cells #[.slice none 0 0, .int .i64 K] 24)).cell l0
    have a1 := ((Ext.refl w2).alloc (.cells #[.slice none 0 0, .int .i64 K] 24)).cell l1
    have hX := heap_alloc_new w2 (.cells #[.slice none 0 0, .int .i64 K] 24)
    have hEX := (Ext.refl w2).alloc (.cells #[.slice none 0 0, .int .i64 K] 24)
    have HB := Lib.hid hB
    clear hB
    go_wp2_with fail
    obtain ⟨X, hXe⟩ : ∃ X, w2.heap.size = X := ⟨_, rfl⟩
    have HXe := Lib.hid hXe
    rw [hXe] at hX ⊢
    have HX := Lib.hid hX
    have HEX := Lib.hid hEX
    clear hX hEX a0 a1 hXe
    generalize w2.alloc (.cells #[.slice none 0 0, .int .i64 K] 24) = W2 at *
    go_loopw [8, 29] (fun _ i wr => TurnRel1 f n K X w2 i wr) (fun _ i _ => n - (intOf i).toNat)
    case atStart => exact ⟨0, _, by omega, rfl, HEX.out, HX.out, by simp [ClsRow, World.ownsRow, backL]⟩
    case round =>
      obtain ⟨k, v, hk, rfl, hE, h2, hrow⟩ := hrel
      have hBX : B < X := by have h5 := World.block_lt_of_cell? _ _ l0; have h6 := HXe.out; simp only [] at h5; omega
      have HE := Lib.hid hE
      have x0 : wr.cell? ⟨X, 0, none⟩ = some v := cell_of_row _ _ _ _ _ _ h2
      have x1 : wr.cell? ⟨X, 1, none⟩ = some (.int .i64 K) := cell_of_row _ _ _ _ _ _ h2
      have fx : wr.frozen? ⟨X, 0, none⟩ = false := frozen_of_row _ _ _ _ _ h2
      have hXs : X < wr.heap.size := (Array.getElem?_eq_some_iff.1 h2).1
      have b0 := hE.cell l0
      have b1 := hE.cell l1
      obtain ⟨pv, cv, rfl, hcv, hpv, hrd⟩ := hrow.rd
      have hlen : (backL f n k).length = k := by unfold backL; simp
      have HRow := Lib.hid hrow
      have H2 := Lib.hid h2
      clear HX HEX hE h2 hrow
      by_cases hlt : k < n
      · have hstep : backL f n (k + 1) = backL f n k ++ [f (n - 1 - k)] := by unfold backL; rw [List.range_succ, List.map_append]; rfl
        obtain ⟨q, hq⟩ : ∃ q : Nat, q = n - 1 - k := ⟨_, rfl⟩
        obtain ⟨b, off, rfl, d0, d1, d2, d3⟩ := (Hr.out.ext (HE2.out.trans HE.out)).at (show q < n by omega)
        rw [← hq] at hstep
        generalize f q = d at *
        generalize backL f n k = ks at *
        have i1 : IntKind.i64.wrap ((n : Int) - 1) = (n : Int) - 1 := IntWalk.i64_in _ ⟨by omega, by omega⟩
        have i2 : IntKind.i64.wrap ((n : Int) - 1 - k) = (q : Int) := by rw [IntWalk.i64_in _ ⟨by omega, by omega⟩]; omega
        have t1 : (0 : Int) ≤ (q : Int) := by omega
        have t2 : (q : Int) < (n : Int) := by omega
        have t3 : (k : Int) < (n : Int) := by omega
        have Hs := Lib.hid hstep
        have Hlen := Lib.hid hlen
        clear hstep hlen hrd hpv hq
        go_wp2_with fail
        refine wp_region_permE (last := 15) (S := fun W' => Ext w2 W' ∧ W'.cell? ⟨X, 0, none⟩ = some (.slice pv ks.length cv) ∧ W'.cell? ⟨B, 0, none⟩ = some (.slice (some ⟨b, off, none⟩) n cap) ∧ W'.cell? ⟨b, off + q * 4, none⟩ = some (.int .u64 d.w0) ∧ W'.cell? ⟨b, off + q * 4 + 1, none⟩ = some (.int .u64 d.w1) ∧ W'.cell? ⟨b, off + q * 4 + 2, none⟩ = some (.int .u64 d.w2) ∧ W'.cell? ⟨b, off + q * 4 + 3, none⟩ = some (.int .u64 d.w3))
          [(0, true), (1, true), (2, true), (3, true), (4, true), (5, true), (6, true), (7, true), (8, true), (9, true), (10, true), (11, true), (12, false), (13, false), (14, true), (15, false)] (by kernel_rfl) rfl (by kernel_rfl) (by kernel_rfl) ⟨HE.out.drew, x0, b0, d0, d1, d2, d3⟩ ?_
        refine wpPermE_take rfl rfl (.pointer (some ⟨X, 0, none⟩)) (fun W' hS => ?_) (fun Kt hK => ?_)
        · obtain ⟨s0, s1, s2, q0, q1, q2, q3⟩ := hS; go_simp
        go_simp
        refine hK _ _ ?_
        clear hK Kt
        refine wpPermE_take rfl rfl (.slice pv ks.length cv) (fun W' hS => ?_) (fun Kt hK => ?_)
        · obtain ⟨s0, s1, s2, q0, q1, q2, q3⟩ := hS; go_simp
        go_simp
        refine hK _ _ ?_
        clear hK Kt
        refine wpPermE_take rfl rfl (.pointer (some ⟨B, 0, none⟩)) (fun W' hS => ?_) (fun Kt hK => ?_)
        · obtain ⟨s0, s1, s2, q0, q1, q2, q3⟩ := hS; go_simp
        go_simp
        refine hK _ _ ?_
        clear hK Kt
        refine wpPermE_take rfl rfl (.slice (some ⟨b, off, none⟩) n cap) (fun W' hS => ?_) (fun Kt hK => ?_)
        · obtain ⟨s0, s1, s2, q0, q1, q2, q3⟩ := hS; go_simp
        go_simp
        refine hK _ _ ?_
        clear hK Kt
        refine wpPermE_take rfl rfl (.pointer (some ⟨B, 0, none⟩)) (fun W' hS => ?_) (fun Kt hK => ?_)
        · obtain ⟨s0, s1, s2, q0, q1, q2, q3⟩ := hS; go_simp
        go_simp
        refine hK _ _ ?_
        clear hK Kt
        refine wpPermE_take rfl rfl (.slice (some ⟨b, off, none⟩) n cap) (fun W' hS => ?_) (fun Kt hK => ?_)
        · obtain ⟨s0, s1, s2, q0, q1, q2, q3⟩ := hS; go_simp
        go_simp
        refine hK _ _ ?_
        clear hK Kt
        refine wpPermE_take rfl rfl (.int .i64 n) (fun W' hS => ?_) (fun Kt hK => ?_)
        · obtain ⟨s0, s1, s2, q0, q1, q2, q3⟩ := hS; go_simp
        go_simp
        refine hK _ _ ?_
        clear hK Kt
        refine wpPermE_take rfl rfl (.int .i64 ((n : Int) - 1)) (fun W' hS => ?_) (fun Kt hK => ?_)
        · obtain ⟨s0, s1, s2, q0, q1, q2, q3⟩ := hS; go_simp
        go_simp
        refine hK _ _ ?_
        clear hK Kt
        refine wpPermE_take rfl rfl (.int .i64 k) (fun W' hS => ?_) (fun Kt hK => ?_)
        · obtain ⟨s0, s1, s2, q0, q1, q2, q3⟩ := hS; go_simp
        go_simp
        refine hK _ _ ?_
        clear hK Kt
        refine wpPermE_take rfl rfl (.int .i64 q) (fun W' hS => ?_) (fun Kt hK => ?_)
        · obtain ⟨s0, s1, s2, q0, q1, q2, q3⟩ := hS; go_simp
        go_simp
        refine hK _ _ ?_
        clear hK Kt
        refine wpPermE_take rfl rfl (.pointer (some ⟨b, off + q * 4, none⟩)) (fun W' hS => ?_) (fun Kt hK => ?_)
        · obtain ⟨s0, s1, s2, q0, q1, q2, q3⟩ := hS; go_simp
        go_simp
        refine hK _ _ ?_
        clear hK Kt
        refine wpPermE_take rfl rfl (d.val) (fun W' hS => ?_) (fun Kt hK => ?_)
        · obtain ⟨s0, s1, s2, q0, q1, q2, q3⟩ := hS; go_simp
        go_simp
        refine hK _ _ ?_
        clear hK Kt
        refine wpPermE_bar rfl rfl (fun Kt hK => ?_)
        go_simp
        have hE3 : Ext wr (wr.alloc (.cells #[.int .u64 d.w0, .int .u64 d.w1, .int .u64 d.w2, .int .u64 d.w3] 27)).drew := ((Ext.refl wr).alloc _).drew
        have hnews : ∀ (j : Nat) (u : Value), [Value.int .u64 d.w0, .int .u64 d.w1, .int .u64 d.w2, .int .u64 d.w3][j]? = some u → (wr.alloc (.cells #[.int .u64 d.w0, .int .u64 d.w1, .int .u64 d.w2, .int .u64 d.w3] 27)).drew.cell? ((⟨wr.heap.size, 0, none⟩ : Addr).add j) = some u := cls_new wr (.int .u64 d.w0) (.int .u64 d.w1) (.int .u64 d.w2) (.int .u64 d.w3) 27
        refine hK _ _ (fun _ => ⟨HE.out.trans hE3, hE3.cell x0, hE3.cell b0, hE3.cell d0, hE3.cell d1, hE3.cell d2, hE3.cell d3⟩) ?_
        clear hK Kt
        generalize (wr.alloc (.cells #[.int .u64 d.w0, .int .u64 d.w1, .int .u64 d.w2, .int .u64 d.w3] 27)).drew = w3 at *
        have hs3 := hE3.size
        have hrow3 := hE3.owns HRow.out
        refine wpPermE_bar rfl rfl (fun Kt hK => ?_)
        refine wp_append_own w3 (.tmp 33) (.tmp 44) 22 rfl (X + 1) 27 i0 clsNone.val 4 32 Try.underlying22 hi hz0 hz1 hz2 rfl (by decide) _ ks.length (ks.flatMap cells4) rfl hrow3 ⟨wr.heap.size, 0, none⟩ 1 1 [.int .u64 d.w0, .int .u64 d.w1, .int .u64 d.w2, .int .u64 d.w3] rfl rfl hnews ?c2 ?c3 ?c4 ?c5 ?_
        case c2 =>
          intro u hu
          simp only [List.mem_cons, List.not_mem_nil, or_false] at hu
          rcases hu with rfl | rfl | rfl | rfl <;> rfl
        case c3 => have := Hlen.out; unfold maxLen; omega
        case c4 => have := Hlen.out; omega
        case c5 => omega
        intro v' w4 hown4 hgrow _
        obtain ⟨pv', cv', rfl, hcv'⟩ := ownsRow_form hown4
        have hg4 : w3.grownBy w4 (Value.slice pv ks.length cv).ownBlock := hgrow
        have hown4' : w4.ownsRow (X + 1) 27 4 (.slice pv' (ks.length + 1) cv') (ks ++ [d]).length ((ks ++ [d]).flatMap cells4) := by rw [List.length_append, List.flatMap_append]; exact hown4
        have hbk : ∀ q, some q = (Value.slice pv ks.length cv).ownBlock → X + 1 ≤ q := fun q hq => (World.ownsRow.lt hrow3 q hq.symm).1
        have hne : ∀ x, x ≤ X → some x ≠ (Value.slice pv ks.length cv).ownBlock := fun x hx h => by have := hbk x h; omega
        have hE4 : Ext w2 w4 := (HE.out.trans hE3).grown hg4 (fun q hq => by have := hbk q hq.symm; have := HXe.out; omega)
        have h24 : w4.heap[X]? = some (.cells #[.slice pv ks.length cv, .int .i64 K] 24 (0, 0)) := (hg4.block X (by omega) (hne _ (by omega))).trans (hE3.heap H2.out)
        have m0 : w4.cell? ⟨X, 0, none⟩ = some (.slice pv ks.length cv) := cell_of_row _ _ _ _ _ _ h24
        have n0 : w4.frozen? ⟨X, 0, none⟩ = false := frozen_of_row _ _ _ _ _ h24
        have hs4 := hg4.size
        have hbX : ∀ (x : Addr) (u : Value), x.block ≤ X → w3.cell? x = some u → w4.cell? x = some u := fun x u hx hu => hg4.cell hu (hne _ hx)
        have hdb : b ≤ X := by
          have h5 := (Hr.out.ext HE2.out)
          rcases h5 with h5 | ⟨b', o', h6, h7⟩
          · omega
          · injection h6 with h6
            injection h6 with h6 _
            have h8 := World.block_lt_of_cell? _ _ (h7 q (by omega)).1
            have h9 := HXe.out
            simp only [] at h8
            omega
        refine hK _ _ (fun _ => ⟨hE4, m0, hbX _ _ (by show B ≤ X; omega) (hE3.cell b0), hbX _ _ hdb (hE3.cell d0), hbX _ _ hdb (hE3.cell d1), hbX _ _ hdb (hE3.cell d2), hbX _ _ hdb (hE3.cell d3)⟩) ?_
        clear hK Kt
        have Hown4 := Lib.hid hown4'
        have H24 := Lib.hid h24
        have HE4 := Lib.hid hE4
        clear hown4 hown4' h24 hE4 hrow3 hnews hgrow hg4 hbk hne hbX x0 x1 fx b0 b1 d0 d1 d2 d3
        go_simp
        refine wpPermE_take rfl rfl (.pointer (some ⟨X, 0, none⟩)) (fun W' hS => ?_) (fun Kt hK => ?_)
        · obtain ⟨s0, s1, s2, q0, q1, q2, q3⟩ := hS; go_simp
        go_simp
        refine hK _ _ ?_
        clear hK Kt
        refine wpPermE_bar rfl rfl (fun Kt hK => ?_)
        go_simp
        refine hK _ _ (fun h => absurd rfl h) ?_
        clear hK Kt
        refine wpPermE_end (NoPanic.normal ?_)
        have hfin : Hid ((w4.setCell ⟨X, 0, none⟩ (.slice pv' (ks.length + 1) cv')).heap[X]? = some (.cells #[.slice pv' (ks.length + 1) cv', .int .i64 K] 24 (0, 0))) := heap_setCell_same _ _ 0 _ _ _ H24.out
        have hext : Hid (Ext w2 (w4.setCell ⟨X, 0, none⟩ (.slice pv' (ks.length + 1) cv'))) := HE4.out.setCell (by rw [HXe.out]; exact Nat.le_refl _) _
        have hro : Hid (ClsRow (w4.setCell ⟨X, 0, none⟩ (.slice pv' (ks.length + 1) cv')) (X + 1) (.slice pv' (ks.length + 1) cv') (ks ++ [d])) := by
          obtain ⟨e1, e2⟩ := Hown4.out
          refine ⟨e1, ?_⟩
          rcases e2 with e2 | ⟨g, cap, cur, e3, e4, e5, e6⟩
          · exact .inl e2
          · exact .inr ⟨g, cap, cur, e3, e4, (heap_setCell_other _ _ _ _ (by show g ≠ X; omega)).trans e5, e6⟩
        go_wp2_with fail
        go_roundw
        case rel => exact ⟨k + 1, _, by omega, by go_num, hext.out, hfin.out, by rw [Hs.out]; exact hro.out⟩
        case measure => simp [intOf]; omega
      · have e : k = n := by omega
        subst e
        have Hlen := Lib.hid hlen
        have Hrd := Lib.hid hrd
        have Hok := Lib.hid (fun (W' : World) (h : Ext wr W') => h.cell x0)
        have Hok1 := Lib.hid (fun (W' : World) (h : Ext wr W') => h.cell x1)
        have HB0 := Lib.hid (fun (W' : World) (h : Ext wr W') => h.cell b0)
        have HB1 := Lib.hid (fun (W' : World) (h : Ext wr W') => h.cell b1)
        clear hlen hrd hpv fx x0 x1 b0 b1 H2 HRow
        obtain ⟨wo, rfl⟩ : ∃ wo : World, wo = wr := ⟨_, rfl⟩
        go_wp2_with fail
        go_loopw [9, 10, 50] (fun v _ i wr => TurnRel2 s wo v i wr) (fun _ _ i _ => s.size - (intOf i).toNat)
        case atStart => exact ⟨0, by omega, rfl, by simp [World.ownsRow], Ext.refl _⟩
        case round =>
          obtain ⟨k2, hk2, rfl, hown, hEr⟩ := hrel
          have Hown := Lib.hid hown
          have HEr := Lib.hid hEr
          have hszr := hEr.size
          clear hown hEr
          by_cases hlt2 : k2 < s.size
          · obtain ⟨q, hq⟩ : ∃ q : Nat, q = s.size - 1 - k2 := ⟨_, rfl⟩
            have hqs : q < s.size := by omega
            have hbv := byteV_eq hqs
            have hstep : (List.range (k2 + 1)).map (fun j => Value.int .u8 (byteV s (s.size - 1 - j))) = (List.range k2).map (fun j => Value.int .u8 (byteV s (s.size - 1 - j))) ++ [.int .u8 (byteV s q)] := by rw [List.range_succ, List.map_append, hq]; rfl
            have i1 : IntKind.i64.wrap ((s.size : Int) - 1) = (s.size : Int) - 1 := IntWalk.i64_in _ ⟨by omega, by omega⟩
            have i2 : IntKind.i64.wrap ((s.size : Int) - 1 - k2) = (q : Int) := by rw [IntWalk.i64_in _ ⟨by omega, by omega⟩]; omega
            have t1 : (0 : Int) ≤ (q : Int) := by omega
            have t2 : (q : Int) < (s.size : Int) := by omega
            have t3 : (k2 : Int) < (s.size : Int) := by omega
            have Hs := Lib.hid hstep
            clear hstep hq
            generalize (List.range k2).map (fun j => Value.int .u8 (byteV s (s.size - 1 - j))) = xs at *
            go_wp2_with (at_builtin; refine wpList_append_own _ rfl (.tmp 53) (.tmp 61) 49 rfl wo.heap.size 5 j0 (.int .u8 0) 1 1 Try.underlying49 hj hy0 hy1 hy2 rfl (by decide) _ _ _ rfl (Hown.out.alloc _) ⟨wr.heap.size, 0, none⟩ 1 1 [.int .u8 (byteV s q)] rfl rfl ?c1 ?c2 ?c3 ?c4 ?c5 ?_)
            case c1 => exact one_new _ _ _
            case c2 => intro u hu; rw [List.mem_singleton.1 hu]; rfl
            case c3 => unfold maxLen; omega
            case c4 => omega
            case c5 => simp; omega
            intro v' w5 hown5 hgrow5 _
            have hE5 : Ext wo w5 := (HEr.out.alloc _).grown hgrow5 (fun q hq => (Hown.out.lt q hq).1)
            have Hown5 := Lib.hid hown5
            clear hown5 hgrow5
            go_wp2
            go_roundw
            case rel => exact ⟨k2 + 1, by omega, by go_num, by rw [Hs.out]; exact Hown5.out, hE5⟩
            case measure => simp [intOf]; omega
          · have e : k2 = s.size := by omega
            subst e
            have b0 := HB0.out _ HEr.out
            have b1 := HB1.out _ HEr.out
            have HEw := Lib.hid (HE2.out.trans (HE.out.trans HEr.out))
            go_wp2_with fail
            refine (Hx.out _ HEw.out).mono ?_
            rintro e w6 ⟨v1, rfl, hv1, hE6⟩
            have x0 := Hok.out _ (HEr.out.trans hE6)
            have x1 := Hok1.out _ (HEr.out.trans hE6)
            rw [Hlen.out] at x0
            obtain ⟨s', hconv, hss, hsb⟩ := conv_bytes w6 _ _ s.size (fun j => byteV s (s.size - 1 - j)) (fun j => byteV_lt s _) (hE6.owns Hown.out)
            have hrd6 := Hrd.out.ext (HEr.out.trans hE6)
            rw [Hlen.out] at hrd6 hcv
            have Hy2 := Lib.hid (Hy.out pv cv hcv s' ⟨hss, fun i hi => hsb i hi⟩ w6 hrd6)
            have HE6 := Lib.hid (HEw.out.trans hE6)
            have Hv1 := Lib.hid hv1
            clear hE6 hv1 b0 b1 hrd6 hss hsb Hx Hy
            unfold leafVal at Hy2
            go_wp2_with fail
            refine Hy2.out.mono ?_
            rintro e w7 ⟨v2, g, rfl, hv2, hg, hE7⟩
            obtain ⟨p1, c1, rfl, hc1, hr1⟩ := Hv1.out.ext hE7
            obtain ⟨p2, c2, rfl, hc2, hr2⟩ := hv2
            have Hr1 := Lib.hid hr1
            have Hr2 := Lib.hid hr2
            have Hg := Lib.hid hg
            have HE7 := Lib.hid (HE6.out.trans hE7)
            clear hr1 hr2 hg hE7 hconv x0 x1 Hy2
            generalize hM : L.length = M at *
            clear hM
            go_wp2_with fail
            go_loopw [17, 98] (fun _ i wr => TurnRel3 M w7 i wr) (fun _ i _ => M - (intOf i).toNat)
            case atStart => exact ⟨0, by omega, rfl, Ext.refl _⟩
            case round =>
              obtain ⟨k3, hk3, rfl, hEt⟩ := hrel
              have HEt := Lib.hid hEt
              clear hEt
              by_cases hlt3 : k3 < M
              · obtain ⟨q, hq⟩ : ∃ q : Nat, q = M - 1 - k3 := ⟨_, rfl⟩
                obtain ⟨e1, o1, rfl, y1⟩ := (Hr1.out.ext HEt.out).at hlt3
                obtain ⟨e2, o2, rfl, y2⟩ := (Hr2.out.ext HEt.out).at (show q < M by omega)
                unfold I at y1 y2
                rw [Hg.out k3 hlt3, ← hq] at y1
                have i1 : IntKind.i64.wrap ((M : Int) - 1) = (M : Int) - 1 := IntWalk.i64_in _ ⟨by omega, by omega⟩
                have i2 : IntKind.i64.wrap ((M : Int) - 1 - k3) = (q : Int) := by rw [IntWalk.i64_in _ ⟨by omega, by omega⟩]; omega
                have t1 : (0 : Int) ≤ (q : Int) := by omega
                have t2 : (q : Int) < (M : Int) := by omega
                have t3 : (k3 : Int) < (M : Int) := by omega
                have t4 : (0 : Int) ≤ (k3 : Int) := by omega
                generalize g q = y at *
                clear hq
                go_wp2_with fail
                go_quiet (fail)
                go_wp2_with fail
                go_roundw
                case rel => exact ⟨k3 + 1, by omega, by go_num, HEt.out.drewN _⟩
                case measure => simp [intOf]; omega
              · have e : k3 = M := by omega
                subst e
                go_wp2_with fail
                refine (Hal.out _).mono ?_
                rintro e w8 ⟨rfl, hE8⟩
                go_wp2_with fail
                go_ret
                exact ⟨rfl, (HE7.out.trans HEt.out).trans hE8⟩
  · rw [not_few hfew] at Hfew
    clear hfew hr hcls
    unfold leafVal at *
    go_enter Try.func8, Try.ntmps8
    go_wp2_with fail
    generalize w.alloc (.cells #[.slice p n cap, .int .i64 K] 24) = W at *
    refine (Hfew.out _).mono ?_
    rintro e w2 ⟨rfl, hE2⟩
    have HE2 := Lib.hid (hE0.trans hE2)
    clear hE0 hE2 hb1
    go_wp2_with fail
    refine (Hal.out _).mono ?_
    rintro e w3 ⟨rfl, hE3⟩
    go_wp2_with fail
    go_ret
    exact ⟨rfl, HE2.out.trans hE3⟩
end Go.Proofs.Ytmadelflnjhibaa
