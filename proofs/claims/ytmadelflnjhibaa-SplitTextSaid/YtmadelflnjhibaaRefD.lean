import Derived.Test.YtmadelflnjhibaaRefC
namespace Go.Proofs.Ytmadelflnjhibaa
open Go.RowKit
attribute [local go_sem] Cls.val clsNone clsAll

theorem info_u64' : (Try.prog.info? 25).map (fun i => (i.zero, i.size, i.bytes)) = some (some (.int .u64 0), 1, 8) := by kernel_rfl

def MarkRel (T : TypeId) (g : Nat → Int) (n : Nat) (w0 : World) (v i : Value) (wr : World) : Prop :=
  ∃ k : Nat, k ≤ n ∧ i = .int .i64 k ∧ wr.ownsRow w0.heap.size T 1 v k ((List.range k).map (U g)) ∧ Ext w0 wr

set_option maxRecDepth 100000 in
set_option maxHeartbeats 2000000 in
theorem refmarks_any (s : ByteArray) (hs : s.size ≤ 1099511627776) (c : Cls) (hc : c.ok) (w : World) :
    Calls Try.prog 19 #[.string s, c.val] w fun e w' => ∃ v, e = .returned v ∧ w'.ownsRow w.heap.size 25 1 v s.size ((List.range s.size).map (U fun j => one (has c (byteV s j)))) ∧ Ext w w' := by
  obtain ⟨i0, hi, hz0, hz1, hz2⟩ := info_parts info_u64
  have hE0 := (Ext.refl w).alloc (.cells #[.int .u64 c.w0, .int .u64 c.w1, .int .u64 c.w2, .int .u64 c.w3] 27)
  have hnew := heap_alloc_new w (.cells #[.int .u64 c.w0, .int .u64 c.w1, .int .u64 c.w2, .int .u64 c.w3] 27)
  have Hh := Lib.hid (fun i W => refhas_any c hc (byteV s i) (byteV_lt s i) W)
  clear hc
  unfold Cls.val
  go_enter Try.func19, Try.ntmps19
  go_wp2_with fail
  generalize w.alloc (.cells #[.int .u64 c.w0, .int .u64 c.w1, .int .u64 c.w2, .int .u64 c.w3] 27) = W at *
  have HE0 := Lib.hid hE0
  have Hnew := Lib.hid hnew
  clear hE0 hnew
  generalize w.heap.size = B at *
  go_loopw [5, 6, 7] (fun v i _ wr => MarkRel 25 (fun j => one (has c (byteV s j))) s.size W v i wr) (fun _ i _ _ => s.size - (intOf i).toNat)
  case atStart => exact ⟨0, by omega, rfl, by simp [World.ownsRow], Ext.refl _⟩
  case round =>
    obtain ⟨k, hk, rfl, hown, hE⟩ := hrel
    obtain ⟨⟨c0, c1, c2, c3⟩, -⟩ := cls_cells (hE.heap Hnew.out)
    have Hown := Lib.hid hown
    have HE := Lib.hid hE
    clear hown hE
    by_cases hlt : k < s.size
    · have hbv := byteV_eq hlt
      have b1 : (0 : Int) ≤ (k : Int) := by omega
      have b2 : (k : Int) < (s.size : Int) := by omega
      have hstep : (List.range (k + 1)).map (U fun j => one (has c (byteV s j))) = (List.range k).map (U fun j => one (has c (byteV s j))) ++ [.int .u64 (one (has c (byteV s k)))] := by rw [List.range_succ, List.map_append]; rfl
      generalize hx : has c (byteV s k) = x at *
      have Hs := Lib.hid hstep
      have Hh2 := Lib.hid (Hh.out k)
      rw [hx] at Hh2
      clear hstep hx
      go_wp2_with fail
      go_region_held3 (fun W' => Ext wr W' ∧ W'.cell? ⟨B, 0, none⟩ = some (.int .u64 c.w0) ∧ W'.cell? ⟨B, 1, none⟩ = some (.int .u64 c.w1) ∧ W'.cell? ⟨B, 2, none⟩ = some (.int .u64 c.w2) ∧ W'.cell? ⟨B, 3, none⟩ = some (.int .u64 c.w3))
        ((first | exact ⟨Ext.refl wr, c0, c1, c2, c3⟩ | exact ⟨(Ext.refl wr).drew, c0, c1, c2, c3⟩ | exact ⟨(Ext.refl wr).drew.trans hb2, hb2.cell c0, hb2.cell c1, hb2.cell c2, hb2.cell c3⟩))
        ((go_at_call 49; refine (Hh2.out _).mono ?_; rintro e w2 ⟨rfl, hb2⟩))
      have HE2 := Lib.hid (HE.out.trans ((Ext.refl wr).drew.trans hb2))
      have Hown2 := Lib.hid (((Ext.refl wr).drew.trans hb2).owns Hown.out)
      have hsz := HE2.out.size
      clear hb2 c0 c1 c2 c3 Hown
      cases x
      · go_wp2_with (at_builtin; refine wpList_append_own _ rfl (.tmp 19) (.tmp 21) 31 rfl W.heap.size 25 i0 (.int .u64 0) 1 8 Try.underlying31 hi hz0 hz1 hz2 rfl (by decide) _ _ _ rfl (Hown2.out.alloc _) ⟨w2.heap.size, 0, none⟩ 1 1 [.int .u64 0] rfl rfl ?c1 ?c2 ?c3 ?c4 ?c5 ?_)
        case c1 => exact one_new _ _ _
        case c2 => intro u hu; rw [List.mem_singleton.1 hu]; rfl
        case c3 => unfold maxLen; omega
        case c4 => omega
        case c5 => simp; omega
        intro v' w3 hown3 hgrow _
        have hE3 : Ext W w3 := (HE2.out.alloc _).grown hgrow (fun q hq => (Hown2.out.lt q hq).1)
        have Hown3 := Lib.hid hown3
        clear hown3 hgrow
        go_wp2
        go_roundw
        case rel => exact ⟨k + 1, by omega, by go_num, by rw [Hs.out]; exact Hown3.out, hE3⟩
        case measure => simp [intOf]; omega
      · go_wp2_with (at_builtin; refine wpList_append_own _ rfl (.tmp 19) (.tmp 21) 31 rfl W.heap.size 25 i0 (.int .u64 0) 1 8 Try.underlying31 hi hz0 hz1 hz2 rfl (by decide) _ _ _ rfl (Hown2.out.alloc _) ⟨w2.heap.size, 0, none⟩ 1 1 [.int .u64 1] rfl rfl ?c1 ?c2 ?c3 ?c4 ?c5 ?_)
        case c1 => exact one_new _ _ _
        case c2 => intro u hu; rw [List.mem_singleton.1 hu]; rfl
        case c3 => unfold maxLen; omega
        case c4 => omega
        case c5 => simp; omega
        intro v' w3 hown3 hgrow _
        have hE3 : Ext W w3 := (HE2.out.alloc _).grown hgrow (fun q hq => (Hown2.out.lt q hq).1)
        have Hown3 := Lib.hid hown3
        clear hown3 hgrow
        go_wp2
        go_roundw
        case rel => exact ⟨k + 1, by omega, by go_num, by rw [Hs.out]; exact Hown3.out, hE3⟩
        case measure => simp [intOf]; omega
    · have e : k = s.size := by omega
      subst e
      go_wp2_with fail
      go_ret
      exact ⟨_, rfl, ownsRow_lower Hown.out HE0.out.size, HE0.out.trans HE.out⟩

set_option maxRecDepth 100000 in
set_option maxHeartbeats 2000000 in
theorem refplaces_any (p : Option Addr) (n cap : Nat) (K : Int) (f : Nat → Cls) (c : Cls) (hcap : n ≤ cap) (hn : n ≤ 1099511627776) (w : World) (hr : RdC w p n f) :
    Calls Try.prog 21 #[leafVal p n cap K, c.val] w fun e w' => ∃ v, e = .returned v ∧ w'.ownsRow w.heap.size 25 1 v n ((List.range n).map (U fun j => one (decide (f j = c)))) ∧ Ext w w' := by
  obtain ⟨i0, hi, hz0, hz1, hz2⟩ := info_parts info_u64
  obtain ⟨hb1, hb2⟩ := box_cells w (.cells #[.slice p n cap, .int .i64 K] 24) (.cells #[.int .u64 c.w0, .int .u64 c.w1, .int .u64 c.w2, .int .u64 c.w3] 27)
  have hE0 := ((Ext.refl w).alloc (.cells #[.slice p n cap, .int .i64 K] 24)).alloc (.cells #[.int .u64 c.w0, .int .u64 c.w1, .int .u64 c.w2, .int .u64 c.w3] 27)
  have Hr := Lib.hid hr
  clear hr
  unfold Cls.val leafVal
  go_enter Try.func21, Try.ntmps21
  go_wp2_with fail
  generalize (w.alloc (.cells #[.slice p n cap, .int .i64 K] 24)).alloc (.cells #[.int .u64 c.w0, .int .u64 c.w1, .int .u64 c.w2, .int .u64 c.w3] 27) = W at *
  have HE0 := Lib.hid hE0
  have Hb1 := Lib.hid hb1
  have Hb2 := Lib.hid hb2
  clear hE0 hb1 hb2
  generalize w.heap.size = B at *
  go_loopw [5, 6, 7] (fun v i _ wr => MarkRel 25 (fun j => one (decide (f j = c))) n W v i wr) (fun _ i _ _ => n - (intOf i).toNat)
  case atStart => exact ⟨0, by omega, rfl, by simp [World.ownsRow], Ext.refl _⟩
  case round =>
    obtain ⟨k, hk, rfl, hown, hE⟩ := hrel
    obtain ⟨⟨c0, c1, c2, c3⟩, -⟩ := cls_cells (hE.heap Hb2.out)
    have l0 : wr.cell? ⟨B, 0, none⟩ = some (.slice p n cap) := hE.cell (cell_of_row _ _ _ _ _ _ Hb1.out)
    have Hown := Lib.hid hown
    have HE := Lib.hid hE
    clear hown hE
    by_cases hlt : k < n
    · obtain ⟨b, off, rfl, d0, d1, d2, d3⟩ := (Hr.out.ext (HE0.out.trans HE.out)).at hlt
      have heq := fun V => eql_cls (f k) c V
      have b1 : (0 : Int) ≤ (k : Int) := by omega
      have b2 : (k : Int) < (n : Int) := by omega
      have hstep : (List.range (k + 1)).map (U fun j => one (decide (f j = c))) = (List.range k).map (U fun j => one (decide (f j = c))) ++ [.int .u64 (one (decide (f k = c)))] := by rw [List.range_succ, List.map_append]; rfl
      generalize f k = d at *
      generalize hx : decide (d = c) = x at *
      have Hs := Lib.hid hstep
      clear hstep hx
      go_wp2_with fail
      go_quiet (fail)
      have HE2 := Lib.hid (HE.out.drewN nq)
      have Hown2 := Lib.hid (((Ext.refl wr).drewN nq).owns Hown.out)
      have hsz := HE2.out.size
      clear c0 c1 c2 c3 d0 d1 d2 d3 Hown l0
      generalize wr.drewN nq = w2 at *
      cases x
      · go_wp2_with (at_builtin; refine wpList_append_own _ rfl (.tmp 22) (.tmp 24) 31 rfl W.heap.size 25 i0 (.int .u64 0) 1 8 Try.underlying31 hi hz0 hz1 hz2 rfl (by decide) _ _ _ rfl (Hown2.out.alloc _) ⟨w2.heap.size, 0, none⟩ 1 1 [.int .u64 0] rfl rfl ?c1 ?c2 ?c3 ?c4 ?c5 ?_)
        case c1 => exact one_new _ _ _
        case c2 => intro u hu; rw [List.mem_singleton.1 hu]; rfl
        case c3 => unfold maxLen; omega
        case c4 => omega
        case c5 => simp; omega
        intro v' w3 hown3 hgrow _
        have hE3 : Ext W w3 := (HE2.out.alloc _).grown hgrow (fun q hq => (Hown2.out.lt q hq).1)
        have Hown3 := Lib.hid hown3
        clear hown3 hgrow
        go_wp2
        go_roundw
        case rel => exact ⟨k + 1, by omega, by go_num, by rw [Hs.out]; exact Hown3.out, hE3⟩
        case measure => simp [intOf]; omega
      · go_wp2_with (at_builtin; refine wpList_append_own _ rfl (.tmp 22) (.tmp 24) 31 rfl W.heap.size 25 i0 (.int .u64 0) 1 8 Try.underlying31 hi hz0 hz1 hz2 rfl (by decide) _ _ _ rfl (Hown2.out.alloc _) ⟨w2.heap.size, 0, none⟩ 1 1 [.int .u64 1] rfl rfl ?c1 ?c2 ?c3 ?c4 ?c5 ?_)
        case c1 => exact one_new _ _ _
        case c2 => intro u hu; rw [List.mem_singleton.1 hu]; rfl
        case c3 => unfold maxLen; omega
        case c4 => omega
        case c5 => simp; omega
        intro v' w3 hown3 hgrow _
        have hE3 : Ext W w3 := (HE2.out.alloc _).grown hgrow (fun q hq => (Hown2.out.lt q hq).1)
        have Hown3 := Lib.hid hown3
        clear hown3 hgrow
        go_wp2
        go_roundw
        case rel => exact ⟨k + 1, by omega, by go_num, by rw [Hs.out]; exact Hown3.out, hE3⟩
        case measure => simp [intOf]; omega
    · have e : k = n := by omega
      subst e
      go_wp2_with fail
      go_ret
      exact ⟨_, rfl, ownsRow_lower Hown.out HE0.out.size, HE0.out.trans HE.out⟩

set_option maxRecDepth 100000 in
set_option maxHeartbeats 2000000 in
theorem refcheck_any (p : Option Addr) (n cap : Nat) (K : Int) (f : Nat → Cls) (hcap : n ≤ cap) (hn : n ≤ 1099511627776) (hcls : ∀ j, (f j).ok) (s : ByteArray) (_ : s.size ≤ 1099511627776) (size : Int) (w : World) (hr : RdC w p n f) :
    Calls Try.prog 53 #[leafVal p n cap K, .string s, .int .i64 size] w fun e w' => e = .returned (.int .i64 (checkV f n K s.size size)) ∧ Ext w w' := by
  have hnew := heap_alloc_new w (.cells #[.slice p n cap, .int .i64 K] 24)
  have hE0 := (Ext.refl w).alloc (.cells #[.slice p n cap, .int .i64 K] 24)
  have hval : checkV f n K s.size size = if rightB f n K = true then (if n ≤ s.size then (if szOk n size = true then 0 else 50) else 0) else 170 := rfl
  have Hrt := Lib.hid (fun W (hW : Ext w W) => refright_any p n cap K f hcap hn hcls W (hr.ext hW))
  have Ham := Lib.hid (fun W => refamiss_any n s.size size W)
  generalize rightB f n K = r at *
  generalize checkV f n K s.size size = z at *
  have Hval := Lib.hid hval
  clear hval hr
  unfold leafVal at *
  go_enter Try.func53, Try.ntmps53
  go_wp2_with fail
  generalize w.alloc (.cells #[.slice p n cap, .int .i64 K] 24) = W at *
  refine (Hrt.out _ hE0).mono ?_
  rintro e w2 ⟨rfl, hE2⟩
  have c0 : w2.cell? ⟨w.heap.size, 0, none⟩ = some (.slice p n cap) := hE2.cell (cell_of_row _ _ _ _ _ _ hnew)
  have HE2 := Lib.hid (hE0.trans hE2)
  clear hE0 hnew hE2
  cases r
  · go_wp2_with fail
    go_ret
    have := Hval.out
    rw [if_neg (by decide)] at this
    exact ⟨by rw [this]; rfl, HE2.out⟩
  · go_wp2_with fail
    refine (Ham.out _).mono ?_
    rintro e w3 ⟨rfl, rfl⟩
    have hv := Hval.out
    rw [if_pos True.intro] at hv
    by_cases h1 : n ≤ s.size
    · rw [if_pos h1] at hv
      rw [decide_eq_true h1]
      cases hx : szOk n size
      · rw [hx, if_neg (by decide)] at hv
        go_wp2_with fail
        go_ret
        exact ⟨by rw [hv]; rfl, HE2.out⟩
      · rw [hx, if_pos rfl] at hv
        go_wp2_with fail
        go_ret
        exact ⟨by rw [hv]; rfl, HE2.out⟩
    · rw [if_neg h1] at hv
      rw [decide_eq_false h1]
      go_wp2_with fail
      go_ret
      exact ⟨by rw [hv]; rfl, HE2.out⟩
end Go.Proofs.Ytmadelflnjhibaa
