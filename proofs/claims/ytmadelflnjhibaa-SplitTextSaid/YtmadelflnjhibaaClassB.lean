import Derived.Test.YtmadelflnjhibaaClass
namespace Go.Proofs.Ytmadelflnjhibaa
open Go.RowKit
attribute [local go_sem] Cls.val clsNone clsAll

/-- How many bytes below n are told. -/
def cnt (f : Nat → Bool) : Nat → Nat
  | 0 => 0
  | n + 1 => cnt f n + if f n then 1 else 0

theorem cnt_le (f : Nat → Bool) (n : Nat) : cnt f n ≤ n := by
  induction n with
  | zero => exact Nat.le_refl _
  | succ n ih => unfold cnt; split <;> omega

def B' (f : Nat → Bool) (j : Nat) : Value := .bool (f j)

/-- A row of what a set has. -/
def BytesAt (c : Cls) (base : Nat) (v : Value) (w : World) : Prop := w.ownsRow base 4 1 v 256 ((List.range 256).map (B' (has c)))

def BytesRel (c : Cls) (w0 : World) (B : Nat) (v i : Value) (wr : World) : Prop :=
  ∃ k : Nat, k ≤ 256 ∧ i = .int .i64 k ∧ wr.ownsRow B 4 1 v k ((List.range k).map (B' (has c))) ∧ Ext w0 wr

set_option maxRecDepth 10000 in
set_option maxHeartbeats 1000000 in
theorem bytes_any (c : Cls) (hc : c.ok) (w : World) :
    Calls Try.prog 91 #[c.val] w fun e w' => ∃ v, e = .returned v ∧ BytesAt c w.heap.size v w' ∧ Ext w w' := by
  obtain ⟨i0, hi, hz0, hz1, hz2⟩ := info_parts info_bool
  have hE0 := (Ext.refl w).alloc (.cells #[.int .u64 c.w0, .int .u64 c.w1, .int .u64 c.w2, .int .u64 c.w3] 27)
  have hnew := heap_alloc_new w (.cells #[.int .u64 c.w0, .int .u64 c.w1, .int .u64 c.w2, .int .u64 c.w3] 27)
  have Hc := Lib.hid hc
  clear hc
  unfold Cls.val
  go_enter Try.func91, Try.ntmps91
  go_wp2_with fail
  generalize hW : w.alloc (.cells #[.int .u64 c.w0, .int .u64 c.w1, .int .u64 c.w2, .int .u64 c.w3] 27) = W at *
  have HE0 := Lib.hid hE0
  have Hnew := Lib.hid hnew
  clear hW hE0 hnew
  generalize hB : w.heap.size = B at *
  go_loopw [3, 4] (fun v i wr => BytesRel c W W.heap.size v i wr) (fun _ i _ => 256 - (intOf i).toNat)
  case atStart => exact ⟨0, by omega, rfl, by simp [World.ownsRow], Ext.refl _⟩
  case round =>
    obtain ⟨k, hk, rfl, hown, hE⟩ := hrel
    have Hown := Lib.hid hown
    have hbl := Hown.out.lt
    have HE := Lib.hid hE
    obtain ⟨⟨c0, c1, c2, c3⟩, -⟩ := cls_cells (hE.heap Hnew.out)
    clear hown hE
    by_cases hlt : k < 256
    · have i1 : IntKind.u8.wrap (k : Int) = k := IntWalk.u8_in _ ⟨by omega, by omega⟩
      go_wp2_with fail
      refine (refhas_any c Hc.out k (by omega) _).mono ?_
      rintro e w2 ⟨rfl, hE2⟩
      have Hown2 := Lib.hid (hE2.owns Hown.out)
      have HE2 := Lib.hid (HE.out.trans hE2)
      generalize hx : has c k = x
      have Hx := Lib.hid hx
      clear hE2 hx Hown c0 c1 c2 c3
      have hs2 := HE2.out.size
      have hs1 := HE0.out.size
      go_wp2_with (at_builtin; refine wpList_append_own _ rfl (.tmp 9) (.tmp 14) 103 rfl W.heap.size 4 i0 (.bool false) 1 1 Try.underlying103 hi hz0 hz1 hz2 rfl (by decide) _ _ _ rfl (Hown2.out.alloc _) ⟨w2.heap.size, 0, none⟩ 1 1 [.bool x] rfl rfl ?c1 ?c2 ?c3 ?c4 ?c5 ?_)
      case c1 => exact one_new _ _ _
      case c2 => intro u hu; rw [List.mem_singleton.1 hu]; rfl
      case c3 => unfold maxLen; omega
      case c4 => omega
      case c5 => simp; omega
      intro v' w3 hown3 hgrow _
      have hE3 : Ext W w3 := (HE2.out.alloc _).grown hgrow (fun q hq => (Hown2.out.lt q hq).1)
      have Hown3 := Lib.hid hown3
      clear hown3 hgrow
      go_wp2
      go_roundw
      case rel => exact ⟨k + 1, by omega, by go_num, by rw [List.range_succ, List.map_append, show List.map (B' (has c)) [k] = [Value.bool x] by rw [← Hx.out]; rfl]; exact Hown3.out, hE3⟩
      case measure => simp [intOf]; omega
    · have e : k = 256 := by omega
      subst e
      have Hb : Hid (BytesAt c w.heap.size u3 wr) := ownsRow_lower Hown.out (by have := HE0.out.size; omega)
      clear Hown
      go_wp2_with fail
      go_ret
      exact ⟨_, rfl, Hb.out, HE0.out.trans HE.out⟩

theorem BytesAt.row {c : Cls} {base : Nat} {v : Value} {w : World} (h : BytesAt c base v w) : ∃ g cap, v = .slice (some ⟨g, 0, none⟩) 256 cap ∧ base ≤ g ∧ 256 ≤ cap ∧ Row w 4 g 256 (B' (has c)) := by
  obtain ⟨g, cap, h1, h2, h3, h4⟩ := Row.owns h (by decide)
  refine ⟨g, cap, h1, h3, h2, h4.congr fun j hj => ?_⟩
  show (List.map (B' (has c)) (List.range 256)).getD j undef = _
  rw [List.getD_eq_getElem?_getD, List.getElem?_map, List.getElem?_range hj]
  rfl

/-- How many bytes a set has. -/
def sizeV (c : Cls) : Nat := cnt (has c) 256

def SizeRel (c : Cls) (w0 : World) (n i : Value) (wr : World) : Prop :=
  ∃ k : Nat, k ≤ 256 ∧ i = .int .i64 k ∧ n = .int .i64 (cnt (has c) k) ∧ Ext w0 wr

set_option maxRecDepth 10000 in
set_option maxHeartbeats 1000000 in
theorem size_any (c : Cls) (hc : c.ok) (w : World) :
    Calls Try.prog 58 #[c.val] w fun e w' => e = .returned (.int .i64 (sizeV c)) ∧ Ext w w' := by
  have hE0 := (Ext.refl w).alloc (.cells #[.int .u64 c.w0, .int .u64 c.w1, .int .u64 c.w2, .int .u64 c.w3] 27)
  have Hc := Lib.hid hc
  clear hc
  unfold Cls.val
  go_enter Try.func58, Try.ntmps58
  go_wp2_with fail
  generalize hW : w.alloc (.cells #[.int .u64 c.w0, .int .u64 c.w1, .int .u64 c.w2, .int .u64 c.w3] 27) = W at *
  have HE0 := Lib.hid hE0
  clear hW hE0
  refine (bytes_any c Hc.out _).mono ?_
  rintro e w1 ⟨v, rfl, hv, hE1⟩
  obtain ⟨g, cap, rfl, hg, hcap, hrow⟩ := hv.row
  have HRow := Lib.hid hrow
  have HE1 := Lib.hid (HE0.out.trans hE1)
  clear hv hrow hE1
  go_wp2_with fail
  go_loopw [3, 5] (fun n i wr => SizeRel c w1 n i wr) (fun _ i _ => 256 - (intOf i).toNat)
  case atStart => exact ⟨0, by omega, rfl, rfl, Ext.refl _⟩
  case round =>
    obtain ⟨k, hk, rfl, rfl, hE⟩ := hrel
    have hcl := cnt_le (has c) k
    by_cases hlt : k < 256
    · have hcell := (HRow.out.ext hE).cell hlt
      unfold B' at hcell
      have hstep : cnt (has c) (k + 1) = cnt (has c) k + if has c k then 1 else 0 := rfl
      cases hx : has c k
      · rw [hx] at hcell hstep
        have Hs := Lib.hid hstep
        generalize cnt (has c) k = q at *
        clear hstep hx
        go_wp2_with fail
        go_roundw
        case rel => exact ⟨k + 1, by omega, by go_num, by rw [Hs.out]; rfl, hE⟩
        case measure => simp [intOf]; omega
      · rw [hx] at hcell hstep
        have Hs := Lib.hid hstep
        generalize cnt (has c) k = q at *
        clear hstep hx
        go_wp2_with fail
        go_roundw
        case rel => exact ⟨k + 1, by omega, by go_num, by rw [Hs.out]; go_num, hE⟩
        case measure => simp [intOf]; omega
    · have e : k = 256 := by omega
      subst e
      have hs : cnt (has c) 256 = sizeV c := rfl
      rw [hs]
      generalize hq : sizeV c = q at *
      clear hs hcl
      go_wp2_with fail
      go_ret
      exact ⟨by rw [hq]; rfl, HE1.out.trans hE⟩

theorem reffree_any (c : Cls) (hc : c.ok) (w : World) : Calls Try.prog 88 #[c.val] w fun e w' => e = .returned (.bool (decide (sizeV c = 256))) ∧ Ext w w' := by
  have hE0 := (Ext.refl w).alloc (.cells #[.int .u64 c.w0, .int .u64 c.w1, .int .u64 c.w2, .int .u64 c.w3] 27)
  have Hc := Lib.hid hc
  clear hc
  unfold Cls.val
  go_enter Try.func88, Try.ntmps88
  go_wp2_with fail
  refine (size_any c Hc.out _).mono ?_
  rintro e w2 ⟨rfl, hE2⟩
  have HE2 := Lib.hid (hE0.trans hE2)
  clear hE0 hE2
  generalize hq : sizeV c = q at *
  go_wp2_with fail
  go_ret
  refine ⟨?_, HE2.out⟩
  have e : ((q : Int) == 256) = decide (sizeV c = 256) := by rw [hq, Bool.eq_iff_iff]; simp; omega
  rw [← e]
  rfl
end Go.Proofs.Ytmadelflnjhibaa
