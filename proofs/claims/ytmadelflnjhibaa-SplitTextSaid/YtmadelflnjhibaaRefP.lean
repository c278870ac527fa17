import Derived.Test.YtmadelflnjhibaaParts
namespace Go.Proofs.Ytmadelflnjhibaa
open Go.RowKit
attribute [local go_sem] Cls.val clsNone clsAll

def RWhereRel (f : Nat → Cls) (c : Cls) (n : Nat) (w0 : World) (v i : Value) (wr : World) : Prop :=
  ∃ k : Nat, k ≤ n ∧ i = .int .i64 k ∧ wr.ownsRow w0.heap.size 3 1 v (whereV f c k).length ((whereV f c k).map In) ∧ Ext w0 wr

set_option maxRecDepth 100000 in
set_option maxHeartbeats 2000000 in
theorem refwhere_any (p : Option Addr) (n cap : Nat) (K : Int) (f : Nat → Cls) (c : Cls) (hn : n ≤ 1099511627776) (hcap : n ≤ cap) (w : World) (hr : RdC w p n f) :
    Calls Try.prog 76 #[leafVal p n cap K, c.val] w fun e w' => ∃ v, e = .returned v ∧ w'.ownsRow w.heap.size 3 1 v (whereV f c n).length ((whereV f c n).map In) ∧ Ext w w' := by
  obtain ⟨i0, hi, hz0, hz1, hz2⟩ := info_parts info_int
  have Hr := Lib.hid hr
  clear hr
  unfold Cls.val leafVal
  go_enter Try.func76, Try.ntmps76
  go_wp2_with fail
  obtain ⟨hb1, hb2⟩ := box_cells w (.cells #[.slice p n cap, .int .i64 K] 24) (.cells #[.int .u64 c.w0, .int .u64 c.w1, .int .u64 c.w2, .int .u64 c.w3] 27)
  have hE0 := ((Ext.refl w).alloc (.cells #[.slice p n cap, .int .i64 K] 24)).alloc (.cells #[.int .u64 c.w0, .int .u64 c.w1, .int .u64 c.w2, .int .u64 c.w3] 27)
  generalize (w.alloc (.cells #[.slice p n cap, .int .i64 K] 24)).alloc (.cells #[.int .u64 c.w0, .int .u64 c.w1, .int .u64 c.w2, .int .u64 c.w3] 27) = W at *
  have HE0 := Lib.hid hE0
  have Hb1 := Lib.hid hb1
  have Hb2 := Lib.hid hb2
  clear hE0 hb1 hb2
  generalize w.heap.size = B at *
  go_loopw [5, 6] (fun v i wr => RWhereRel f c n W v i wr) (fun _ i _ => n - (intOf i).toNat)
  case atStart => exact ⟨0, by omega, rfl, by simp [World.ownsRow, whereV], Ext.refl _⟩
  case round =>
    obtain ⟨k, hk, rfl, hown, hE⟩ := hrel
    have hlen := whereV_len f c k
    have Hown := Lib.hid hown
    have HE := Lib.hid hE
    obtain ⟨⟨c0, c1, c2, c3⟩, -⟩ := cls_cells (hE.heap Hb2.out)
    have l0 : wr.cell? ⟨B, 0, none⟩ = some (.slice p n cap) := hE.cell (cell_of_row _ _ _ _ _ _ Hb1.out)
    have hsz := hE.size
    clear hown hE
    by_cases hlt : k < n
    · obtain ⟨b, off, rfl, d0, d1, d2, d3⟩ := (Hr.out.ext (HE0.out.trans HE.out)).at hlt
      have hstep : whereV f c (k + 1) = whereV f c k ++ if f k = c then [k] else [] := by
        unfold whereV
        rw [List.range_succ, List.filter_append]
        congr 1
        by_cases e : f k = c <;> simp [e]
      have heq := fun V => eql_cls (f k) c V
      have b1 : (0 : Int) ≤ (k : Int) := by omega
      have b2 : (k : Int) < (n : Int) := by omega
      by_cases hx : f k = c
      · rw [if_pos hx] at hstep
        rw [decide_eq_true hx] at heq
        have Hs := Lib.hid hstep
        generalize hd : f k = d at *
        clear hstep hd hx
        go_wp2_with fail
        go_quiet (fail)
        have HE2 := Lib.hid (HE.out.drewN nq)
        have Hown2 := Lib.hid (((Ext.refl wr).drewN nq).owns Hown.out)
        have hsz2 := HE2.out.size
        clear c0 c1 c2 c3 d0 d1 d2 d3 l0 Hown heq
        generalize wr.drewN nq = w2 at *
        go_wp2_with (at_builtin; refine wpList_append_own _ rfl (.tmp 21) (.tmp 23) 35 rfl W.heap.size 3 i0 (.int .i64 0) 1 8 Try.underlying35 hi hz0 hz1 hz2 rfl (by decide) _ _ _ rfl (Hown2.out.alloc _) ⟨w2.heap.size, 0, none⟩ 1 1 [.int .i64 k] rfl rfl ?c1 ?c2 ?c3 ?c4 ?c5 ?_)
        case c1 => exact one_new _ _ _
        case c2 => intro u hu; rw [List.mem_singleton.1 hu]; rfl
        case c3 => unfold maxLen; omega
        case c4 => omega
        case c5 => simp; omega
        intro v' w3 hown3 hgrow _
        have hE3 : Ext W w3 := (HE2.out.alloc _).grown hgrow (fun q hq => (Hown2.out.lt q hq).1)
        have Hown3 := Lib.hid hown3
        clear hown3 hgrow
        go_wp2
        go_roundw
        case rel => exact ⟨k + 1, by omega, by go_num, by rw [Hs.out, List.length_append, List.map_append]; exact Hown3.out, hE3⟩
        case measure => simp [intOf]; omega
      · rw [if_neg hx, List.append_nil] at hstep
        rw [decide_eq_false hx] at heq
        have Hs := Lib.hid hstep
        generalize hd : f k = d at *
        clear hstep hd hx
        go_wp2_with fail
        go_quiet (fail)
        go_wp2_with fail
        go_roundw
        case rel => exact ⟨k + 1, by omega, by go_num, by rw [Hs.out]; exact ((Ext.refl wr).drewN nq).owns Hown.out, HE.out.drewN _⟩
        case measure => simp [intOf]; omega
    · have e : k = n := by omega
      subst e
      go_wp2_with fail
      go_ret
      exact ⟨_, rfl, ownsRow_lower Hown.out HE0.out.size, HE0.out.trans HE.out⟩

/-- Are two rows of sets the same? -/
def sameC (N M : Nat) (g h : Nat → Cls) : Bool := decide (N = M) && (List.range N).all fun j => decide (g j = h j)
theorem sameC_iff {N M : Nat} {g h : Nat → Cls} : sameC N M g h = true ↔ N = M ∧ ∀ j, j < N → g j = h j := by
  simp [sameC]
def EqCRel (N : Nat) (g h : Nat → Cls) (w : World) (i : Value) (wr : World) : Prop :=
  ∃ k : Nat, k ≤ N ∧ i = .int .i64 k ∧ (∀ j, j < k → g j = h j) ∧ Ext w wr

set_option maxRecDepth 100000 in
set_option maxHeartbeats 2000000 in
theorem classes_same (N M : Nat) (g h : Nat → Cls) (hN : N ≤ 1099511627777) (hM : M ≤ 1099511627777) (pa pb : Option Addr) (ca cb : Nat) (hca : N ≤ ca) (hcb : M ≤ cb) (w : World) (ra : RdC w pa N g) (rb : RdC w pb M h) :
    Calls Try.prog 36 #[.slice pa N ca, .slice pb M cb] w fun e w' => e = .returned (.bool (sameC N M g h)) ∧ Ext w w' := by
  have Ra := Lib.hid ra
  have Rb := Lib.hid rb
  clear ra rb
  go_enter Try.func36, Try.ntmps36
  by_cases hnm : N = M
  · subst hnm
    go_wp2_with fail
    go_loopw [5] (fun i wr => EqCRel N g h w i wr) (fun i _ => N - (intOf i).toNat)
    case atStart => exact ⟨0, by omega, rfl, (fun j hj => by omega), Ext.refl _⟩
    case round =>
      obtain ⟨k, hk, rfl, hall, hE⟩ := hrel
      have HE := Lib.hid hE
      have Hall := Lib.hid hall
      clear hE hall
      by_cases hlt : k < N
      · obtain ⟨ba, oa, rfl, d0, d1, d2, d3⟩ := (Ra.out.ext HE.out).at hlt
        obtain ⟨bb, ob, rfl, e0, e1, e2, e3⟩ := (Rb.out.ext HE.out).at hlt
        have heq := fun V => neq_cls (g k) (h k) V
        have b1 : (0 : Int) ≤ (k : Int) := by omega
        have b2 : (k : Int) < (N : Int) := by omega
        have Hyes : Hid (g k = h k → ∀ j, j < k + 1 → g j = h j) := fun hx j hj => by
          by_cases e : j = k
          · rw [e]; exact hx
          · exact Hall.out j (by omega)
        have Hno : Hid (g k ≠ h k → sameC N N g h = false) := fun hx => by
          rw [Bool.eq_false_iff]
          exact fun hh => hx ((sameC_iff.1 hh).2 k hlt)
        generalize g k = d1' at *
        generalize h k = d2' at *
        by_cases hx : d1' = d2'
        · rw [decide_eq_true hx] at heq
          have Hall2 := Lib.hid (Hyes.out hx)
          clear hx
          go_wp2_with fail
          go_quiet (fail)
          go_wp2_with fail
          go_roundw
          case rel => exact ⟨k + 1, by omega, by go_num, Hall2.out, HE.out.drewN _⟩
          case measure => simp [intOf]; omega
        · rw [decide_eq_false hx] at heq
          have Hno2 := Lib.hid (Hno.out hx)
          clear hx
          go_wp2_with fail
          go_quiet (fail)
          go_wp2_with fail
          go_ret
          exact ⟨by rw [Hno2.out]; rfl, HE.out.drewN _⟩
      · have e : k = N := by omega
        subst e
        go_wp2_with fail
        go_ret
        exact ⟨by rw [sameC_iff.2 ⟨rfl, Hall.out⟩]; rfl, HE.out⟩
  · have hne : (N : Int) ≠ (M : Int) := by omega
    have Hno : Hid (sameC N M g h = false) := by
      rw [Bool.eq_false_iff]
      exact fun hh => hnm (sameC_iff.1 hh).1
    go_wp2_with fail
    go_ret
    exact ⟨by rw [Hno.out]; rfl, Ext.refl _⟩

/-- Is a set one of some? -/
def InRel (f : Nat → Cls) (c : Cls) (n : Nat) (w0 : World) (i : Value) (wr : World) : Prop :=
  ∃ k : Nat, k ≤ n ∧ i = .int .i64 k ∧ ¬ inV f c k ∧ Ext w0 wr
set_option maxRecDepth 100000 in
set_option maxHeartbeats 2000000 in
theorem refin_any (p : Option Addr) (n cap : Nat) (f : Nat → Cls) (c : Cls) (hn : n ≤ 1099511627776) (hcap : n ≤ cap) (w : World) (hr : RdC w p n f) :
    Calls Try.prog 80 #[.slice p n cap, c.val] w fun e w' => e = .returned (.bool (inB f c n)) ∧ Ext w w' := by
  have hE0 := (Ext.refl w).alloc (.cells #[.int .u64 c.w0, .int .u64 c.w1, .int .u64 c.w2, .int .u64 c.w3] 27)
  have hnew := heap_alloc_new w (.cells #[.int .u64 c.w0, .int .u64 c.w1, .int .u64 c.w2, .int .u64 c.w3] 27)
  have Hr := Lib.hid hr
  have Hyes : Hid (inV f c n → inB f c n = true) := (inB_iff f c n).2
  have Hnot : Hid (¬ inV f c n → inB f c n = false) := fun h => by rw [Bool.eq_false_iff]; exact fun h2 => h ((inB_iff f c n).1 h2)
  clear hr
  generalize inB f c n = r at *
  unfold Cls.val
  go_enter Try.func80, Try.ntmps80
  go_wp2_with fail
  generalize w.alloc (.cells #[.int .u64 c.w0, .int .u64 c.w1, .int .u64 c.w2, .int .u64 c.w3] 27) = W at *
  have HE0 := Lib.hid hE0
  have Hnew := Lib.hid hnew
  clear hnew hE0
  generalize w.heap.size = B at *
  go_loopw [5] (fun i wr => InRel f c n W i wr) (fun i _ => n - (intOf i).toNat)
  case atStart => exact ⟨0, by omega, rfl, by unfold inV; rintro ⟨j, hj, _⟩; omega, Ext.refl _⟩
  case round =>
    obtain ⟨k, hk, rfl, hno, hE⟩ := hrel
    have HE := Lib.hid hE
    have Hno := Lib.hid hno
    obtain ⟨⟨c0, c1, c2, c3⟩, -⟩ := cls_cells (hE.heap Hnew.out)
    clear hE hno
    by_cases hlt : k < n
    · obtain ⟨b, off, rfl, d0, d1, d2, d3⟩ := (Hr.out.ext (HE0.out.trans HE.out)).at hlt
      have heq := fun V => eql_cls (f k) c V
      have b1 : (0 : Int) ≤ (k : Int) := by omega
      have b2 : (k : Int) < (n : Int) := by omega
      by_cases hx : f k = c
      · rw [decide_eq_true hx] at heq
        have hr := Hyes.out ⟨k, hlt, hx⟩
        subst hr
        generalize hd : f k = d at *
        clear hd hx
        go_wp2_with fail
        go_quiet (fail)
        go_wp2_with fail
        go_ret
        exact ⟨rfl, HE0.out.trans (HE.out.drewN _)⟩
      · rw [decide_eq_false hx] at heq
        have Hno2 : Hid (¬ inV f c (k + 1)) := by
          rintro ⟨j, hj, h⟩
          by_cases e : j = k
          · subst e; exact hx h
          · exact Hno.out ⟨j, by omega, h⟩
        generalize hd : f k = d at *
        clear hd hx
        go_wp2_with fail
        go_quiet (fail)
        go_wp2_with fail
        go_roundw
        case rel => exact ⟨k + 1, by omega, by go_num, Hno2.out, HE.out.drewN _⟩
        case measure => simp [intOf]; omega
    · have e : k = n := by omega
      subst e
      have hr := Hnot.out Hno.out
      subst hr
      go_wp2_with fail
      go_ret
      exact ⟨rfl, HE0.out.trans HE.out⟩
end Go.Proofs.Ytmadelflnjhibaa

namespace Go.Proofs.Ytmadelflnjhibaa
open Go.RowKit
attribute [local go_sem] Cls.val clsNone clsAll

/-- The kinds that stand so often, or those that do not: of the first kinds. -/
def partL (f : Nat → Cls) (n : Nat) (least : Int) (b : Bool) (k : Nat) : List Cls := ((kindsV f n).take k).filter fun c => freqB f n least c == b
theorem partL_len (f : Nat → Cls) (n : Nat) (least : Int) (b : Bool) (k : Nat) : (partL f n least b k).length ≤ k := by
  unfold partL
  exact Nat.le_trans (List.length_filter_le _ _) (by rw [List.length_take]; omega)
theorem partL_succ (f : Nat → Cls) (n : Nat) (least : Int) (b : Bool) (k : Nat) (hk : k < (kindsV f n).length) :
    partL f n least b (k + 1) = partL f n least b k ++ if (freqB f n least ((kindsV f n).getD k clsNone) == b) = true then [(kindsV f n).getD k clsNone] else [] := by
  unfold partL
  rw [List.take_add_one, List.filter_append, List.getElem?_eq_getElem hk, List.getD_eq_getElem?_getD, List.getElem?_eq_getElem hk]
  congr 1
  cases h : freqB f n least (kindsV f n)[k] <;> cases b <;> simp [h]
theorem partL_true (f : Nat → Cls) (n : Nat) (least : Int) : partL f n least true (kindsV f n).length = freqL f n least := by
  unfold partL freqL
  rw [List.take_length]
  congr 1
  funext c
  cases freqB f n least c <;> rfl
theorem partL_false (f : Nat → Cls) (n : Nat) (least : Int) : partL f n least false (kindsV f n).length = rareL f n least := by
  unfold partL rareL
  rw [List.take_length]
  congr 1
  funext c
  cases freqB f n least c <;> rfl

def HeldQ (B bb o : Nat) (p : Option Addr) (n cap : Nat) (K : Int) (c : Cls) (wa W : World) : Prop :=
  Ext wa W ∧ W.cell? ⟨B, 0, none⟩ = some (.slice p n cap) ∧ W.cell? ⟨B, 1, none⟩ = some (.int .i64 K) ∧ W.cell? ⟨bb, o, none⟩ = some (.int .u64 c.w0) ∧ W.cell? ⟨bb, o + 1, none⟩ = some (.int .u64 c.w1) ∧ W.cell? ⟨bb, o + 2, none⟩ = some (.int .u64 c.w2) ∧ W.cell? ⟨bb, o + 3, none⟩ = some (.int .u64 c.w3)
theorem HeldQ.ext {B bb o : Nat} {p : Option Addr} {n cap : Nat} {K : Int} {c : Cls} {wa W W' : World} (h : HeldQ B bb o p n cap K c wa W) (he : Ext W W') : HeldQ B bb o p n cap K c wa W' :=
  ⟨h.1.trans he, he.cell h.2.1, he.cell h.2.2.1, he.cell h.2.2.2.1, he.cell h.2.2.2.2.1, he.cell h.2.2.2.2.2.1, he.cell h.2.2.2.2.2.2⟩

def PartRel (f : Nat → Cls) (n : Nat) (least : Int) (b : Bool) (w0 : World) (v i : Value) (wr : World) : Prop :=
  ∃ k : Nat, k ≤ (kindsV f n).length ∧ i = .int .i64 k ∧ ClsRow wr w0.heap.size v (partL f n least b k) ∧ Ext w0 wr

set_option maxRecDepth 100000 in
set_option maxHeartbeats 4000000 in
theorem refpart_any (p : Option Addr) (n cap : Nat) (K : Int) (f : Nat → Cls) (hcap : n ≤ cap) (hn : n ≤ 1099511627776) (hcls : ∀ j, (f j).ok) (least : Int) (b : Bool) (w : World) (hr : RdC w p n f) :
    Calls Try.prog 37 #[leafVal p n cap K, .int .i64 least, .bool b] w fun e w' => ∃ v, e = .returned v ∧ ClsRow w' w.heap.size v (partL f n least b (kindsV f n).length) ∧ Ext w w' := by
  obtain ⟨i0, hi, hz0, hz1, hz2⟩ := info_parts info_cls
  have hnew := heap_alloc_new w (.cells #[.slice p n cap, .int .i64 K] 24)
  have hE0 := (Ext.refl w).alloc (.cells #[.slice p n cap, .int .i64 K] 24)
  have Hki := Lib.hid (fun W (hW : Ext w W) => refkinds_any p n cap K f hcap hn hcls W (hr.ext hW))
  have Hwh := Lib.hid (fun c W (hW : Ext w W) => refwhere_any p n cap K f c hn hcap W (hr.ext hW))
  have hkn := kindsV_len f n
  clear hr hcls
  unfold leafVal at *
  go_enter Try.func37, Try.ntmps37
  go_wp2_with fail
  generalize w.alloc (.cells #[.slice p n cap, .int .i64 K] 24) = W at *
  have HE0 := Lib.hid hE0
  clear hE0
  refine (Hki.out W HE0.out).mono ?_
  rintro e w2 ⟨v, rfl, hks, hE2⟩
  obtain ⟨pv, cv, rfl, hcv, _, hrd⟩ := hks.rd
  have hnew2 := hE2.heap hnew
  have Hnew := Lib.hid hnew2
  have HE2 := Lib.hid (HE0.out.trans hE2)
  have Hrd := Lib.hid hrd
  clear hnew hnew2 hE2 hrd hks
  generalize hB : w.heap.size = B at *
  go_wp2_with fail
  go_loopw [8, 9] (fun v i wr => PartRel f n least b w2 v i wr) (fun _ i _ => (kindsV f n).length - (intOf i).toNat)
  case atStart => exact ⟨0, by omega, rfl, by simp [ClsRow, World.ownsRow, partL], Ext.refl _⟩
  case round =>
    obtain ⟨k, hk, rfl, hrow, hE⟩ := hrel
    have hlen := partL_len f n least b k
    have l0 : wr.cell? ⟨B, 0, none⟩ = some (.slice p n cap) := hE.cell (cell_of_row _ _ _ _ _ _ Hnew.out)
    have l1 : wr.cell? ⟨B, 1, none⟩ = some (.int .i64 K) := hE.cell (cell_of_row _ _ _ _ _ _ Hnew.out)
    have HRow := Lib.hid hrow
    have HE := Lib.hid hE
    have hsz := hE.size
    clear hrow hE
    by_cases hlt : k < (kindsV f n).length
    · obtain ⟨bb, off, rfl, hd⟩ := (Hrd.out.ext HE.out).at hlt
      have hstep := partL_succ f n least b k hlt
      have b1 : (0 : Int) ≤ (k : Int) := by omega
      have b2 : (k : Int) < ((kindsV f n).length : Int) := by omega
      have Hwh2 := Lib.hid (fun W (hW : Ext wr W) => Hwh.out ((kindsV f n).getD k clsNone) W ((HE2.out.trans HE.out).trans hW))
      have hfq : freqB f n least ((kindsV f n).getD k clsNone) = decide (least ≤ ((whereV f ((kindsV f n).getD k clsNone) n).length : Nat)) := rfl
      generalize (kindsV f n).getD k clsNone = d at *
      generalize freqB f n least d = x at *
      generalize whereV f d n = L at *
      generalize hks : partL f n least b k = ks at *
      have HS : Hid (Ext wr wr ∧ wr.cell? ⟨B, 0, none⟩ = some (.slice p n cap) ∧ wr.cell? ⟨B, 1, none⟩ = some (.int .i64 K) ∧ wr.cell? ⟨bb, off + k * 4, none⟩ = some (.int .u64 d.w0) ∧ wr.cell? ⟨bb, off + k * 4 + 1, none⟩ = some (.int .u64 d.w1) ∧ wr.cell? ⟨bb, off + k * 4 + 2, none⟩ = some (.int .u64 d.w2) ∧ wr.cell? ⟨bb, off + k * 4 + 3, none⟩ = some (.int .u64 d.w3)) := ⟨Ext.refl _, l0, l1, hd.1, hd.2.1, hd.2.2.1, hd.2.2.2⟩
      have Hs := Lib.hid hstep
      have Hfq := Lib.hid hfq
      have Hd := Lib.hid hd
      clear hstep hks hfq l0 l1 hd
      by_cases hle : least ≤ ((L.length : Nat) : Int)
      · have Hx : Hid (x = true) := by rw [Hfq.out, decide_eq_true hle]; rfl
        cases b
        · go_wp2_with fail
          go_region_held3 (fun W' => Ext wr W' ∧ W'.cell? ⟨B, 0, none⟩ = some (.slice p n cap) ∧ W'.cell? ⟨B, 1, none⟩ = some (.int .i64 K) ∧ W'.cell? ⟨bb, off + k * 4, none⟩ = some (.int .u64 d.w0) ∧ W'.cell? ⟨bb, off + k * 4 + 1, none⟩ = some (.int .u64 d.w1) ∧ W'.cell? ⟨bb, off + k * 4 + 2, none⟩ = some (.int .u64 d.w2) ∧ W'.cell? ⟨bb, off + k * 4 + 3, none⟩ = some (.int .u64 d.w3))
            ((first | exact HS.out | exact HeldQ.ext HS.out (Ext.refl wr).drew | exact ‹Ext wr _ ∧ _ ∧ _› | exact HeldQ.ext ‹Ext wr _ ∧ _ ∧ _› hb2 | fail))
            (first | (go_at_call 76; refine Calls.mono (Hwh2.out _ (‹Ext wr _ ∧ _ ∧ _›).1) ?_; rintro e w3 ⟨v, rfl, hv, hb2⟩; obtain ⟨pw, cw, rfl, hcw⟩ := ownsRow_form hv) | fail "no arm")
          have hE3 := (‹Ext wr _ ∧ _ ∧ _›).1
          have Hrow3 := Lib.hid (hE3.owns HRow.out)
          have HE3 := Lib.hid (HE.out.trans hE3)
          have hszw := HE3.out.size
          obtain ⟨d0, d1, d2, d3⟩ := Hd.out.ext hE3
          clear hE3 hv hb2 HS
          go_wp2_with fail
          go_roundw
          case rel => exact ⟨k + 1, by omega, by go_num, by rw [Hs.out, if_neg (by rw [Hx.out]; decide), List.append_nil]; exact Hrow3.out, HE3.out⟩
          case measure => simp [intOf]; omega
        · go_wp2_with fail
          go_region_held3 (fun W' => Ext wr W' ∧ W'.cell? ⟨B, 0, none⟩ = some (.slice p n cap) ∧ W'.cell? ⟨B, 1, none⟩ = some (.int .i64 K) ∧ W'.cell? ⟨bb, off + k * 4, none⟩ = some (.int .u64 d.w0) ∧ W'.cell? ⟨bb, off + k * 4 + 1, none⟩ = some (.int .u64 d.w1) ∧ W'.cell? ⟨bb, off + k * 4 + 2, none⟩ = some (.int .u64 d.w2) ∧ W'.cell? ⟨bb, off + k * 4 + 3, none⟩ = some (.int .u64 d.w3))
            ((first | exact HS.out | exact HeldQ.ext HS.out (Ext.refl wr).drew | exact ‹Ext wr _ ∧ _ ∧ _› | exact HeldQ.ext ‹Ext wr _ ∧ _ ∧ _› hb2 | fail))
            (first | (go_at_call 76; refine Calls.mono (Hwh2.out _ (‹Ext wr _ ∧ _ ∧ _›).1) ?_; rintro e w3 ⟨v, rfl, hv, hb2⟩; obtain ⟨pw, cw, rfl, hcw⟩ := ownsRow_form hv) | fail "no arm")
          have hE3 := (‹Ext wr _ ∧ _ ∧ _›).1
          have Hrow3 := Lib.hid (hE3.owns HRow.out)
          have HE3 := Lib.hid (HE.out.trans hE3)
          have hszw := HE3.out.size
          obtain ⟨d0, d1, d2, d3⟩ := Hd.out.ext hE3
          clear hE3 hv hb2 HS
          go_wp2_with (at_builtin; refine wpList_append_own _ rfl (.tmp 29) (.tmp 34) 22 rfl w2.heap.size 27 i0 clsNone.val 4 32 Try.underlying22 hi hz0 hz1 hz2 rfl (by decide) _ _ _ rfl (World.ownsRow.alloc Hrow3.out _) ⟨w3.heap.size, 0, none⟩ 1 1 [.int .u64 d.w0, .int .u64 d.w1, .int .u64 d.w2, .int .u64 d.w3] rfl rfl ?c1 ?c2 ?c3 ?c4 ?c5 ?_)
          case c1 => exact cls_new w3 (.int .u64 d.w0) (.int .u64 d.w1) (.int .u64 d.w2) (.int .u64 d.w3) 27
          case c2 =>
            intro u hu
            simp only [List.mem_cons, List.not_mem_nil, or_false] at hu
            rcases hu with rfl | rfl | rfl | rfl <;> rfl
          case c3 => unfold maxLen; omega
          case c4 => omega
          case c5 => rw [World.size_alloc]; omega
          intro v' w4 hown4 hgrow _
          have hE4 : Ext w2 w4 := (HE3.out.alloc _).grown hgrow (fun q hq => (World.ownsRow.lt Hrow3.out q hq).1)
          have Hown4 := Lib.hid hown4
          clear hown4 hgrow
          go_wp2
          go_roundw
          case rel => exact ⟨k + 1, by omega, by go_num, by rw [Hs.out, if_pos (by rw [Hx.out]; rfl)]; unfold ClsRow; rw [List.length_append, List.flatMap_append]; exact Hown4.out, hE4⟩
          case measure => simp [intOf]; omega
      · have Hx : Hid (x = false) := by rw [Hfq.out, decide_eq_false hle]; rfl
        have hdec := decide_eq_false hle
        clear hle
        cases b
        · go_wp2_with fail
          go_region_held3 (fun W' => Ext wr W' ∧ W'.cell? ⟨B, 0, none⟩ = some (.slice p n cap) ∧ W'.cell? ⟨B, 1, none⟩ = some (.int .i64 K) ∧ W'.cell? ⟨bb, off + k * 4, none⟩ = some (.int .u64 d.w0) ∧ W'.cell? ⟨bb, off + k * 4 + 1, none⟩ = some (.int .u64 d.w1) ∧ W'.cell? ⟨bb, off + k * 4 + 2, none⟩ = some (.int .u64 d.w2) ∧ W'.cell? ⟨bb, off + k * 4 + 3, none⟩ = some (.int .u64 d.w3))
            ((first | exact HS.out | exact HeldQ.ext HS.out (Ext.refl wr).drew | exact ‹Ext wr _ ∧ _ ∧ _› | exact HeldQ.ext ‹Ext wr _ ∧ _ ∧ _› hb2 | fail))
            (first | (go_at_call 76; refine Calls.mono (Hwh2.out _ (‹Ext wr _ ∧ _ ∧ _›).1) ?_; rintro e w3 ⟨v, rfl, hv, hb2⟩; obtain ⟨pw, cw, rfl, hcw⟩ := ownsRow_form hv) | fail "no arm")
          have hE3 := (‹Ext wr _ ∧ _ ∧ _›).1
          have Hrow3 := Lib.hid (hE3.owns HRow.out)
          have HE3 := Lib.hid (HE.out.trans hE3)
          have hszw := HE3.out.size
          obtain ⟨d0, d1, d2, d3⟩ := Hd.out.ext hE3
          clear hE3 hv hb2 HS
          go_wp2_with (at_builtin; refine wpList_append_own _ rfl (.tmp 29) (.tmp 34) 22 rfl w2.heap.size 27 i0 clsNone.val 4 32 Try.underlying22 hi hz0 hz1 hz2 rfl (by decide) _ _ _ rfl (World.ownsRow.alloc Hrow3.out _) ⟨w3.heap.size, 0, none⟩ 1 1 [.int .u64 d.w0, .int .u64 d.w1, .int .u64 d.w2, .int .u64 d.w3] rfl rfl ?c1 ?c2 ?c3 ?c4 ?c5 ?_)
          case c1 => exact cls_new w3 (.int .u64 d.w0) (.int .u64 d.w1) (.int .u64 d.w2) (.int .u64 d.w3) 27
          case c2 =>
            intro u hu
            simp only [List.mem_cons, List.not_mem_nil, or_false] at hu
            rcases hu with rfl | rfl | rfl | rfl <;> rfl
          case c3 => unfold maxLen; omega
          case c4 => omega
          case c5 => rw [World.size_alloc]; omega
          intro v' w4 hown4 hgrow _
          have hE4 : Ext w2 w4 := (HE3.out.alloc _).grown hgrow (fun q hq => (World.ownsRow.lt Hrow3.out q hq).1)
          have Hown4 := Lib.hid hown4
          clear hown4 hgrow
          go_wp2
          go_roundw
          case rel => exact ⟨k + 1, by omega, by go_num, by rw [Hs.out, if_pos (by rw [Hx.out]; rfl)]; unfold ClsRow; rw [List.length_append, List.flatMap_append]; exact Hown4.out, hE4⟩
          case measure => simp [intOf]; omega
        · go_wp2_with fail
          go_region_held3 (fun W' => Ext wr W' ∧ W'.cell? ⟨B, 0, none⟩ = some (.slice p n cap) ∧ W'.cell? ⟨B, 1, none⟩ = some (.int .i64 K) ∧ W'.cell? ⟨bb, off + k * 4, none⟩ = some (.int .u64 d.w0) ∧ W'.cell? ⟨bb, off + k * 4 + 1, none⟩ = some (.int .u64 d.w1) ∧ W'.cell? ⟨bb, off + k * 4 + 2, none⟩ = some (.int .u64 d.w2) ∧ W'.cell? ⟨bb, off + k * 4 + 3, none⟩ = some (.int .u64 d.w3))
            ((first | exact HS.out | exact HeldQ.ext HS.out (Ext.refl wr).drew | exact ‹Ext wr _ ∧ _ ∧ _› | exact HeldQ.ext ‹Ext wr _ ∧ _ ∧ _› hb2 | fail))
            (first | (go_at_call 76; refine Calls.mono (Hwh2.out _ (‹Ext wr _ ∧ _ ∧ _›).1) ?_; rintro e w3 ⟨v, rfl, hv, hb2⟩; obtain ⟨pw, cw, rfl, hcw⟩ := ownsRow_form hv) | fail "no arm")
          have hE3 := (‹Ext wr _ ∧ _ ∧ _›).1
          have Hrow3 := Lib.hid (hE3.owns HRow.out)
          have HE3 := Lib.hid (HE.out.trans hE3)
          have hszw := HE3.out.size
          obtain ⟨d0, d1, d2, d3⟩ := Hd.out.ext hE3
          clear hE3 hv hb2 HS
          go_wp2_with fail
          go_roundw
          case rel => exact ⟨k + 1, by omega, by go_num, by rw [Hs.out, if_neg (by rw [Hx.out]; decide), List.append_nil]; exact Hrow3.out, HE3.out⟩
          case measure => simp [intOf]; omega
    · have e : k = (kindsV f n).length := by omega
      subst e
      go_wp2_with fail
      go_ret
      exact ⟨_, rfl, ownsRow_lower HRow.out HE2.out.size, HE2.out.trans HE.out⟩
end Go.Proofs.Ytmadelflnjhibaa

namespace Go.Proofs.Ytmadelflnjhibaa
open Go.RowKit

/-- The operations of a drawn region in an order of my own, guards and all: (i, true): taken as soon as it may come up; (i, false): nothing else may come up. -/
def wpPermY (P : Program) (ops : Array Oper) (Q : Exit → Act → World → Prop) (S : World → Prop) : List (Nat × Bool) → Act → World → Prop
  | [], a, w => Q .normal a w
  | (i, true) :: r, a, w => ∃ o v, ops[i]? = some o ∧ YieldsIf P ops S o v a ∧ wpPermY P ops Q S r (a.put o.dst v) w
  | (i, false) :: r, a, w => wpOp P ops Q i (fun a' w' => S w' ∧ wpPermY P ops Q S r a' w') a w

theorem wpPermY_sound {P : Program} {md : Region.Mode} {ops : Array Oper} {Q : Exit → Act → World → Prop} {S : World → Prop} (hs : Region.noSelect ops = true) (hQ : ∀ c a w, ¬ Q (.panic c) a w) :
    ∀ (π : List (Nat × Bool)) (listed : Array Bool) (a : Act) (w : World), permB md ops π listed = true → S w → wpPermY P ops Q S π a w → wpAnyH P md ops Q S π.length listed a w
  | [], listed, a, w, hB, _, h => by
    simp only [permB, beq_iff_eq] at hB
    exact wpAnyH_done hB h _
  | (i, true) :: r, listed, a, w, hB, hS, h => by
    simp only [permB, Bool.and_eq_true] at hB
    obtain ⟨o, v, ho, hy, h⟩ := h
    exact wpAnyH_take ho hs hB.1.2 hB.1.1 (fun c a' w' hq => absurd hq (hQ _ _ _)) hy hS (wpPermY_sound hs hQ r _ _ _ hB.2 hS h)
  | (i, false) :: r, listed, a, w, hB, hS, h => by
    simp only [permB, Bool.and_eq_true, beq_iff_eq] at hB
    refine wpAnyH_all hB.1 (by simp) (fun j hj => ?_)
    obtain rfl : j = i := by simpa using hj
    exact wpOp_mono (fun a' w' h' => ⟨h'.1, wpPermY_sound hs hQ r _ _ _ hB.2 h'.1 h'.2⟩) h

theorem wp_region_permY {P : Program} {ops : Array Oper} {Q : Exit → Act → World → Prop} {S : World → Prop} {id : Nat} {a : Act} {w : World} (π : List (Nat × Bool)) (hm : P.follows .mixedOrders = true) (hl : π.length = ops.size)
    (hB : permB .any ops π (Array.replicate ops.size false) = true) (hs : Region.noSelect ops = true) (hS : S w.drew)
    (h : wpPermY P ops (NoPanic Q) S π a w.drew) : (Code.region id ops true).wp P Q a w := by
  refine wp_region_noPanic (wp_region_held (S := S) hm ?_)
  have key := wpPermY_sound hs (fun _ _ _ h => h) π _ _ _ hB hS h
  rw [hl] at key
  exact key

theorem wpPermY_take {P : Program} {ops : Array Oper} {Q : Exit → Act → World → Prop} {S : World → Prop} {i : Nat} {r : List (Nat × Bool)} {a : Act} {w : World} {o : Oper} (ho : ops[i]? = some o) (hw : Region.wanted o (yielded ops a.tmps) = true) (v : Value)
    (hv : ∀ W, S W → (execOp a.eval o).run P W = .ok (.value v) W) (h : ∀ K : Act → World → Prop, (∀ a w, wpPermY P ops Q S r a w → K a w) → K (a.put o.dst v) w) : wpPermY P ops Q S ((i, true) :: r) a w :=
  ⟨o, v, ho, .inl ⟨hw, hv⟩, h _ (fun _ _ h => h)⟩
theorem wpPermY_skip {P : Program} {ops : Array Oper} {Q : Exit → Act → World → Prop} {S : World → Prop} {i : Nat} {r : List (Nat × Bool)} {a : Act} {w : World} {o : Oper} (ho : ops[i]? = some o) (hw : Region.wanted o (yielded ops a.tmps) = false)
    (h : ∀ K : Act → World → Prop, (∀ a w, wpPermY P ops Q S r a w → K a w) → K (a.put o.dst undef) w) : wpPermY P ops Q S ((i, true) :: r) a w :=
  ⟨o, undef, ho, .inr ⟨hw, rfl⟩, h _ (fun _ _ h => h)⟩
theorem wpPermY_bar {P : Program} {ops : Array Oper} {Q : Exit → Act → World → Prop} {S : World → Prop} {i : Nat} {r : List (Nat × Bool)} {a : Act} {w : World} {o : Oper} (ho : ops[i]? = some o) (hw : Region.wanted o (yielded ops a.tmps) = true)
    (h : ∀ K : Act → World → Prop, (∀ a w, S w → wpPermY P ops Q S r a w → K a w) → Oper.wp P o a w K Q) : wpPermY P ops Q S ((i, false) :: r) a w := by
  show wpOp _ _ _ _ _ _ _
  unfold wpOp
  simp only [ho, hw, if_true]
  exact .inl (h _ (fun a w h1 h2 => ⟨h1, h2⟩))
theorem wpPermY_end {P : Program} {ops : Array Oper} {Q : Exit → Act → World → Prop} {S : World → Prop} {a : Act} {w : World} (h : Q .normal a w) : wpPermY P ops Q S [] a w := h
end Go.Proofs.Ytmadelflnjhibaa
