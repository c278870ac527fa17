import Derived.Test.YtmadelflnjhibaaDel
namespace Go.Proofs.Ytmadelflnjhibaa
open Go.RowKit
attribute [local go_sem] Cls.val clsNone clsAll

/-- Does a kind stand so often? -/
def freqB (f : Nat → Cls) (n : Nat) (least : Int) (c : Cls) : Bool := decide (least ≤ ((whereV f c n).length : Nat))
def freqL (f : Nat → Cls) (n : Nat) (least : Int) : List Cls := (kindsV f n).filter (freqB f n least)
def rareL (f : Nat → Cls) (n : Nat) (least : Int) : List Cls := (kindsV f n).filter fun c => !freqB f n least c

structure PredP (w0 : World) (gf : FuncId) (lb : Array Value) (pr : Cls → Bool) : Prop where
  eg : ∀ args w, (callFunc gf args).run Try.prog w = .ok (.enter gf args) w
  out : Pred w0 gf lb pr
structure CloneR (wc W : World) (v : Value) (ks : List Cls) : Prop where
  own : ClsRow W wc.heap.size v ks
  ext : Ext wc W

set_option maxRecDepth 100000 in
set_option maxHeartbeats 2000000 in
theorem parts1_any (p : Option Addr) (n cap : Nat) (K : Int) (f : Nat → Cls) (hcap : n ≤ cap) (hn : n ≤ 1099511627776) (least : Int) (B C : Nat) (w0 : World) (hr : RdC w0 p n f)
    (l0 : w0.cell? ⟨B, 0, none⟩ = some (.slice p n cap)) (l1 : w0.cell? ⟨B, 1, none⟩ = some (.int .i64 K)) (lz : w0.cell? ⟨C, 0, none⟩ = some (.int .i64 least)) :
    Pred w0 72 #[.pointer (some ⟨B, 0, none⟩), .pointer (some ⟨C, 0, none⟩)] (freqB f n least) := by
  intro c _ w hw
  have m0 := hw.cell l0
  have m1 := hw.cell l1
  have mz := hw.cell lz
  have Hwh := Lib.hid (fun W (hW : Ext w W) => where_any p n cap K f c hn hcap W ((hr.ext hw).ext hW))
  have hnew := heap_alloc_new w (.cells #[.int .u64 c.w0, .int .u64 c.w1, .int .u64 c.w2, .int .u64 c.w3] 27)
  have hE0 := (Ext.refl w).alloc (.cells #[.int .u64 c.w0, .int .u64 c.w1, .int .u64 c.w2, .int .u64 c.w3] 27)
  have hf : freqB f n least c = decide (least ≤ ((whereV f c n).length : Nat)) := rfl
  generalize freqB f n least c = x at *
  generalize whereV f c n = L at *
  have Hf := Lib.hid hf
  have n0 := hE0.cell m0
  have n1 := hE0.cell m1
  have nz := hE0.cell mz
  clear hr hw l0 l1 lz hf m0 m1 mz
  show Calls Try.prog 72 #[c.val, .pointer (some ⟨B, 0, none⟩), .pointer (some ⟨C, 0, none⟩)] w _
  unfold Cls.val leafVal at *
  go_enter Try.func72, Try.ntmps72
  go_wp2_with fail
  generalize w.alloc (.cells #[.int .u64 c.w0, .int .u64 c.w1, .int .u64 c.w2, .int .u64 c.w3] 27) = W at *
  obtain ⟨⟨c0, c1, c2, c3⟩, -⟩ := cls_cells hnew
  have HE0 := Lib.hid hE0
  clear hE0 hnew
  generalize w.heap.size = Y at *
  go_region_held3 (fun W' => Ext W W' ∧ W'.cell? ⟨B, 0, none⟩ = some (.slice p n cap) ∧ W'.cell? ⟨B, 1, none⟩ = some (.int .i64 K) ∧ W'.cell? ⟨C, 0, none⟩ = some (.int .i64 least) ∧ W'.cell? ⟨Y, 0, none⟩ = some (.int .u64 c.w0) ∧ W'.cell? ⟨Y, 1, none⟩ = some (.int .u64 c.w1) ∧ W'.cell? ⟨Y, 2, none⟩ = some (.int .u64 c.w2) ∧ W'.cell? ⟨Y, 3, none⟩ = some (.int .u64 c.w3))
    ((first | exact ⟨Ext.refl W, n0, n1, nz, c0, c1, c2, c3⟩ | exact ⟨(Ext.refl W).drew, n0, n1, nz, c0, c1, c2, c3⟩ | exact ⟨(Ext.refl W).drew.trans hb2, hb2.cell n0, hb2.cell n1, hb2.cell nz, hb2.cell c0, hb2.cell c1, hb2.cell c2, hb2.cell c3⟩ | exact ‹Ext W _ ∧ _ ∧ _› | fail))
    (first | (go_at_call 71; refine Calls.mono (Hwh.out _ (HE0.out.trans (Ext.refl W).drew)) ?_; rintro e w2 ⟨v, rfl, hv, hb2⟩; obtain ⟨pv, cv, rfl, hcv⟩ := ownsRow_form hv) | fail "no arm")
  all_goals
    have hEe := (‹Ext W _ ∧ _ ∧ _›).1
    go_wp2_with fail
    go_ret
    exact ⟨by rw [Hf.out]; rfl, HE0.out.trans hEe⟩

set_option maxRecDepth 100000 in
set_option maxHeartbeats 2000000 in
theorem parts2_any (lb : Array Value) (pr : Cls → Bool) (F : Nat) (w0 : World) (hp : Pred w0 72 lb pr) (lf : w0.cell? ⟨F, 0, none⟩ = some (.func (.func 72) #[] lb)) :
    Pred w0 73 #[.pointer (some ⟨F, 0, none⟩)] (fun c => !pr c) := by
  intro c hc w hw
  have mf := hw.cell lf
  have hnew := heap_alloc_new w (.cells #[.int .u64 c.w0, .int .u64 c.w1, .int .u64 c.w2, .int .u64 c.w3] 27)
  have hE0 := (Ext.refl w).alloc (.cells #[.int .u64 c.w0, .int .u64 c.w1, .int .u64 c.w2, .int .u64 c.w3] 27)
  have Hcall := Lib.hid (fun W (hW : Ext w W) => hp c hc W (hw.trans hW))
  have nf := hE0.cell mf
  clear lf mf hw hp
  show Calls Try.prog 73 #[c.val, .pointer (some ⟨F, 0, none⟩)] w fun e w' => e = .returned (.bool (!pr c)) ∧ Ext w w'
  generalize pr c = x at *
  unfold Cls.val at *
  go_enter Try.func73, Try.ntmps73
  go_wp2_with fail
  generalize w.alloc (.cells #[.int .u64 c.w0, .int .u64 c.w1, .int .u64 c.w2, .int .u64 c.w3] 27) = W at *
  obtain ⟨⟨c0, c1, c2, c3⟩, -⟩ := cls_cells hnew
  have HE0 := Lib.hid hE0
  clear hE0 hnew
  generalize w.heap.size = Y at *
  refine (Hcall.out W HE0.out).mono ?_
  rintro e w2 ⟨rfl, hE2⟩
  go_wp2_with fail
  go_ret
  exact ⟨rfl, HE0.out.trans hE2⟩

theorem keptL_all (pr : Cls → Bool) (ks : List Cls) : keptL pr ks ks.length = ks.filter fun c => !pr c := by unfold keptL; rw [List.take_length]

def HeldF (B F : Nat) (lb : Array Value) (W W' : World) : Prop := Ext W W' ∧ W'.cell? ⟨F, 0, none⟩ = some (.func (.func B) #[] lb) ∧ True
theorem HeldF.ext {B F : Nat} {lb : Array Value} {W A A' : World} (h : HeldF B F lb W A) (he : Ext A A') : HeldF B F lb W A' := ⟨h.1.trans he, he.cell h.2.1, trivial⟩

set_option maxRecDepth 100000 in
set_option maxHeartbeats 4000000 in
theorem parts_any (p : Option Addr) (n cap : Nat) (K : Int) (f : Nat → Cls) (hcap : n ≤ cap) (hn : n ≤ 1099511627776) (hcls : ∀ j, (f j).ok) (least : Int) (w : World) (hr : RdC w p n f) :
    Calls Try.prog 35 #[leafVal p n cap K, .int .i64 least] w fun e w' => ∃ p1 c1 p2 c2, e = .returned (.tuple #[.slice p1 (freqL f n least).length c1, .slice p2 (rareL f n least).length c2]) ∧
      (freqL f n least).length ≤ c1 ∧ (rareL f n least).length ≤ c2 ∧ RdC w' p1 (freqL f n least).length (fun j => (freqL f n least).getD j clsNone) ∧ RdC w' p2 (rareL f n least).length (fun j => (rareL f n least).getD j clsNone) ∧ Ext w w' := by
  obtain ⟨y1, y2, y3, hE3, hs3⟩ := box3 w (.cells #[.slice p n cap, .int .i64 K] 24) (.cells #[.int .i64 least] 3) (.cells #[.nilFunc] 90)
  have cf : (((w.alloc (.cells #[.slice p n cap, .int .i64 K] 24)).alloc (.cells #[.int .i64 least] 3)).alloc (.cells #[.nilFunc] 90)).cell? ⟨w.heap.size + 1 + 1, 0, none⟩ = some .nilFunc := cell_of_row _ _ 0 _ _ _ y3
  have ff := frozen_of_row _ _ 0 _ _ y3
  have hst : (store ⟨w.heap.size + 1 + 1, 0, none⟩ (.func (.func 72) #[] #[.pointer (some ⟨w.heap.size, 0, none⟩), .pointer (some ⟨w.heap.size + 1, 0, none⟩)])).run Try.prog (((w.alloc (.cells #[.slice p n cap, .int .i64 K] 24)).alloc (.cells #[.int .i64 least] 3)).alloc (.cells #[.nilFunc] 90)) = .ok () ((((w.alloc (.cells #[.slice p n cap, .int .i64 K] 24)).alloc (.cells #[.int .i64 least] 3)).alloc (.cells #[.nilFunc] 90)).setCell ⟨w.heap.size + 1 + 1, 0, none⟩ (.func (.func 72) #[] #[.pointer (some ⟨w.heap.size, 0, none⟩), .pointer (some ⟨w.heap.size + 1, 0, none⟩)])) := by
    rw [run_store Try.prog _ _ _ _ rfl, cf]
    simp only [ff]
    rfl
  have hset := heap_setCell_same _ _ 0 _ _ (.func (.func 72) #[] #[.pointer (some ⟨w.heap.size, 0, none⟩), .pointer (some ⟨w.heap.size + 1, 0, none⟩)]) y3
  have hy1 := (heap_setCell_other (((w.alloc (.cells #[.slice p n cap, .int .i64 K] 24)).alloc (.cells #[.int .i64 least] 3)).alloc (.cells #[.nilFunc] 90)) ⟨w.heap.size + 1 + 1, 0, none⟩ w.heap.size (.func (.func 72) #[] #[.pointer (some ⟨w.heap.size, 0, none⟩), .pointer (some ⟨w.heap.size + 1, 0, none⟩)]) (by show w.heap.size ≠ w.heap.size + 1 + 1; omega)).trans y1
  have hy2 := (heap_setCell_other (((w.alloc (.cells #[.slice p n cap, .int .i64 K] 24)).alloc (.cells #[.int .i64 least] 3)).alloc (.cells #[.nilFunc] 90)) ⟨w.heap.size + 1 + 1, 0, none⟩ (w.heap.size + 1) (.func (.func 72) #[] #[.pointer (some ⟨w.heap.size, 0, none⟩), .pointer (some ⟨w.heap.size + 1, 0, none⟩)]) (by show w.heap.size + 1 ≠ w.heap.size + 1 + 1; omega)).trans y2
  have hE0 := hE3.setCell (p := ⟨w.heap.size + 1 + 1, 0, none⟩) (by show w.heap.size ≤ w.heap.size + 1 + 1; omega) (.func (.func 72) #[] #[.pointer (some ⟨w.heap.size, 0, none⟩), .pointer (some ⟨w.heap.size + 1, 0, none⟩)])
  have Hki := Lib.hid (fun W (hW : Ext w W) => kinds_any p n cap K f hcap hn W (hr.ext hW))
  have Hr := Lib.hid hr
  have hkn : (kindsV f n).length ≤ n := kindsV_len f n
  have Hok : Hid (∀ c ∈ kindsV f n, c.ok) := fun c h => by
    obtain ⟨j, hj⟩ := kinds_from f n c h
    rw [← hj]
    exact hcls j
  have Hset := Lib.hid hset
  have Hy1 := Lib.hid hy1
  have Hy2 := Lib.hid hy2
  have HE0 := Lib.hid hE0
  clear hr hcls hset hy1 hy2 hE0 y1 y2 y3 hE3 hs3 cf ff
  unfold leafVal at *
  generalize hW3 : (((w.alloc (.cells #[.slice p n cap, .int .i64 K] 24)).alloc (.cells #[.int .i64 least] 3)).alloc (.cells #[.nilFunc] 90)) = W3 at *
  generalize hWs : W3.setCell ⟨w.heap.size + 1 + 1, 0, none⟩ (.func (.func 72) #[] #[.pointer (some ⟨w.heap.size, 0, none⟩), .pointer (some ⟨w.heap.size + 1, 0, none⟩)]) = W at *
  have a0 : W.cell? ⟨w.heap.size, 0, none⟩ = some (.slice p n cap) := cell_of_row _ _ _ _ _ _ Hy1.out
  have a1 : W.cell? ⟨w.heap.size, 1, none⟩ = some (.int .i64 K) := cell_of_row _ _ _ _ _ _ Hy1.out
  have az : W.cell? ⟨w.heap.size + 1, 0, none⟩ = some (.int .i64 least) := cell_of_row _ _ _ _ _ _ Hy2.out
  have af : W.cell? ⟨w.heap.size + 1 + 1, 0, none⟩ = some (.func (.func 72) #[] #[.pointer (some ⟨w.heap.size, 0, none⟩), .pointer (some ⟨w.heap.size + 1, 0, none⟩)]) := cell_of_row _ _ _ _ _ _ Hset.out
  have P2 := parts1_any p n cap K f hcap hn least w.heap.size (w.heap.size + 1) W (Hr.out.ext HE0.out) a0 a1 az
  have P1 := parts2_any _ _ (w.heap.size + 1 + 1) W P2 af
  have Q1 : PredP W 73 _ _ := ⟨fun _ _ => rfl, P1⟩
  have Q2 : PredP W 72 _ _ := ⟨fun _ _ => rfl, P2⟩
  have hD : Hid (∀ gf lb pr wc W' v, PredP W gf lb pr → Ext W wc → CloneR wc W' v (kindsV f n) → Calls Try.prog 74 #[v, .func (.func gf) #[] lb] W' fun e w' =>
      ∃ p cap, e = .returned (.slice p (keptL pr (kindsV f n) (kindsV f n).length).length cap) ∧ (keptL pr (kindsV f n) (kindsV f n).length).length ≤ cap ∧ RdC w' p (keptL pr (kindsV f n) (kindsV f n).length).length (fun j => (keptL pr (kindsV f n) (kindsV f n).length).getD j clsNone) ∧ Ext wc w') :=
    fun gf lb pr wc W' v hq hwc hcl => deletefunc_any gf hq.eg lb pr wc (fun c hc V hV => hq.out c hc V (hwc.trans hV)) wc.heap.size (Nat.le_refl _) v (kindsV f n) (by omega) Hok.out W' hcl.ext hcl.own
  have hC : Hid (∀ base v W', ClsRow W' base v (kindsV f n) → Calls Try.prog 75 #[v] W' fun e w' => ∃ v', e = .returned v' ∧ CloneR W' w' v' (kindsV f n)) :=
    fun base v W' hv => (clone_any base v (kindsV f n) (by omega) W' hv).mono fun e w' ⟨v', h1, h2, h3⟩ => ⟨v', h1, h2, h3⟩
  have e1 : keptL (fun c => !freqB f n least c) (kindsV f n) (kindsV f n).length = freqL f n least := by
    rw [keptL_all]
    unfold freqL
    congr 1
    funext c
    rw [Bool.not_not]
  have e2 : keptL (freqB f n least) (kindsV f n) (kindsV f n).length = rareL f n least := keptL_all _ _
  have E1 := Lib.hid e1
  have E2 := Lib.hid e2
  clear P1 P2 Hset Hy1 Hy2 e1 e2 Hok
  go_enter Try.func35, Try.ntmps35
  go_wp2_with fail
  clear hW3 hWs
  refine (Hki.out W HE0.out).mono ?_
  rintro e w5 ⟨v, rfl, hks, hE5⟩
  have af5 := hE5.cell af
  have Hks := Lib.hid hks
  have HE5 := Lib.hid hE5
  clear hks hE5 a0 a1 az af hst
  go_wp2_with fail
  generalize w.heap.size + 1 + 1 = F at *
  have HS : Hid (Ext w5 w5 ∧ w5.cell? ⟨F, 0, none⟩ = some (.func (.func 72) #[] #[.pointer (some ⟨w.heap.size, 0, none⟩), .pointer (some ⟨w.heap.size + 1, 0, none⟩)]) ∧ True) := ⟨Ext.refl _, af5, trivial⟩
  clear af5
  go_region_held3 (fun W' => Ext w5 W' ∧ W'.cell? ⟨F, 0, none⟩ = some (.func (.func 72) #[] #[.pointer (some ⟨w.heap.size, 0, none⟩), .pointer (some ⟨w.heap.size + 1, 0, none⟩)]) ∧ True)
    ((first | exact HS.out | exact HeldF.ext HS.out (Ext.refl w5).drew | exact ‹Ext w5 _ ∧ _ ∧ _› | exact HeldF.ext ‹Ext w5 _ ∧ _ ∧ _› hcl.ext | exact HeldF.ext hwc.out hx2 | exact HeldF.ext hwc.out hx1 | fail))
    (first
      | (go_at_call 75; have hwc := Lib.hid (‹Ext w5 _ ∧ _ ∧ _›); refine Calls.mono (hC.out _ _ _ ((‹Ext w5 _ ∧ _ ∧ _›).1.owns Hks.out)) ?_; rintro e w6 ⟨v6, rfl, hcl⟩)
      | (go_at_call 74; refine Calls.mono (hD.out _ _ _ _ _ _ (by exact Q1) (HE5.out.trans hwc.out.1) hcl) ?_; rintro e w7 ⟨p1, c1, rfl, hl1, hd1, hx1⟩)
      | (go_at_call 74; refine Calls.mono (hD.out _ _ _ _ _ _ (by exact Q2) (HE5.out.trans hwc.out.1) hcl) ?_; rintro e w8 ⟨p2, c2, rfl, hl2, hd2, hx2⟩)
      | fail "no arm")
  all_goals
    have hEe := (‹Ext w5 _ ∧ _ ∧ _›).1
    have hd1' := hd1.ext hx2
    have hEend := (HE0.out.trans HE5.out).trans hEe
    rw [E1.out] at hl1 hd1'
    rw [E2.out] at hl2 hd2
    have Hd1 := Lib.hid hd1'
    have Hd2 := Lib.hid hd2
    have HEe := Lib.hid hEend
    clear hd1 hd1' hd2 hEend hEe hx1 hx2 HS
    simp only [E1.out, E2.out]
    go_wp2_with fail
    go_ret2
    exact ⟨p1, c1, p2, c2, rfl, hl1, hl2, Hd1.out, Hd2.out, HEe.out⟩
end Go.Proofs.Ytmadelflnjhibaa
