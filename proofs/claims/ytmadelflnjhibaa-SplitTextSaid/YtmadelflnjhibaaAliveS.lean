import Derived.Test.YtmadelflnjhibaaSplitD
namespace Go.Proofs.Ytmadelflnjhibaa
open Go.RowKit
attribute [local go_sem] Cls.val clsNone clsAll

structure RareP (W : World) (v : Value) : Prop where
  out : PlQ W v 2 #[.int .i64 2, .int .i64 0]
def LiveT (B : Nat) (p : Option Addr) (cap : Nat) (K : Int) (b1 o1 b2 o2 : Nat) (ca cc : Cls) (W W' : World) : Prop :=
  Ext W W' ∧ W'.cell? ⟨B, 0, none⟩ = some (.slice p 4 cap) ∧ W'.cell? ⟨B, 1, none⟩ = some (.int .i64 K) ∧
    W'.cell? ⟨b1, o1, none⟩ = some (.int .u64 ca.w0) ∧ W'.cell? ⟨b1, o1 + 1, none⟩ = some (.int .u64 ca.w1) ∧ W'.cell? ⟨b1, o1 + 2, none⟩ = some (.int .u64 ca.w2) ∧ W'.cell? ⟨b1, o1 + 3, none⟩ = some (.int .u64 ca.w3) ∧
    W'.cell? ⟨b2, o2, none⟩ = some (.int .u64 cc.w0) ∧ W'.cell? ⟨b2, o2 + 1, none⟩ = some (.int .u64 cc.w1) ∧ W'.cell? ⟨b2, o2 + 2, none⟩ = some (.int .u64 cc.w2) ∧ W'.cell? ⟨b2, o2 + 3, none⟩ = some (.int .u64 cc.w3)
theorem LiveT.ext {B : Nat} {p : Option Addr} {cap : Nat} {K : Int} {b1 o1 b2 o2 : Nat} {ca cc : Cls} {W A A' : World} (h : LiveT B p cap K b1 o1 b2 o2 ca cc W A) (he : Ext A A') : LiveT B p cap K b1 o1 b2 o2 ca cc W A' := by
  obtain ⟨h0, h1, h2, h3, h4, h5, h6, h7, h8, h9, h10⟩ := h
  exact ⟨h0.trans he, he.cell h1, he.cell h2, he.cell h3, he.cell h4, he.cell h5, he.cell h6, he.cell h7, he.cell h8, he.cell h9, he.cell h10⟩
theorem LiveT.alloc {B : Nat} {p : Option Addr} {cap : Nat} {K : Int} {b1 o1 b2 o2 : Nat} {ca cc : Cls} {W A : World} (h : LiveT B p cap K b1 o1 b2 o2 ca cc W A) (o : Obj) : LiveT B p cap K b1 o1 b2 o2 ca cc W (A.alloc o) := h.ext ((Ext.refl A).alloc o)

set_option maxRecDepth 100000 in
set_option maxHeartbeats 4000000 in
theorem alive12_any (w : World) : Calls Try.prog 34 #[] w fun e w' => e = .returned (.bool true) ∧ Ext w w' := by
  have Htx : Hid (∀ W, Calls Try.prog 44 #[.string ⟨#[97, 98, 99, 97]⟩, .int .i64 1] W fun e w' => ∃ p cap, e = .returned (.agg #[.slice p 4 cap, .int .i64 1]) ∧ 4 ≤ cap ∧ RdC w' p 4 (fT sABCA) ∧ Ext W w') := fun W => text_any sABCA (by decide) 1 W
  have hpa := fun p cap (hcap : 4 ≤ cap) W (hr : RdC W p 4 (fT sABCA)) => parts_any p 4 cap 1 (fT sABCA) hcap (by decide) (txtL_ok sABCA 4) 2 W hr
  have hco := fun p cap (hcap : 4 ≤ cap) W (hr : RdC W p 4 (fT sABCA)) => spcounts_all p 4 cap 1 (fT sABCA) hcap (by decide) sT7 (by decide) 8 2 (txtL_ok sABCA 4) W hr
  have hfi := fun p cap (hcap : 4 ≤ cap) W (hr : RdC W p 4 (fT sABCA)) => spfind_all p 4 cap 1 (fT sABCA) hcap (by decide) sT7 (by decide) 8 9 (txtL_ok sABCA 4) W hr
  have hfe := fun p cap (hcap : 4 ≤ cap) W (hr : RdC W p 4 (fT sABCA)) => spcounts_all p 4 cap 1 (fT sABCA) hcap (by decide) sT7 (by decide) 3 1 (txtL_ok sABCA 4) W hr
  have hce := fun p W (hr : RdC W p 1 (fun _ => ofV sAB 2)) => spcounts_all p 1 1 0 (fun _ => ofV sAB 2) (by decide) (by decide) sA (by decide) 1 1 (fun _ => two_ok) W hr
  have hra := fun p cap (hcap : 4 ≤ cap) pk ck (hck : 2 ≤ ck) W (hr : RdC W p 4 (fT sABCA)) (hrk : RdC W pk 2 (fun j => [ofV sB 1, ofV sC 1].getD j clsNone)) => sprare_any p 4 cap 1 (fT sABCA) hcap (by decide) (txtL_ok sABCA 4) sT5 (by decide) pk 2 ck (fun j => [ofV sB 1, ofV sC 1].getD j clsNone) hck (by decide) W hr hrk
  rw [q1, q2] at hpa
  rw [show checkS (fT sABCA) 4 1 sT7.size 8 2 = 0 from q3, show cntsNS (fT sABCA) 4 sT7.size 8 2 0 = 9 from q5, show cntsL (fT sABCA) sT7 4 1 0 = [0, 4, 4, 0] from q4] at hco
  rw [show checkS (fT sABCA) 4 1 sT7.size 8 9 = 0 from q6, show cntsNS (fT sABCA) 4 sT7.size 8 9 0 = 0 from q8, show fndL (fT sABCA) sT7 4 1 0 = [0, 3] from q7] at hfi
  rw [show checkS (fT sABCA) 4 1 sT7.size 3 1 = 50 from q10] at hfe
  rw [show checkS (fun _ => ofV sAB 2) 1 0 sA.size 1 1 = 170 from q9] at hce
  rw [show sumsR (fT sABCA) 4 1 sT5.size = 2 from q11] at hra
  generalize cntsNS (fT sABCA) 4 sT7.size 3 1 50 = N5 at hfe
  generalize cntsNS (fun _ => ofV sAB 2) 1 sA.size 1 1 170 = N6 at hce
  have Hpa : Hid (∀ p cap, 4 ≤ cap → ∀ W, RdC W p 4 (fT sABCA) → Calls Try.prog 35 #[.agg #[.slice p 4 cap, .int .i64 1], .int .i64 2] W fun e w' => ∃ p1 c1 p2 c2, e = .returned (.tuple #[.slice p1 1 c1, .slice p2 2 c2]) ∧ 1 ≤ c1 ∧ 2 ≤ c2 ∧ RdC w' p1 1 (fun j => [ofV sA 1].getD j clsNone) ∧ RdC w' p2 2 (fun j => [ofV sB 1, ofV sC 1].getD j clsNone) ∧ Ext W w') := hpa
  have Hco : Hid (∀ p cap, 4 ≤ cap → ∀ W, RdC W p 4 (fT sABCA) → Calls Try.prog 40 #[.agg #[.slice p 4 cap, .int .i64 1], .string ⟨#[97, 98, 99, 97, 98, 99, 97]⟩, .int .i64 8, .int .i64 2] W fun e w' => ∃ v, e = .returned (.tuple #[v, .int .i64 9, .int .i64 0]) ∧ Sl w' v 4 (I (IL [0, 4, 4, 0])) ∧ Ext W w') := hco
  have Hfi : Hid (∀ p cap, 4 ≤ cap → ∀ W, RdC W p 4 (fT sABCA) → Calls Try.prog 42 #[.agg #[.slice p 4 cap, .int .i64 1], .string ⟨#[97, 98, 99, 97, 98, 99, 97]⟩, .int .i64 8, .int .i64 9] W fun e w' => ∃ v, e = .returned (.tuple #[v, .int .i64 0, .int .i64 0]) ∧ Sl w' v 2 (I (IL [0, 3])) ∧ Ext W w') := hfi
  have Hfe : Hid (∀ p cap, 4 ≤ cap → ∀ W, RdC W p 4 (fT sABCA) → Calls Try.prog 40 #[.agg #[.slice p 4 cap, .int .i64 1], .string ⟨#[97, 98, 99, 97, 98, 99, 97]⟩, .int .i64 3, .int .i64 1] W fun e w' => ∃ v, e = .returned (.tuple #[v, .int .i64 N5, .int .i64 50]) ∧ Ext W w') := fun p cap h W hr => (hfe p cap h W hr).mono fun e w' ⟨v, h1, _, h2⟩ => ⟨v, h1, h2⟩
  have Hce : Hid (∀ p W, RdC W p 1 (fun _ => ofV sAB 2) → Calls Try.prog 40 #[.agg #[.slice p 1 1, .int .i64 0], .string ⟨#[97]⟩, .int .i64 1, .int .i64 1] W fun e w' => ∃ v, e = .returned (.tuple #[v, .int .i64 N6, .int .i64 170]) ∧ Ext W w') := fun p W h => (hce p W h).mono fun e w' ⟨v, h1, _, h2⟩ => ⟨v, h1, h2⟩
  have Hra : Hid (∀ p cap, 4 ≤ cap → ∀ pk ck, 2 ≤ ck → ∀ W, RdC W p 4 (fT sABCA) → RdC W pk 2 (fun j => [ofV sB 1, ofV sC 1].getD j clsNone) → Calls Try.prog 38 #[.agg #[.slice p 4 cap, .int .i64 1], .string ⟨#[97, 98, 99, 97, 98]⟩, .slice pk 2 ck] W fun e w' => ∃ v, e = .returned v ∧ RareP w' v ∧ Ext W w') := fun p cap h pk ck hck W hr hrk =>
    (hra p cap h pk ck hck W hr hrk).mono fun e w' ⟨g, h1, _, h2, h3⟩ => ⟨_, h1, ⟨⟨_, by decide, Sl.of_row h2, lt_two (by kernel_rfl) (by kernel_rfl)⟩⟩, h3⟩
  have Oa : OfP ⟨#[97]⟩ (ofV sA 1) := ⟨fun W => clsof_any sA (by decide) W⟩
  have Oc : OfP ⟨#[99]⟩ (ofV sC 1) := ⟨fun W => clsof_any sC (by decide) W⟩
  have Hoab : Hid (∀ W, Calls Try.prog 45 #[.string ⟨#[97, 98]⟩] W fun e w' => e = .returned (ofV sAB 2).val ∧ Ext W w') := fun W => clsof_any sAB (by decide) W
  clear hpa hco hfi hfe hce hra
  generalize ofV sA 1 = ca at *
  generalize ofV sB 1 = cb at *
  generalize ofV sC 1 = cc at *
  generalize ofV sAB 2 = cd at *
  generalize fT sABCA = f at *
  go_enter Try.func34, Try.ntmps34
  go_wp2_with fail
  refine (Htx.out _).mono ?_
  rintro e w1 ⟨p, cap, rfl, hcap, hrd, hE1⟩
  have hb := heap_alloc_new w1 (.cells #[.slice p 4 cap, .int .i64 1] 24)
  have hEb := hE1.alloc (.cells #[.slice p 4 cap, .int .i64 1] 24)
  have hrb := hrd.ext ((Ext.refl w1).alloc (.cells #[.slice p 4 cap, .int .i64 1] 24))
  go_wp2_with fail
  generalize w1.alloc (.cells #[.slice p 4 cap, .int .i64 1] 24) = W1 at *
  generalize w1.heap.size = B at *
  clear hrd hE1
  refine (Hpa.out p cap hcap _ hrb).mono ?_
  rintro e w2 ⟨p1, c1, p2, c2, rfl, hc1, hc2, hr1, hr2, hE2⟩
  have d0 : w2.cell? ⟨B, 0, none⟩ = some (.slice p 4 cap) := hE2.cell (cell_of_row _ _ _ _ _ _ hb)
  have d1 : w2.cell? ⟨B, 1, none⟩ = some (.int .i64 1) := hE2.cell (cell_of_row _ _ _ _ _ _ hb)
  have hE2' := hEb.trans hE2
  have hrb2 := hrb.ext hE2
  clear hb hEb hE2 hrb
  go_wp2_with fail
  refine (Hco.out p cap hcap _ hrb2).mono ?_
  rintro e w3 ⟨v1, rfl, hv1, hE3⟩
  have d0' := hE3.cell d0
  have d1' := hE3.cell d1
  go_wp2_with fail
  refine (Hfi.out p cap hcap _ (hrb2.ext hE3)).mono ?_
  rintro e w4 ⟨v2, rfl, hv2, hE4⟩
  have d0'' := hE4.cell d0'
  have d1'' := hE4.cell d1'
  go_wp2_with fail
  refine (Hoab.out _).mono ?_
  rintro e w5 ⟨rfl, hE5⟩
  have d0a := hE5.cell d0''
  have d1a := hE5.cell d1''
  have hnb := heap_alloc_new w5 (.cells #[.int .u64 cd.w0, .int .u64 cd.w1, .int .u64 cd.w2, .int .u64 cd.w3] 27)
  have hEn := (Ext.refl w5).alloc (.cells #[.int .u64 cd.w0, .int .u64 cd.w1, .int .u64 cd.w2, .int .u64 cd.w3] 27)
  go_wp2_with fail
  obtain ⟨⟨x0, x1, x2, x3⟩, -⟩ := cls_cells hnb
  have hcel : ∀ j, j < 1 → ClsAt (w5.alloc (.cells #[.int .u64 cd.w0, .int .u64 cd.w1, .int .u64 cd.w2, .int .u64 cd.w3] 27)) w5.heap.size (0 + j * 4) cd := by
    intro j hj
    obtain ⟨rfl⟩ : j = 0 := by omega
    exact ⟨x0, x1, x2, x3⟩
  refine (Hce.out _ _ (.inr ⟨_, 0, rfl, hcel⟩)).mono ?_
  rintro e w6 ⟨v3, rfl, hE6⟩
  have hE36 := (((hE3.trans hE4).trans hE5).trans hEn).trans hE6
  have d0b := hE6.cell (hEn.cell d0a)
  have d1b := hE6.cell (hEn.cell d1a)
  go_wp2_with fail
  refine (Hfe.out p cap hcap _ (hrb2.ext hE36)).mono ?_
  rintro e w7 ⟨v4, rfl, hE7⟩
  have hE37 := hE36.trans hE7
  obtain ⟨b1, o1, rfl, ha⟩ := (hr1.ext hE37).at (show 0 < 1 by decide)
  have hr2' := hr2.ext hE37
  obtain ⟨b2, o2, hp2, hbx⟩ := hr2'.at (show 1 < 2 by decide)
  subst hp2
  have HS : Hid (LiveT B p cap 1 b1 o1 b2 (o2 + 4) ca cc w7 w7) := ⟨Ext.refl _, hE7.cell d0b, hE7.cell d1b, ha.1, ha.2.1, ha.2.2.1, ha.2.2.2, hbx.1, hbx.2.1, hbx.2.2.1, hbx.2.2.2⟩
  have Hv1 := Lib.hid (hv1.ext ((((hE4.trans hE5).trans hEn).trans hE6).trans hE7))
  have Hv2 := Lib.hid (hv2.ext (((hE5.trans hEn).trans hE6).trans hE7))
  have HE7 := Lib.hid (hE2'.trans hE37)
  have Hrd := Lib.hid (hrb2.ext hE37)
  have Hr2 := Lib.hid hr2'
  clear hE2' hE3 hE4 hE5 hEn hE6 hE7 hE36 hE37 d0 d1 d0' d1' d0'' d1'' d0a d1a d0b d1b hv1 hv2 hrb2 hr1 hr2 hr2' ha hbx hnb x0 x1 x2 x3
  go_wp2_with fail
  have P1 : PlQ w7 v1 4 #[.int .i64 0, .int .i64 4, .int .i64 4, .int .i64 0] := ⟨_, by decide, Hv1.out, lt_four rfl rfl rfl rfl⟩
  have P2 : PlQ w7 v2 2 #[.int .i64 0, .int .i64 3] := ⟨_, by decide, Hv2.out, lt_two rfl rfl⟩
  have Hra2 : Hid (∀ W, Ext w7 W → Calls Try.prog 38 #[.agg #[.slice p 4 cap, .int .i64 1], .string ⟨#[97, 98, 99, 97, 98]⟩, .slice (some ⟨b2, o2, none⟩) 2 c2] W fun e w' => ∃ v, e = .returned v ∧ RareP w' v ∧ Ext W w') := fun W h => Hra.out p cap hcap _ c2 hc2 W (Hrd.out.ext h) (Hr2.out.ext h)
  clear Hv1 Hv2 Hrd Hr2 Hra Htx Hpa Hco Hfi Hfe Hce Hoab
  have heqs : ∀ (c : Cls) (V : World), (binOp .eql 27 (.agg #[.int .u64 c.w0, .int .u64 c.w1, .int .u64 c.w2, .int .u64 c.w3]) (.agg #[.int .u64 c.w0, .int .u64 c.w1, .int .u64 c.w2, .int .u64 c.w3])).run Try.prog V = .ok (.bool true) V := fun c V => by
    rw [eql_cls, decide_eq_true (rfl : c = c)]
  have heq1 := heqs ca
  have heq2 := heqs cc
  have hPL : Hid (∀ W v n g cs, PlQ w7 v n cs → Ext w7 W → W.heap[g]? = some (.cells cs 3 (0, 0)) → Calls Try.prog 24 #[v, .slice (some ⟨g, 0, none⟩) n n] W fun e w' => e = .returned (.bool true) ∧ Ext W w') := fun W v n g cs h1 h2 h3 => (h1.ext h2).same h3
  have hPR : Hid (∀ W v g, RareP W v → W.heap[g]? = some (.cells #[.int .i64 2, .int .i64 0] 3 (0, 0)) → Calls Try.prog 24 #[v, .slice (some ⟨g, 0, none⟩) 2 2] W fun e w' => e = .returned (.bool true) ∧ Ext W w') := fun W v g h1 h3 => h1.out.same h3
  have hRX : ∀ {W W' : World} {v : Value}, RareP W v → Ext W W' → RareP W' v := fun h he => ⟨h.out.ext he⟩
  have hOF : Hid (∀ W s c, OfP s c → Calls Try.prog 45 #[.string s] W fun e w' => e = .returned c.val ∧ Ext W w') := fun W s c h => h.out W
  go_region_held3 (fun W' => Ext w7 W' ∧ W'.cell? ⟨B, 0, none⟩ = some (.slice p 4 cap) ∧ W'.cell? ⟨B, 1, none⟩ = some (.int .i64 1) ∧
    W'.cell? ⟨b1, o1, none⟩ = some (.int .u64 ca.w0) ∧ W'.cell? ⟨b1, o1 + 1, none⟩ = some (.int .u64 ca.w1) ∧ W'.cell? ⟨b1, o1 + 2, none⟩ = some (.int .u64 ca.w2) ∧ W'.cell? ⟨b1, o1 + 3, none⟩ = some (.int .u64 ca.w3) ∧
    W'.cell? ⟨b2, o2 + 4, none⟩ = some (.int .u64 cc.w0) ∧ W'.cell? ⟨b2, o2 + 4 + 1, none⟩ = some (.int .u64 cc.w1) ∧ W'.cell? ⟨b2, o2 + 4 + 2, none⟩ = some (.int .u64 cc.w2) ∧ W'.cell? ⟨b2, o2 + 4 + 3, none⟩ = some (.int .u64 cc.w3))
    ((first | exact HS.out | exact HS.out.ext (Ext.refl w7).drew | exact (HS.out.alloc _).ext (Ext.refl _).drew | exact ‹Ext w7 _ ∧ _ ∧ _› | exact LiveT.alloc ‹Ext w7 _ ∧ _ ∧ _› _ | exact LiveT.ext ‹Ext w7 _ ∧ _ ∧ _› hb2 | exact LiveT.ext ‹Ext w7 _ ∧ _ ∧ _› hbo | exact LiveT.ext ‹Ext w7 _ ∧ _ ∧ _› hbm | fail))
    (first
      | (go_at_call 24; refine Calls.mono (hPL.out _ _ _ _ _ (by first | exact P1 | exact P2) ?_ ?_) ?_; exact (‹Ext w7 _ ∧ _ ∧ _›).1; (first | exact heap_alloc_drew _ _ | exact heap_alloc_new _ _); rintro e w6 ⟨rfl, hb2⟩)
      | (go_at_call 24; refine Calls.mono (hPR.out _ _ _ (by first | exact hv5 | exact hRX hv5 ((Ext.refl _).alloc _)) ?_) ?_; (first | exact heap_alloc_new _ _ | exact hbm.heap (heap_alloc_new _ _)); rintro e w6 ⟨rfl, hb2⟩)
      | (go_at_call 45; refine Calls.mono (hOF.out _ _ _ (by first | exact Oa | exact Oc)) ?_; rintro e w6 ⟨rfl, hbo⟩)
      | (go_at_call 38; refine Calls.mono (Hra2.out _ ?_) ?_; exact (‹Ext w7 _ ∧ _ ∧ _›).1; rintro e w6 ⟨v5, rfl, hv5, hbm⟩)
      | fail "no arm")
  all_goals
    have hEe := (‹Ext w7 _ ∧ _ ∧ _›).1
    go_wp2_with fail
    go_ret
    exact ⟨rfl, HE7.out.trans hEe⟩
end Go.Proofs.Ytmadelflnjhibaa
