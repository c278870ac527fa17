import Derived.Test.YtmadelflnjhibaaAlive
namespace Go.Proofs.Ytmadelflnjhibaa
open Go.RowKit
attribute [local go_sem] Cls.val clsNone clsAll

theorem few_any (p : Option Addr) (n cap : Nat) (K : Int) (s : ByteArray) (w : World) :
    Calls Try.prog 15 #[leafVal p n cap K, .string s] w fun e w' => e = .returned (.bool (decide (n ≤ 100) && decide (s.size ≤ 300))) ∧ Ext w w' := by
  have hE0 := (Ext.refl w).alloc (.cells #[.slice p n cap, .int .i64 K] 24)
  unfold leafVal
  by_cases h1 : (n : Int) ≤ 100
  · rw [show decide (n ≤ 100) = true from decide_eq_true (by omega), show decide (s.size ≤ 300) = decide ((s.size : Int) ≤ 300) from by rw [Bool.eq_iff_iff]; simp; omega]
    go_enter Try.func15, Try.ntmps15
    go_wp2_with fail
    go_ret
    exact ⟨rfl, hE0⟩
  · rw [show decide (n ≤ 100) = false from decide_eq_false (by omega)]
    go_enter Try.func15, Try.ntmps15
    go_wp2_with fail
    go_ret
    exact ⟨rfl, hE0⟩

/-- A row of numbers, to read. -/
structure RowU (W : World) (v : Value) (n : Nat) (F : Nat → Int) : Prop where
  out : Sl W v n (U F)
theorem RowU.ext {W W' : World} {v : Value} {n : Nat} {F : Nat → Int} (h : RowU W v n F) (he : Ext W W') : RowU W' v n F := ⟨h.out.ext he⟩
theorem RowU.same {W : World} {v v' : Value} {n : Nat} {F : Nat → Int} (h : RowU W v n F) (h' : RowU W v' n F) (hn : n ≤ 1099511627777) :
    Calls Try.prog 17 #[v, v'] W fun e w' => e = .returned (.bool true) ∧ Ext W w' := by
  have h := same_u64 n n F F hn hn v v' W h.out h'.out
  rwa [sameB_iff.2 ⟨rfl, fun _ _ => rfl⟩] at h
theorem RowU.of_owns {W : World} {base : Nat} {v : Value} {n : Nat} {F : Nat → Int} (h : W.ownsRow base 25 1 v n ((List.range n).map (U F))) : RowU W v n F :=
  ⟨Sl.of_owns h _ fun j hj => by rw [List.getD_eq_getElem?_getD, List.getElem?_map, List.getElem?_range hj]; rfl⟩
structure RowI (W : World) (v : Value) (n : Nat) (F : Nat → Int) : Prop where
  out : Sl W v n (I F)
theorem RowI.ext {W W' : World} {v : Value} {n : Nat} {F : Nat → Int} (h : RowI W v n F) (he : Ext W W') : RowI W' v n F := ⟨h.out.ext he⟩
theorem RowI.same {W : World} {v v' : Value} {n : Nat} {F : Nat → Int} (h : RowI W v n F) (h' : RowI W v' n F) (hn : n ≤ 1099511627777) :
    Calls Try.prog 24 #[v, v'] W fun e w' => e = .returned (.bool true) ∧ Ext W w' := by
  have h := places_same n n F F hn hn v v' W h.out h'.out
  rwa [sameB_iff.2 ⟨rfl, fun _ _ => rfl⟩] at h

def HeldL (B : Nat) (p : Option Addr) (n cap : Nat) (K : Int) (c : Cls) (W W' : World) : Prop :=
  Ext W W' ∧ W'.cell? ⟨B, 0, none⟩ = some (.slice p n cap) ∧ W'.cell? ⟨B, 1, none⟩ = some (.int .i64 K) ∧
    W'.cell? ⟨B + 1, 0, none⟩ = some (.int .u64 c.w0) ∧ W'.cell? ⟨B + 1, 1, none⟩ = some (.int .u64 c.w1) ∧ W'.cell? ⟨B + 1, 2, none⟩ = some (.int .u64 c.w2) ∧ W'.cell? ⟨B + 1, 3, none⟩ = some (.int .u64 c.w3)
theorem HeldL.ext {B : Nat} {p : Option Addr} {n cap : Nat} {K : Int} {c : Cls} {W A A' : World} (h : HeldL B p n cap K c W A) (he : Ext A A') : HeldL B p n cap K c W A' :=
  ⟨h.1.trans he, he.cell h.2.1, he.cell h.2.2.1, he.cell h.2.2.2.1, he.cell h.2.2.2.2.1, he.cell h.2.2.2.2.2.1, he.cell h.2.2.2.2.2.2⟩

set_option maxRecDepth 100000 in
set_option maxHeartbeats 4000000 in
theorem lawMarks (p : Option Addr) (n cap : Nat) (K : Int) (f : Nat → Cls) (hcap : n ≤ cap) (_ : ∀ j, (f j).ok) (s : ByteArray) (c : Cls) (hc : c.ok) (w : World) (hr : RdC w p n f) :
    Calls Try.prog 3 #[leafVal p n cap K, .string s, c.val] w fun e w' => e = .returned (.bool true) ∧ Ext w w' := by
  obtain ⟨hb1, hb2⟩ := box_cells w (.cells #[.slice p n cap, .int .i64 K] 24) (.cells #[.int .u64 c.w0, .int .u64 c.w1, .int .u64 c.w2, .int .u64 c.w3] 27)
  have hE0 := ((Ext.refl w).alloc (.cells #[.slice p n cap, .int .i64 K] 24)).alloc (.cells #[.int .u64 c.w0, .int .u64 c.w1, .int .u64 c.w2, .int .u64 c.w3] 27)
  have Hfew := Lib.hid (fun W => few_any p n cap K s W)
  have Hal := Lib.hid (fun W => alive_any W)
  by_cases hfew : n ≤ 100 ∧ s.size ≤ 300
  · obtain ⟨hn, hs⟩ := hfew
    rw [decide_eq_true hn, decide_eq_true hs] at Hfew
    have Hm1 : Hid (∀ W, Calls Try.prog 18 #[.string s, c.val] W fun e w' => ∃ v, e = .returned v ∧ RowU w' v s.size (fun j => one (has c (byteV s j))) ∧ Ext W w') := fun W => (marks_any s (by omega) c hc W).mono fun e w' ⟨g, h1, _, h2, h3⟩ => ⟨_, h1, ⟨Sl.of_row h2⟩, h3⟩
    have Hm2 : Hid (∀ W, Calls Try.prog 19 #[.string s, c.val] W fun e w' => ∃ v, e = .returned v ∧ RowU w' v s.size (fun j => one (has c (byteV s j))) ∧ Ext W w') := fun W => (refmarks_any s (by omega) c hc W).mono fun e w' ⟨g, h1, h2, h3⟩ => ⟨_, h1, .of_owns h2, h3⟩
    have Hp1 : Hid (∀ W, Ext w W → Calls Try.prog 20 #[leafVal p n cap K, c.val] W fun e w' => ∃ v, e = .returned v ∧ RowU w' v n (fun j => one (decide (f j = c))) ∧ Ext W w') := fun W hW => (places_any p n cap K f c hcap (by omega) W (hr.ext hW)).mono fun e w' ⟨g, h1, _, h2, h3⟩ => ⟨_, h1, ⟨Sl.of_row h2⟩, h3⟩
    have Hp2 : Hid (∀ W, Ext w W → Calls Try.prog 21 #[leafVal p n cap K, c.val] W fun e w' => ∃ v, e = .returned v ∧ RowU w' v n (fun j => one (decide (f j = c))) ∧ Ext W w') := fun W hW => (refplaces_any p n cap K f c hcap (by omega) W (hr.ext hW)).mono fun e w' ⟨g, h1, h2, h3⟩ => ⟨_, h1, .of_owns h2, h3⟩
    have Hsm : Hid (∀ W v v' F, RowU W v s.size F → RowU W v' s.size F → Calls Try.prog 17 #[v, v'] W fun e w' => e = .returned (.bool true) ∧ Ext W w') := fun W v v' F h1 h2 => h1.same h2 (by omega)
    have Hsp : Hid (∀ W v v' F, RowU W v n F → RowU W v' n F → Calls Try.prog 17 #[v, v'] W fun e w' => e = .returned (.bool true) ∧ Ext W w') := fun W v v' F h1 h2 => h1.same h2 (by omega)
    generalize (fun j => one (has c (byteV s j))) = FM at *
    generalize (fun j => one (decide (f j = c))) = FP at *
    clear hr hc
    unfold leafVal at *
    go_enter Try.func3, Try.ntmps3
    go_wp2_with fail
    generalize (w.alloc (.cells #[.slice p n cap, .int .i64 K] 24)).alloc (.cells #[.int .u64 c.w0, .int .u64 c.w1, .int .u64 c.w2, .int .u64 c.w3] 27) = W at *
    refine (Hfew.out _).mono ?_
    rintro e w2 ⟨rfl, hE2⟩
    have l0 : w2.cell? ⟨w.heap.size, 0, none⟩ = some (.slice p n cap) := hE2.cell (cell_of_row _ _ _ _ _ _ hb1)
    have l1 : w2.cell? ⟨w.heap.size, 1, none⟩ = some (.int .i64 K) := hE2.cell (cell_of_row _ _ _ _ _ _ hb1)
    obtain ⟨⟨c0, c1, c2, c3⟩, -⟩ := cls_cells (hE2.heap hb2)
    have HE2 := Lib.hid (hE0.trans hE2)
    have HS : Hid (HeldL w.heap.size p n cap K c w2 w2) := ⟨Ext.refl _, l0, l1, c0, c1, c2, c3⟩
    clear hE0 hE2 hb1 hb2
    go_wp2_with fail
    generalize hB : w.heap.size = B at *
    clear l0 l1 c0 c1 c2 c3
    go_region_held3 (fun W' => Ext w2 W' ∧ W'.cell? ⟨B, 0, none⟩ = some (.slice p n cap) ∧ W'.cell? ⟨B, 1, none⟩ = some (.int .i64 K) ∧ W'.cell? ⟨B + 1, 0, none⟩ = some (.int .u64 c.w0) ∧ W'.cell? ⟨B + 1, 1, none⟩ = some (.int .u64 c.w1) ∧ W'.cell? ⟨B + 1, 2, none⟩ = some (.int .u64 c.w2) ∧ W'.cell? ⟨B + 1, 3, none⟩ = some (.int .u64 c.w3))
      ((first | exact HS.out | exact HS.out.ext (Ext.refl w2).drew | exact ‹Ext w2 _ ∧ _ ∧ _› | exact HeldL.ext ‹Ext w2 _ ∧ _ ∧ _› hba | exact HeldL.ext ‹Ext w2 _ ∧ _ ∧ _› hbm | exact HeldL.ext ‹Ext w2 _ ∧ _ ∧ _› hbn | exact HeldL.ext ‹Ext w2 _ ∧ _ ∧ _› hbs | exact HeldL.ext ‹Ext w2 _ ∧ _ ∧ _› hbp | exact HeldL.ext ‹Ext w2 _ ∧ _ ∧ _› hbq | fail))
      (first
        | (go_at_call 16; refine Calls.mono (Hal.out _) ?_; rintro e w3 ⟨rfl, hba⟩)
        | (go_at_call 18; refine Calls.mono (Hm1.out _) ?_; rintro e w3 ⟨v5, rfl, hm1, hbm⟩)
        | (go_at_call 19; refine Calls.mono (Hm2.out _) ?_; rintro e w3 ⟨v6, rfl, hm2, hbn⟩)
        | (go_at_call 20; refine Calls.mono (Hp1.out _ (HE2.out.trans (‹Ext w2 _ ∧ _ ∧ _›).1)) ?_; rintro e w3 ⟨v7, rfl, hp1, hbp⟩)
        | (go_at_call 21; refine Calls.mono (Hp2.out _ (HE2.out.trans (‹Ext w2 _ ∧ _ ∧ _›).1)) ?_; rintro e w3 ⟨v8, rfl, hp2, hbq⟩)
        | (go_at_call 17; refine Calls.mono (Hsp.out _ _ _ FP (by first | exact hp1 | exact hp1.ext hbq) (by first | exact hp2 | exact hp2.ext hbp)) ?_; rintro e w3 ⟨rfl, hbs⟩)
        | (go_at_call 17; refine Calls.mono (Hsm.out _ _ _ FM (by first | exact hm1 | exact hm1.ext hbn) (by first | exact hm2 | exact hm2.ext hbm)) ?_; rintro e w3 ⟨rfl, hbs⟩)
        | fail "no arm")
    all_goals
      have hEe := (‹Ext w2 _ ∧ _ ∧ _›).1
      go_wp2_with fail
      go_ret
      exact ⟨rfl, HE2.out.trans hEe⟩
  · have hd : (decide (n ≤ 100) && decide (s.size ≤ 300)) = false := by
      rw [Bool.eq_false_iff]
      intro h
      rw [Bool.and_eq_true, decide_eq_true_eq, decide_eq_true_eq] at h
      exact hfew h
    rw [hd] at Hfew
    clear hd hfew hr hc
    unfold leafVal at *
    go_enter Try.func3, Try.ntmps3
    go_wp2_with fail
    generalize (w.alloc (.cells #[.slice p n cap, .int .i64 K] 24)).alloc (.cells #[.int .u64 c.w0, .int .u64 c.w1, .int .u64 c.w2, .int .u64 c.w3] 27) = W at *
    refine (Hfew.out _).mono ?_
    rintro e w2 ⟨rfl, hE2⟩
    have HE2 := Lib.hid (hE0.trans hE2)
    clear hE0 hE2 hb1 hb2
    go_wp2_with fail
    refine (Hal.out _).mono ?_
    rintro e w3 ⟨rfl, hE3⟩
    go_wp2_with fail
    go_ret
    exact ⟨rfl, HE2.out.trans hE3⟩
end Go.Proofs.Ytmadelflnjhibaa
