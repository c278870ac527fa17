import Derived.Test.YtmadelflnjhibaaLawF
namespace Go.Proofs.Ytmadelflnjhibaa
open Go.RowKit
attribute [local go_sem] Cls.val clsNone clsAll

theorem freqL_over (f : Nat → Cls) (n : Nat) : freqL f n ((n : Int) + 1) = [] := by
  unfold freqL
  rw [List.filter_eq_nil_iff]
  intro c _ h
  unfold freqB at h
  rw [decide_eq_true_iff] at h
  have h2 : (whereV f c n).length ≤ n := by
    unfold whereV
    exact Nat.le_trans (List.length_filter_le _ _) (by simp)
  omega
structure ClsT (W : World) (v : Value) (ks : List Cls) : Prop where
  out : ∃ p cap, v = .slice p ks.length cap ∧ ks.length ≤ cap ∧ RdC W p ks.length fun j => ks.getD j clsNone
theorem ClsT.ext {W W' : World} {v : Value} {ks : List Cls} (h : ClsT W v ks) (he : Ext W W') : ClsT W' v ks := by
  obtain ⟨p, cap, h1, h2, h3⟩ := h
  exact ⟨p, cap, h1, h2, h3.ext he⟩
theorem ClsT.of_row {W : World} {base : Nat} {v : Value} {ks : List Cls} (h : ClsRow W base v ks) : ClsT W v ks := by
  obtain ⟨p, cap, h1, h2, _, h4⟩ := h.rd
  exact ⟨p, cap, h1, h2, h4⟩

theorem rareL_top (f : Nat → Cls) (n : Nat) : rareL f n ((n : Int) + 1) = kindsV f n := by
  have h := freqL_over f n
  unfold freqL at h
  rw [List.filter_eq_nil_iff] at h
  unfold rareL
  rw [List.filter_eq_self]
  intro c hc
  have := h c hc
  simpa using this
/-- Over all kinds the hits are the bound elements that are not missed. -/
theorem rare_kinds (f : Nat → Cls) (s : ByteArray) (n i : Nat) : (rareV (fun j => (kindsV f n).getD j clsNone) (kindsV f n).length f s n i : Int) = boundV f n - missV f s n i := by
  have h := split_out f s n ((n : Int) + 1) i
  rw [freqL_over] at h
  unfold rareI at h
  rw [rareL_top] at h
  have h2 : hitSum f s n [] i = 0 := rfl
  omega

def RLRel (N : Nat) (w0 : World) (i : Value) (wr : World) : Prop := ∃ k : Nat, k ≤ N ∧ i = .int .i64 k ∧ Ext w0 wr
def LeafS3 (B : Nat) (p : Option Addr) (n cap : Nat) (K : Int) (W W' : World) : Prop := Ext W W' ∧ W'.cell? ⟨B, 0, none⟩ = some (.slice p n cap) ∧ W'.cell? ⟨B, 1, none⟩ = some (.int .i64 K)
theorem LeafS3.ext {B : Nat} {p : Option Addr} {n cap : Nat} {K : Int} {W A A' : World} (h : LeafS3 B p n cap K W A) (he : Ext A A') : LeafS3 B p n cap K W A' := ⟨h.1.trans he, he.cell h.2.1, he.cell h.2.2⟩

theorem countsL_void {f : Nat → Cls} {s : ByteArray} {n : Nat} {K : Int} (h : rightB f n K = false) (k : Nat) : countsL f s n K k = [] := by
  unfold countsL
  rw [show (fun i => atB f n K s.size i) = fun _ => false from by funext i; unfold atB; rw [h, Bool.false_and]]
  simp

theorem rare_lists (f : Nat → Cls) (s : ByteArray) (n : Nat) (K : Int) : (countsL f s n K (s.size + 1)).length = sumsR f n K s.size ∧ ∀ i, i < sumsR f n K s.size → IL (countsL f s n K (s.size + 1)) i = missV f s n i := by
  cases h : rightB f n K
  · have e : sumsR f n K s.size = 0 := by unfold sumsR; rw [h]; rfl
    rw [countsL_void h, e]
    exact ⟨rfl, fun i hi => absurd hi (Nat.not_lt_zero _)⟩
  · have e : sumsR f n K s.size = sumsN n s.size := if_pos h
    rw [countsL_eq f s n K h, e]
    exact ⟨by simp, fun i hi => IL_map _ _ _ hi⟩
theorem rareLs_eq (ks : Nat → Cls) (m : Nat) (f : Nat → Cls) (s : ByteArray) (n : Nat) (K : Int) : (rareLs ks m f s n K).length = sumsR f n K s.size ∧ ∀ i, i < sumsR f n K s.size → IL (rareLs ks m f s n K) i = rareV ks m f s n i := by
  unfold rareLs sumsR
  cases h : rightB f n K
  · exact ⟨rfl, fun i hi => absurd hi (Nat.not_lt_zero _)⟩
  · exact ⟨by simp, fun i hi => IL_map _ _ _ hi⟩

set_option maxRecDepth 100000 in
set_option maxHeartbeats 4000000 in
theorem lawSpRare (p : Option Addr) (n cap : Nat) (K : Int) (f : Nat → Cls) (hcap : n ≤ cap) (hcls : ∀ j, (f j).ok) (s : ByteArray) (pk : Option Addr) (m ck : Nat) (g : Nat → Cls) (hck : m ≤ ck) (_ : ∀ j, (g j).ok) (w : World) (hr : RdC w p n f) (hrk : RdC w pk m g) :
    Calls Try.prog 10 #[leafVal p n cap K, .string s, .slice pk m ck] w fun e w' => e = .returned (.bool true) ∧ Ext w w' := by
  have hb1 := heap_alloc_new w (.cells #[.slice p n cap, .int .i64 K] 24)
  have hE0 := (Ext.refl w).alloc (.cells #[.slice p n cap, .int .i64 K] 24)
  have Hfew := Lib.hid (fun W => few12_any p n cap K s W)
  have Hal := Lib.hid (fun W => alive12_any W)
  by_cases hfew : n ≤ 100 ∧ s.size ≤ 300
  · obtain ⟨hn, hs⟩ := hfew
    rw [decide_eq_true hn, decide_eq_true hs] at Hfew
    by_cases hm : (100 : Int) < (m : Int)
    · clear hr hcls hrk
      unfold leafVal at *
      go_enter Try.func10, Try.ntmps10
      go_wp2_with fail
      generalize w.alloc (.cells #[.slice p n cap, .int .i64 K] 24) = W at *
      refine (Hfew.out _).mono ?_
      rintro e w2 ⟨rfl, hE2⟩
      have HE2 := Lib.hid (hE0.trans hE2)
      clear hE0 hE2 hb1
      go_wp2_with fail
      refine (Hal.out _).mono ?_
      rintro e w3 ⟨rfl, hE3⟩
      go_wp2_with fail
      go_ret
      exact ⟨rfl, HE2.out.trans hE3⟩
    have hNb : sumsR f n K s.size ≤ 301 := by unfold sumsR sumsN; split <;> omega
    have Hsr : Hid (∀ W, Ext w W → Calls Try.prog 38 #[leafVal p n cap K, .string s, .slice pk m ck] W fun e w' => ∃ v, e = .returned v ∧ RowI w' v (sumsR f n K s.size) (fun q => rareV g m f s n q) ∧ Ext W w') := fun W hW => (sprare_any p n cap K f hcap (by omega) hcls s (by omega) pk m ck g hck (by omega) W (hr.ext hW) (hrk.ext hW)).mono fun e w' ⟨_, h1, _, h2, h3⟩ => ⟨_, h1, ⟨Sl.of_row h2⟩, h3⟩
    have Hrr : Hid (∀ W, Ext w W → Calls Try.prog 39 #[leafVal p n cap K, .string s, .slice pk m ck] W fun e w' => ∃ v, e = .returned v ∧ RowI w' v (sumsR f n K s.size) (fun q => rareV g m f s n q) ∧ Ext W w') := fun W hW => (refrare_any p n cap K f hcap (by omega) hcls s (by omega) pk m ck g hck (by omega) W (hr.ext hW) (hrk.ext hW)).mono fun e w' ⟨v, h1, h2, h3⟩ => ⟨v, h1, ⟨by
      have h4 := rareLs_eq g m f s n K
      have h5 := Sl.of_list h2
      rw [h4.1] at h5
      exact h5.congr fun j hj => congrArg (Value.int .i64) (h4.2 j hj)⟩, h3⟩
    have Hki := Lib.hid (fun W (hW : Ext w W) => kinds_any p n cap K f hcap (by omega) W (hr.ext hW))
    have hkl := kindsV_len f n
    have Hsk : Hid (∀ W, Ext w W → ∀ v, ClsT W v (kindsV f n) → Calls Try.prog 38 #[leafVal p n cap K, .string s, v] W fun e w' => ∃ v', e = .returned v' ∧ RowI w' v' (sumsR f n K s.size) (fun q => boundV f n - missV f s n q) ∧ Ext W w') := fun W hW v hv => by
      obtain ⟨p1, c1, rfl, h2, h3⟩ := hv.out
      exact (sprare_any p n cap K f hcap (by omega) hcls s (by omega) p1 _ c1 _ h2 (by omega) W (hr.ext hW) h3).mono fun e w' ⟨_, h1, _, h4, h5⟩ => ⟨_, h1, ⟨(Sl.of_row h4).congr fun j _ => congrArg (Value.int .i64) (rare_kinds f s n j)⟩, h5⟩
    have Hc8 : Hid (∀ W, Ext w W → Calls Try.prog 31 #[leafVal p n cap K, .string s] W fun e w' => ∃ v, e = .returned v ∧ RowI w' v (sumsR f n K s.size) (fun q => missV f s n q) ∧ Ext W w') := fun W hW => (refcounts8_any p n cap K f hcap (by omega) hcls s (by omega) W (hr.ext hW)).mono fun e w' ⟨v, h1, h2, h3⟩ => ⟨v, h1, ⟨by
      have h4 := rare_lists f s n K
      have h5 := Sl.of_list h2
      rw [h4.1] at h5
      exact h5.congr fun j hj => congrArg (Value.int .i64) (h4.2 j hj)⟩, h3⟩
    have Hbd := Lib.hid (fun W (hW : Ext w W) => bound_any p n cap K f (by omega) hcap W (hr.ext hW))
    have hmb : ∀ q, missV f s n q ≤ n := fun q => cnt_le _ _
    have hbq : boundV f n ≤ n := by unfold boundV; omega
    have Hmb := Lib.hid hmb
    generalize sumsR f n K s.size = N at *
    generalize kindsV f n = kl at *
    generalize boundV f n = q at *
    generalize missV f s n = ms at *
    clear hr hcls hrk hmb
    unfold leafVal at *
    go_enter Try.func10, Try.ntmps10
    go_wp2_with fail
    generalize w.alloc (.cells #[.slice p n cap, .int .i64 K] 24) = W at *
    refine (Hfew.out _).mono ?_
    rintro e w2 ⟨rfl, hE2⟩
    have l0 : w2.cell? ⟨w.heap.size, 0, none⟩ = some (.slice p n cap) := hE2.cell (cell_of_row _ _ _ _ _ _ hb1)
    have l1 : w2.cell? ⟨w.heap.size, 1, none⟩ = some (.int .i64 K) := hE2.cell (cell_of_row _ _ _ _ _ _ hb1)
    have HE2 := Lib.hid (hE0.trans hE2)
    clear hE0 hE2 hb1
    go_wp2_with fail
    generalize w.heap.size = B at *
    go_region_held3 (fun W' => Ext w2 W' ∧ W'.cell? ⟨B, 0, none⟩ = some (.slice p n cap) ∧ W'.cell? ⟨B, 1, none⟩ = some (.int .i64 K))
      ((first | exact ⟨Ext.refl w2, l0, l1⟩ | exact ⟨(Ext.refl w2).drew, l0, l1⟩ | exact LeafS3.ext ‹Ext w2 _ ∧ _ ∧ _› hb2 | exact LeafS3.ext ‹Ext w2 _ ∧ _ ∧ _› hb3 | exact LeafS3.ext ‹Ext w2 _ ∧ _ ∧ _› hb4 | exact ‹Ext w2 _ ∧ _ ∧ _› | fail))
      (first
        | (go_at_call 38; refine Calls.mono (Hsr.out _ (HE2.out.trans (‹Ext w2 _ ∧ _ ∧ _›).1)) ?_; rintro e w3 ⟨v3, rfl, hv3, hb2⟩)
        | (go_at_call 39; refine Calls.mono (Hrr.out _ (HE2.out.trans (‹Ext w2 _ ∧ _ ∧ _›).1)) ?_; rintro e w4 ⟨v4, rfl, hv4, hb3⟩)
        | (go_at_call 24; refine Calls.mono (RowI.same (by first | exact hv3 | exact hv3.ext hb3) (by first | exact hv4 | exact hv4.ext hb2) (by omega)) ?_; rintro e w5 ⟨rfl, hb4⟩)
        | fail "no arm")
    obtain ⟨hEx, y0, y1⟩ := (‹Ext w2 _ ∧ _ ∧ _›)
    have HE5 := Lib.hid (HE2.out.trans hEx)
    clear hEx hb2 hb3 hb4 hv3 hv4 l0 l1
    go_wp2_with fail
    go_region_held3 (fun W' => Ext w5 W' ∧ W'.cell? ⟨B, 0, none⟩ = some (.slice p n cap) ∧ W'.cell? ⟨B, 1, none⟩ = some (.int .i64 K))
      ((first | exact ⟨Ext.refl w5, y0, y1⟩ | exact ⟨(Ext.refl w5).drew, y0, y1⟩ | exact LeafS3.ext ‹Ext w5 _ ∧ _ ∧ _› hb2 | exact LeafS3.ext ‹Ext w5 _ ∧ _ ∧ _› hb3 | exact ‹Ext w5 _ ∧ _ ∧ _› | fail))
      (first
        | (go_at_call 29; refine Calls.mono (Hki.out _ (HE5.out.trans (‹Ext w5 _ ∧ _ ∧ _›).1)) ?_; rintro e w6 ⟨v6, rfl, hks, hb2⟩)
        | (go_at_call 38; refine Calls.mono (Hsk.out _ (HE5.out.trans (‹Ext w5 _ ∧ _ ∧ _›).1) _ (ClsT.of_row hks)) ?_; rintro e w7 ⟨v7, rfl, hv7, hb3⟩)
        | fail "no arm")
    obtain ⟨hEx, z0, z1⟩ := (‹Ext w5 _ ∧ _ ∧ _›)
    have HE7 := Lib.hid (HE5.out.trans hEx)
    obtain ⟨p7, c7, rfl, hc7, hrd7⟩ := hv7.out
    have Hrd7 := Lib.hid hrd7
    clear hEx hb2 hb3 hks hv7 hrd7 y0 y1
    go_wp2_with fail
    refine (Hc8.out _ HE7.out).mono ?_
    rintro e w8 ⟨v8, rfl, hv8, hE8⟩
    obtain ⟨p8, c8, rfl, hc8, hrd8⟩ := hv8.out
    have x0 := hE8.cell z0
    have x1 := hE8.cell z1
    have HE8 := Lib.hid (HE7.out.trans hE8)
    have Hrd7' := Lib.hid (Hrd7.out.ext hE8)
    have Hrd8 := Lib.hid hrd8
    clear hE8 hv8 hrd8 z0 z1 Hrd7 Hsr Hrr Hki Hsk Hc8
    go_wp2_with fail
    go_loopw [9, 45] (fun _ i wr => RLRel N w8 i wr) (fun _ i _ => N - (intOf i).toNat)
    case atStart => exact ⟨0, by omega, rfl, Ext.refl _⟩
    case round =>
      obtain ⟨k, hk, rfl, hE⟩ := hrel
      have HE := Lib.hid hE
      clear hE
      by_cases hlt : k < N
      · rcases Hrd7'.out.ext HE.out with h0 | ⟨b7, o7, rfl, hcl7⟩
        · omega
        rcases Hrd8.out.ext HE.out with h0 | ⟨b8, o8, rfl, hcl8⟩
        · omega
        have d7 : wr.cell? ⟨b7, o7 + k, none⟩ = some (.int .i64 ((q : Int) - (ms k : Nat))) := hcl7 k hlt
        have d8 : wr.cell? ⟨b8, o8 + k, none⟩ = some (.int .i64 (ms k : Nat)) := hcl8 k hlt
        have e0 := HE.out.cell x0
        have e1 := HE.out.cell x1
        have hmk := Hmb.out k
        have Hbd2 := Lib.hid (fun W (hW : Ext wr W) => Hbd.out W ((HE8.out.trans HE.out).trans hW))
        have HR : Hid (RLRel N w8 (.int .i64 k) wr) := ⟨k, hk, rfl, HE.out⟩
        clear hcl7 hcl8 HR
        generalize ms k = y at *
        have i1 : IntKind.i64.wrap ((q : Int) - y) = (q : Int) - y := IntWalk.i64_in _ ⟨by omega, by omega⟩
        have k1 : (0 : Int) ≤ (k : Int) := by omega
        have k2 : (k : Int) < (N : Int) := by omega
        go_wp2_with fail
        go_region_held3 (fun W' => Ext wr W' ∧ W'.cell? ⟨B, 0, none⟩ = some (.slice p n cap) ∧ W'.cell? ⟨B, 1, none⟩ = some (.int .i64 K) ∧ W'.cell? ⟨b7, o7 + k, none⟩ = some (.int .i64 ((q : Int) - (y : Nat))) ∧ W'.cell? ⟨b8, o8 + k, none⟩ = some (.int .i64 (y : Nat)))
          ((first | exact ⟨Ext.refl wr, e0, e1, d7, d8⟩ | exact ⟨(Ext.refl wr).drew, e0, e1, d7, d8⟩ | exact ⟨(Ext.refl wr).drew.trans hb2, hb2.cell e0, hb2.cell e1, hb2.cell d7, hb2.cell d8⟩ | exact ‹Ext wr _ ∧ _ ∧ _› | fail))
          (first
            | (go_at_call 32; refine Calls.mono (Hbd2.out _ (Ext.refl wr).drew) ?_; rintro e w9 ⟨rfl, hb2⟩)
            | fail "no arm")
        all_goals
          have HE9 := Lib.hid (HE.out.trans (‹Ext wr _ ∧ _ ∧ _›).1)
          clear e0 e1 d7 d8 hb2
          go_wp2_with fail
          go_roundw
          case rel => exact ⟨k + 1, by omega, by go_num, HE9.out⟩
          case measure => simp [intOf]; omega
      · have e : k = N := by omega
        subst e
        go_wp2_with fail
        refine (Hal.out _).mono ?_
        rintro e w10 ⟨rfl, hE10⟩
        go_wp2_with fail
        go_ret
        exact ⟨rfl, (HE8.out.trans HE.out).trans hE10⟩
  · rw [not_few hfew] at Hfew
    clear hfew hr hcls hrk
    unfold leafVal at *
    go_enter Try.func10, Try.ntmps10
    go_wp2_with fail
    generalize w.alloc (.cells #[.slice p n cap, .int .i64 K] 24) = W at *
    refine (Hfew.out _).mono ?_
    rintro e w2 ⟨rfl, hE2⟩
    have HE2 := Lib.hid (hE0.trans hE2)
    clear hE0 hE2 hb1
    go_wp2_with fail
    refine (Hal.out _).mono ?_
    rintro e w3 ⟨rfl, hE3⟩
    go_wp2_with fail
    go_ret
    exact ⟨rfl, HE2.out.trans hE3⟩
end Go.Proofs.Ytmadelflnjhibaa
