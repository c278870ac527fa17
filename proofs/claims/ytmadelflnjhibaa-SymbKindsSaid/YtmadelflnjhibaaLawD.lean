import Derived.Test.YtmadelflnjhibaaLawC
namespace Go.Proofs.Ytmadelflnjhibaa
open Go.RowKit
attribute [local go_sem] Cls.val clsNone clsAll

/-- Not few, or no leaf, or longer than the text. -/
theorem kindsPass {n tn : Nat} {r : Bool} (h : ¬ ((n ≤ 100 ∧ tn ≤ 300) ∧ r = true ∧ n ≤ tn)) :
    (decide (n ≤ 100) && decide (tn ≤ 300)) = false ∨ ((decide (n ≤ 100) && decide (tn ≤ 300)) = true ∧ r = false) ∨ ((decide (n ≤ 100) && decide (tn ≤ 300)) = true ∧ r = true ∧ (tn : Int) < n) := by
  by_cases h1 : n ≤ 100 ∧ tn ≤ 300
  · have e : (decide (n ≤ 100) && decide (tn ≤ 300)) = true := by simp [h1]
    cases r
    · exact .inr (.inl ⟨e, rfl⟩)
    · exact .inr (.inr ⟨e, rfl, by
        by_cases h2 : n ≤ tn
        · exact absurd ⟨h1, rfl, h2⟩ h
        · omega⟩)
  · exact .inl (not_few h1)

def HeldY (B Y : Nat) (p : Option Addr) (n cap : Nat) (K : Int) (c : Cls) (wa W : World) : Prop :=
  Ext wa W ∧ W.cell? ⟨B, 0, none⟩ = some (.slice p n cap) ∧ W.cell? ⟨B, 1, none⟩ = some (.int .i64 K) ∧ W.cell? ⟨Y, 0, none⟩ = some (.int .u64 c.w0) ∧ W.cell? ⟨Y, 1, none⟩ = some (.int .u64 c.w1) ∧ W.cell? ⟨Y, 2, none⟩ = some (.int .u64 c.w2) ∧ W.cell? ⟨Y, 3, none⟩ = some (.int .u64 c.w3)
theorem HeldY.ext {B Y : Nat} {p : Option Addr} {n cap : Nat} {K : Int} {c : Cls} {wa W W' : World} (h : HeldY B Y p n cap K c wa W) (he : Ext W W') : HeldY B Y p n cap K c wa W' :=
  ⟨h.1.trans he, he.cell h.2.1, he.cell h.2.2.1, he.cell h.2.2.2.1, he.cell h.2.2.2.2.1, he.cell h.2.2.2.2.2.1, he.cell h.2.2.2.2.2.2⟩

def KindRel (f : Nat → Cls) (s : ByteArray) (n N G : Nat) (ks : List Cls) (w0 : World) (i : Value) (wr : World) : Prop :=
  ∃ k : Nat, k ≤ ks.length ∧ i = .int .i64 k ∧ w0.grownBy wr (some G) ∧ Row wr 3 G N (I fun i => hitSum f s n (ks.take k) i)
def KindIn (N G : Nat) (base hit : Nat → Int) (w0 : World) (i : Value) (wr : World) : Prop :=
  ∃ t : Nat, t ≤ N ∧ i = .int .i64 t ∧ w0.grownBy wr (some G) ∧ Row wr 3 G N (I fun j => if j < t then base j + hit j else base j)

set_option maxRecDepth 100000 in
set_option maxHeartbeats 8000000 in
theorem lawKinds (p : Option Addr) (n cap : Nat) (K : Int) (f : Nat → Cls) (hcap : n ≤ cap) (hcls : ∀ j, (f j).ok) (s : ByteArray) (size : Int) (w : World) (hr : RdC w p n f) :
    Calls Try.prog 6 #[leafVal p n cap K, .string s, .int .i64 size] w fun e w' => e = .returned (.bool true) ∧ Ext w w' := by
  have hb1 := heap_alloc_new w (.cells #[.slice p n cap, .int .i64 K] 24)
  have hE0 := (Ext.refl w).alloc (.cells #[.slice p n cap, .int .i64 K] 24)
  have Hfew := Lib.hid (fun W => few_any p n cap K s W)
  have Hal := Lib.hid (fun W => alive_any W)
  by_cases hgo : (n ≤ 100 ∧ s.size ≤ 300) ∧ rightB f n K = true ∧ n ≤ s.size
  · obtain ⟨⟨hn, hs⟩, hright, hns⟩ := hgo
    rw [decide_eq_true hn, decide_eq_true hs] at Hfew
    obtain ⟨h1, h64, _, _⟩ := rightB_true hright
    have Hrt := Lib.hid (fun W (hW : Ext w W) => refright_any p n cap K f hcap (by omega) hcls W (hr.ext hW))
    rw [hright] at Hrt
    have Hki := Lib.hid (fun W (hW : Ext w W) => kinds_any p n cap K f hcap (by omega) W (hr.ext hW))
    have Hc8 := Lib.hid (fun W (hW : Ext w W) => refcounts8_any p n cap K f hcap (by omega) hcls s (by omega) W (hr.ext hW))
    have Hbd := Lib.hid (fun W (hW : Ext w W) => bound_any p n cap K f (by omega) hcap W (hr.ext hW))
    have Hpl := Lib.hid (fun c W (hW : Ext w W) => places_any p n cap K f c hcap (by omega) W (hr.ext hW))
    have Hmk := Lib.hid (fun c hc W => marks_any s (by omega) c hc W)
    have Hcls := Lib.hid hcls
    rw [countsL_eq f s n K hright] at Hc8
    have Hout := Lib.hid (fun i => outV_miss f s n i)
    obtain ⟨N, hN⟩ : ∃ N : Nat, N = sumsN n s.size := ⟨_, rfl⟩
    have hNv1 : N + n ≤ s.size + 1 := by unfold sumsN at hN; omega
    have hNv2 : s.size + 1 ≤ N + n := by unfold sumsN at hN; omega
    have HN := Lib.hid hN
    rw [← hN] at Hc8
    clear hr hcls hN
    unfold leafVal at *
    go_enter Try.func6, Try.ntmps6
    go_wp2_with fail
    generalize w.alloc (.cells #[.slice p n cap, .int .i64 K] 24) = W at *
    refine (Hfew.out _).mono ?_
    rintro e w2 ⟨rfl, hE2⟩
    have l0 : w2.cell? ⟨w.heap.size, 0, none⟩ = some (.slice p n cap) := hE2.cell (cell_of_row _ _ _ _ _ _ hb1)
    have l1 : w2.cell? ⟨w.heap.size, 1, none⟩ = some (.int .i64 K) := hE2.cell (cell_of_row _ _ _ _ _ _ hb1)
    have HE2 := Lib.hid (hE0.trans hE2)
    clear hE0 hE2 hb1
    go_wp2_with fail
    refine (Hrt.out _ HE2.out).mono ?_
    rintro e w3 ⟨rfl, hE3⟩
    have m0 := hE3.cell l0
    have m1 := hE3.cell l1
    have HE3 := Lib.hid (HE2.out.trans hE3)
    clear hE3 l0 l1 Hrt Hfew
    have i1 : IntKind.i64.wrap ((s.size : Int) - n) = (s.size : Int) - n := IntWalk.i64_in _ ⟨by omega, by omega⟩
    have i2 : IntKind.i64.wrap ((s.size : Int) - n + 1) = (N : Int) := by rw [IntWalk.i64_in _ ⟨by omega, by omega⟩]; omega
    have i3 : (n : Int) ≤ (s.size : Int) := by omega
    obtain ⟨w4, hm, hrow4, hE4⟩ := make_int w3 N (by omega)
    have n0 := hE4.cell m0
    have n1 := hE4.cell m1
    have HRow4 := Lib.hid hrow4
    have HE4 := Lib.hid (HE3.out.trans hE4)
    have hBG : w.heap.size < w3.heap.size := World.block_lt_of_cell? _ _ m0
    clear hrow4 hE4
    go_wp2_with fail
    clear hm m0 m1
    refine (Hki.out _ HE4.out).mono ?_
    rintro e w5 ⟨v, rfl, hks, hE5⟩
    obtain ⟨pv, cv, rfl, hcv, hpv, hrd⟩ := hks.rd
    have hkl := kindsV_len f n
    have HRow5 := Lib.hid (HRow4.out.ext hE5)
    have HE5 := Lib.hid (HE4.out.trans hE5)
    have o0 := hE5.cell n0
    have o1 := hE5.cell n1
    have Hrd := Lib.hid hrd
    have Hpv := Lib.hid hpv
    have hs4 := HRow4.out.lt
    have Hkn := Lib.hid (fun c (h : c ∈ kindsV f n) => kinds_from f n c h)
    generalize hks' : kindsV f n = ks at *
    have Hks := Lib.hid hks'
    generalize hG : w3.heap.size = G at *
    generalize hB : w.heap.size = B at *
    have HB := Lib.hid hB
    have hBw3 : B ≤ G := by omega
    clear hB
    clear hks hrd hpv hE5 n0 n1 hks' hG HRow4 Hki
    go_wp2_with fail
    go_loopw [9, 10, 11, 12, 13, 45, 75] (fun _ _ _ _ _ i _ wr => KindRel f s n N G ks w5 i wr) (fun _ _ _ _ _ i _ _ => ks.length - (intOf i).toNat)
    case atStart => exact ⟨0, by omega, rfl, (Ext.refl _).grownBy _, HRow5.out.congr fun j _ => by simp [I, hitSum]⟩
    case round =>
      obtain ⟨k, hk, rfl, hgr, hrow⟩ := hrel
      have hEr : Ext w wr := HE5.out.grown hgr (fun q hq => by injection hq with hq; have := HB.out; omega)
      have q0 : wr.cell? ⟨B, 0, none⟩ = some (.slice p n cap) := hgr.cell o0 (ne_some (show B ≠ G by omega))
      have q1 : wr.cell? ⟨B, 1, none⟩ = some (.int .i64 K) := hgr.cell o1 (ne_some (show B ≠ G by omega))
      have HRow := Lib.hid hrow
      have Hgr := Lib.hid hgr
      have HEr := Lib.hid hEr
      have hszr := hgr.size
      clear hrow hgr hEr HRow5
      by_cases hlt : k < ks.length
      · have hck : ks[k]? = some (ks.getD k clsNone) := by rw [List.getD_eq_getElem?_getD, List.getElem?_eq_getElem hlt]; rfl
        have hcok : (ks.getD k clsNone).ok := by
          obtain ⟨j, hj⟩ := Hkn.out _ (List.mem_of_getElem? hck)
          rw [← hj]
          exact Hcls.out j
        have hstep : ∀ i, hitSum f s n (ks.take (k + 1)) i = hitSum f s n (ks.take k) i + hitV f s n (ks.getD k clsNone) i := by
          intro i
          rw [List.take_add_one, hck]
          exact hitSum_snoc f s n i _ _
        obtain ⟨gb, off, rfl, hd⟩ := Hrd.out.at hlt
        have hgb : gb ≠ G := by have h5 := Hpv.out _ rfl; simp only [] at h5; omega
        have d0 := Hgr.out.cell hd.1 (ne_some hgb)
        have d1 := Hgr.out.cell hd.2.1 (ne_some hgb)
        have d2 := Hgr.out.cell hd.2.2.1 (ne_some hgb)
        have d3 := Hgr.out.cell hd.2.2.2 (ne_some hgb)
        have Hstep := Lib.hid hstep
        have Hmk2 := Lib.hid (Hmk.out _ hcok)
        generalize ks.getD k clsNone = c at *
        clear hstep hck hcok hd
        have hnb := heap_alloc_new wr (.cells #[.int .u64 c.w0, .int .u64 c.w1, .int .u64 c.w2, .int .u64 c.w3] 27)
        obtain ⟨⟨x0, x1, x2, x3⟩, -⟩ := cls_cells hnb
        have hwa : Ext wr (wr.alloc (.cells #[.int .u64 c.w0, .int .u64 c.w1, .int .u64 c.w2, .int .u64 c.w3] 27)) := (Ext.refl wr).alloc _
        have HS : Hid (HeldY B wr.heap.size p n cap K c (wr.alloc (.cells #[.int .u64 c.w0, .int .u64 c.w1, .int .u64 c.w2, .int .u64 c.w3] 27)) (wr.alloc (.cells #[.int .u64 c.w0, .int .u64 c.w1, .int .u64 c.w2, .int .u64 c.w3] 27))) :=
          ⟨Ext.refl _, hwa.cell q0, hwa.cell q1, x0, x1, x2, x3⟩
        have Hwa := Lib.hid hwa
        have hEa := Lib.hid (HEr.out.trans hwa)
        have hk0 : (0 : Int) ≤ (k : Int) := by omega
        have hk1 : (k : Int) < (ks.length : Int) := by omega
        clear x0 x1 x2 x3 hnb hwa
        by_cases hok : szOk n size = true
        · have Hco := Lib.hid (fun g1 g2 W => corr_marks f s n c size h1 h64 (by omega) (fun _ => hok) g1 g2 W)
          rw [← HN.out] at Hco
          generalize kcount n s.size size = kc at *
          clear hok
          go_wp2_with fail
          clear q0 q1 d0 d1 d2 d3
          generalize wr.alloc (.cells #[.int .u64 c.w0, .int .u64 c.w1, .int .u64 c.w2, .int .u64 c.w3] 27) = wa at *
          generalize hY : wr.heap.size = Y at *
          go_region_held3 (fun W' => Ext wa W' ∧ W'.cell? ⟨B, 0, none⟩ = some (.slice p n cap) ∧ W'.cell? ⟨B, 1, none⟩ = some (.int .i64 K) ∧ W'.cell? ⟨Y, 0, none⟩ = some (.int .u64 c.w0) ∧ W'.cell? ⟨Y, 1, none⟩ = some (.int .u64 c.w1) ∧ W'.cell? ⟨Y, 2, none⟩ = some (.int .u64 c.w2) ∧ W'.cell? ⟨Y, 3, none⟩ = some (.int .u64 c.w3))
            ((first | exact HS.out | exact HS.out.ext (Ext.refl wa).drew | exact ‹Ext wa _ ∧ _ ∧ _› | exact HeldY.ext ‹Ext wa _ ∧ _ ∧ _› hbm | exact HeldY.ext ‹Ext wa _ ∧ _ ∧ _› hbn | exact HeldY.ext ‹Ext wa _ ∧ _ ∧ _› hbc | fail))
            (first
              | (go_at_call 20; refine Calls.mono (Hpl.out c _ (hEa.out.trans (‹Ext wa _ ∧ _ ∧ _›).1)) ?_; rintro e w6 ⟨g1, rfl, hg1, hrow1, hbm⟩)
              | (go_at_call 18; refine Calls.mono (Hmk2.out _) ?_; rintro e w7 ⟨g2, rfl, hg2, hrow2, hbn⟩)
              | (go_at_call 30; refine Calls.mono (Hco.out g1 g2 _ (by first | exact hrow1 | exact hrow1.ext hbn) (by first | exact hrow2 | exact hrow2.ext hbm)) ?_; rintro e w8 ⟨v, rfl, hhit, hbc⟩)
              | fail "no arm")
          have hE8 := (‹Ext wa _ ∧ _ ∧ _›).1
          unfold HitsAt at hhit
          obtain ⟨pv8, cv8, rfl, hcv8⟩ := ownsRow_form hhit
          have HE8 := Lib.hid (Hwa.out.trans hE8)
          have HHit := Lib.hid hhit
          have HRow8 := Lib.hid (HRow.out.ext HE8.out)
          clear hE8 hhit hbm hbn hbc hrow1 hrow2 HS
          have hb1 : ∀ i, 0 ≤ hitV f s n c i ∧ hitV f s n c i ≤ 64 := fun i => ⟨(hitV_bd f s n c i).1, Int.le_trans (hitV_bd f s n c i).2 (by omega)⟩
          have hb2 : ∀ i, 0 ≤ hitSum f s n (ks.take k) i ∧ hitSum f s n (ks.take k) i ≤ 4096 := by
            intro i
            have v2 := hitSum_bd f s n i (ks.take k)
            have v3 : (ks.take k).length * n ≤ 64 * 64 := Nat.mul_le_mul (by rw [List.length_take]; omega) h64
            have v4 : ((ks.take k).length : Int) * n ≤ 4096 := by exact_mod_cast v3
            exact ⟨v2.1, Int.le_trans v2.2 v4⟩
          generalize hbs : (fun i => hitSum f s n (ks.take k) i) = bs at *
          have Hstep2 : Hid (∀ i, hitSum f s n (ks.take (k + 1)) i = bs i + hitV f s n c i) := fun i => by rw [← hbs]; exact Hstep.out i
          have Hb2 : Hid (∀ i, 0 ≤ bs i ∧ bs i ≤ 4096) := fun i => by rw [← hbs]; exact hb2 i
          have Hb1 := Lib.hid hb1
          generalize hitV f s n c = ht at *
          clear hb1 hb2 hbs Hstep
          obtain ⟨wo, rfl⟩ : ∃ wo : World, wo = wr := ⟨_, rfl⟩
          go_wp2_with fail
          go_loopw [13, 75] (fun _ i wr => KindIn N G bs ht w8 i wr) (fun _ i _ => N - (intOf i).toNat)
          case atStart => exact ⟨0, by omega, rfl, (Ext.refl _).grownBy _, HRow8.out.congr fun j _ => by simp [I]⟩
          case round =>
            obtain ⟨t, ht2, rfl, hgr2, hrow2⟩ := hrel
            have Hgr2 := Lib.hid hgr2
            have HRow2 := Lib.hid hrow2
            clear hgr2 hrow2
            by_cases hlt2 : t < N
            · obtain ⟨gh, ch, h5, _, _, hrowH⟩ := Row.owns HHit.out (by omega)
              injection h5 with h5 _ h6
              subst h6
              subst h5
              have hne : gh ≠ G := by
                rintro rfl
                obtain ⟨cu, e1, _⟩ := hrowH
                obtain ⟨cu', e2, _⟩ := HRow8.out
                rw [e1] at e2
                injection e2 with e2
                injection e2 with _ e2
                exact absurd e2 (by decide)
              have hhc : w8.cell? ⟨gh, t, none⟩ = some (.int .u64 (ht t)) := by
                have h6 := hrowH.cell (show t < N * 1 by omega)
                rw [h6]
                show some ((List.map (U ht) (List.range N)).getD t undef) = _
                rw [List.getD_eq_getElem?_getD, List.getElem?_map, List.getElem?_range hlt2]
                rfl
              have c2 : wr.cell? ⟨gh, t, none⟩ = some (.int .u64 (ht t)) := Hgr2.out.cell hhc (ne_some hne)
              have c1 : wr.cell? ⟨G, t, none⟩ = some (.int .i64 (bs t)) := by
                rw [HRow2.out.cell hlt2]
                simp [I]
              have f1 := HRow2.out.frozen t
              have v1 := Hb1.out t
              have v2 := Hb2.out t
              have hr5 : Hid (Row (wr.setCell ⟨G, t, none⟩ (.int .i64 (bs t + ht t))) 3 G N (I fun j => if j < t + 1 then bs j + ht j else bs j)) := (HRow2.out.set t _).congr fun j hj => by
                unfold I
                by_cases e : j = t
                · subst e; simp
                · by_cases e2 : j < t
                  · simp [e, e2, show j < t + 1 by omega]
                  · simp [e, e2, show ¬ j < t + 1 by omega]
              generalize bs t = y at *
              generalize ht t = x at *
              have j1 : IntKind.i64.wrap x = x := IntWalk.i64_in _ ⟨by omega, by omega⟩
              have j2 : IntKind.i64.wrap (y + x) = y + x := IntWalk.i64_in _ ⟨by omega, by omega⟩
              have k1 : (0 : Int) ≤ (t : Int) := by omega
              have k2 : (t : Int) < (N : Int) := by omega
              clear hhc hrowH
              go_wp2_with fail
              refine wp_region_permE (last := 11) (S := fun W' => Ext wr W' ∧ W'.cell? ⟨G, t, none⟩ = some (.int .i64 y) ∧ W'.cell? ⟨gh, t, none⟩ = some (.int .u64 x))
                [(0, true), (1, true), (2, true), (3, true), (4, true), (5, true), (6, true), (7, true), (8, true), (9, true), (10, true), (11, false)] (by kernel_rfl) rfl (by kernel_rfl) (by kernel_rfl) ⟨(Ext.refl wr).drew, c1, c2⟩ ?_
              refine wpPermE_take rfl rfl (.slice (some ⟨G, 0, none⟩) N N) (fun W' hS => ?_) (fun Kt hK => ?_)
              · obtain ⟨s0, s1, s2⟩ := hS; go_simp
              go_simp
              refine hK _ _ ?_
              clear hK Kt
              refine wpPermE_take rfl rfl (.int .i64 t) (fun W' hS => ?_) (fun Kt hK => ?_)
              · obtain ⟨s0, s1, s2⟩ := hS; go_simp
              go_simp
              refine hK _ _ ?_
              clear hK Kt
              refine wpPermE_take rfl rfl (.pointer (some ⟨G, t, none⟩)) (fun W' hS => ?_) (fun Kt hK => ?_)
              · obtain ⟨s0, s1, s2⟩ := hS; go_simp
              go_simp
              refine hK _ _ ?_
              clear hK Kt
              refine wpPermE_take rfl rfl (.int .i64 y) (fun W' hS => ?_) (fun Kt hK => ?_)
              · obtain ⟨s0, s1, s2⟩ := hS; go_simp
              go_simp
              refine hK _ _ ?_
              clear hK Kt
              refine wpPermE_take rfl rfl (.slice (some ⟨gh, 0, none⟩) N cv8) (fun W' hS => ?_) (fun Kt hK => ?_)
              · obtain ⟨s0, s1, s2⟩ := hS; go_simp
              go_simp
              refine hK _ _ ?_
              clear hK Kt
              refine wpPermE_take rfl rfl (.int .i64 t) (fun W' hS => ?_) (fun Kt hK => ?_)
              · obtain ⟨s0, s1, s2⟩ := hS; go_simp
              go_simp
              refine hK _ _ ?_
              clear hK Kt
              refine wpPermE_take rfl rfl (.pointer (some ⟨gh, t, none⟩)) (fun W' hS => ?_) (fun Kt hK => ?_)
              · obtain ⟨s0, s1, s2⟩ := hS; go_simp
              go_simp
              refine hK _ _ ?_
              clear hK Kt
              refine wpPermE_take rfl rfl (.int .u64 x) (fun W' hS => ?_) (fun Kt hK => ?_)
              · obtain ⟨s0, s1, s2⟩ := hS; go_simp
              go_simp
              refine hK _ _ ?_
              clear hK Kt
              refine wpPermE_take rfl rfl (.int .i64 x) (fun W' hS => ?_) (fun Kt hK => ?_)
              · obtain ⟨s0, s1, s2⟩ := hS; go_simp
              go_simp
              refine hK _ _ ?_
              clear hK Kt
              refine wpPermE_take rfl rfl (.int .i64 (y + x)) (fun W' hS => ?_) (fun Kt hK => ?_)
              · obtain ⟨s0, s1, s2⟩ := hS; go_simp
              go_simp
              refine hK _ _ ?_
              clear hK Kt
              refine wpPermE_take rfl rfl (.pointer (some ⟨G, t, none⟩)) (fun W' hS => ?_) (fun Kt hK => ?_)
              · obtain ⟨s0, s1, s2⟩ := hS; go_simp
              go_simp
              refine hK _ _ ?_
              clear hK Kt
              refine wpPermE_bar rfl rfl (fun Kt hK => ?_)
              go_simp
              refine hK _ _ (fun h => absurd rfl h) ?_
              clear hK Kt
              refine wpPermE_end (NoPanic.normal ?_)
              have hg5 : Hid (w8.grownBy (wr.drew.setCell ⟨G, t, none⟩ (.int .i64 (y + x))) (some G)) := grownBy_trans Hgr2.out (grownBy_trans ((Ext.refl wr).drew.grownBy _) (grownBy_setCell _ _ _ _))
              clear c1 c2 f1
              go_wp2_with fail
              go_roundw
              case rel => exact ⟨t + 1, by omega, by go_num, hg5.out, hr5.out⟩
              case measure => simp [intOf]; omega
            · have e : t = N := by omega
              subst e
              have hgf := grownBy_trans (grownBy_trans Hgr.out (HE8.out.grownBy (some G))) Hgr2.out
              have hrf : Row wr 3 G t (I fun i => hitSum f s n (ks.take (k + 1)) i) := HRow2.out.congr fun j hj => by
                unfold I
                dsimp only
                rw [if_pos hj, Hstep2.out]
              have Hgf := Lib.hid hgf
              have Hrf := Lib.hid hrf
              clear hgf hrf
              go_wp2_with fail
              go_roundw
              case rel => exact ⟨k + 1, by omega, by go_num, Hgf.out, Hrf.out⟩
              case measure => simp [intOf]; omega
        · have hok2 : szOk n size = false := by simpa using hok
          have Hco := Lib.hid (fun p q c d W => corr_bad n s.size size h1 hns hok2 p q c d W)
          clear hok hok2
          go_wp2_with fail
          clear q0 q1 d0 d1 d2 d3
          generalize wr.alloc (.cells #[.int .u64 c.w0, .int .u64 c.w1, .int .u64 c.w2, .int .u64 c.w3] 27) = wa at *
          generalize hY : wr.heap.size = Y at *
          go_region_held3 (fun W' => Ext wa W' ∧ W'.cell? ⟨B, 0, none⟩ = some (.slice p n cap) ∧ W'.cell? ⟨B, 1, none⟩ = some (.int .i64 K) ∧ W'.cell? ⟨Y, 0, none⟩ = some (.int .u64 c.w0) ∧ W'.cell? ⟨Y, 1, none⟩ = some (.int .u64 c.w1) ∧ W'.cell? ⟨Y, 2, none⟩ = some (.int .u64 c.w2) ∧ W'.cell? ⟨Y, 3, none⟩ = some (.int .u64 c.w3))
            ((first | exact HS.out | exact HS.out.ext (Ext.refl wa).drew | exact ‹Ext wa _ ∧ _ ∧ _› | exact HeldY.ext ‹Ext wa _ ∧ _ ∧ _› hbm | exact HeldY.ext ‹Ext wa _ ∧ _ ∧ _› hbn | exact HeldY.ext ‹Ext wa _ ∧ _ ∧ _› hbc | fail))
            (first
              | (go_at_call 20; refine Calls.mono (Hpl.out c _ (hEa.out.trans (‹Ext wa _ ∧ _ ∧ _›).1)) ?_; rintro e w6 ⟨g1, rfl, hg1, hrow1, hbm⟩)
              | (go_at_call 18; refine Calls.mono (Hmk2.out _) ?_; rintro e w7 ⟨g2, rfl, hg2, hrow2, hbn⟩)
              | (go_at_call 30; refine Calls.mono (Hco.out _ _ _ _ _) ?_; rintro e w8 ⟨rfl, hbc⟩)
              | fail "no arm")
          have hE8 := (‹Ext wa _ ∧ _ ∧ _›).1
          have HE8 := Lib.hid (hEa.out.trans hE8)
          clear hE8 hbm hbn hbc hrow1 hrow2 HS
          go_wp2_with fail
          refine (Hal.out _).mono ?_
          rintro e w9 ⟨rfl, hE9⟩
          go_wp2_with fail
          go_ret
          exact ⟨rfl, HE8.out.trans hE9⟩
      · have e : k = ks.length := by omega
        subst e
        have hhs : ∀ i, hitSum f s n (ks.take ks.length) i = (boundV f n : Int) - (missV f s n i : Nat) := by
          intro i
          have h5 := Hout.out i
          unfold outV at h5
          rw [List.take_length]
          omega
        have HRowF : Hid (Row wr 3 G N (I fun i => (boundV f n : Int) - (missV f s n i : Nat))) := HRow.out.congr fun j _ => by
          unfold I
          dsimp only
          rw [hhs]
        have hbdn : boundV f n ≤ n := by unfold boundV; omega
        have Hms := Lib.hid (fun i => missV_le f s n i)
        generalize boundV f n = bd at *
        clear hhs HRow Hks Hout
        go_wp2_with fail
        refine (Hc8.out _ HEr.out).mono ?_
        rintro e w6 ⟨v, rfl, hv, hE6⟩
        have hsl : Sl w6 v N (I fun i => (missV f s n i : Nat)) := by
          have h5 := Sl.of_list hv
          rw [List.length_map, List.length_range] at h5
          exact h5.congr fun j hj => by unfold I; rw [IL_map _ _ _ hj]
        obtain ⟨p6, c6, rfl, hc6, hr6⟩ := hsl
        have Hr6 := Lib.hid hr6
        have HRow6 := Lib.hid (HRowF.out.ext hE6)
        have HE6 := Lib.hid (HEr.out.trans hE6)
        have b0 := hE6.cell q0
        have b1 := hE6.cell q1
        generalize missV f s n = mi at *
        clear hr6 hv hE6 q0 q1 HRowF
        simp only [List.length_map]
        go_wp2_with fail
        go_loopw [14, 15, 95] (fun _ _ i wr => ∃ t : Nat, t ≤ N ∧ i = .int .i64 t ∧ Ext w6 wr) (fun _ _ i _ => N - (intOf i).toNat)
        case atStart => exact ⟨0, by omega, rfl, Ext.refl _⟩
        case round =>
          obtain ⟨t, ht, rfl, hEt⟩ := hrel
          have HEt := Lib.hid hEt
          have c0 := hEt.cell b0
          have c1 := hEt.cell b1
          clear hEt
          by_cases hlt2 : t < N
          · obtain ⟨b6, o6, rfl, y1⟩ := (Hr6.out.ext HEt.out).at hlt2
            have y2 := (HRow6.out.ext HEt.out).cell hlt2
            unfold I at y1 y2
            dsimp only at y1 y2
            have hmt := Hms.out t
            generalize mi t = m at *
            have j2 : IntKind.i64.wrap ((bd : Int) - m) = (bd : Int) - m := IntWalk.i64_in _ ⟨by omega, by omega⟩
            have k1 : (0 : Int) ≤ (t : Int) := by omega
            have k2 : (t : Int) < (N : Int) := by omega
            have HS : Hid (Ext wr wr ∧ wr.cell? ⟨G, t, none⟩ = some (.int .i64 ((bd : Int) - m)) ∧ wr.cell? ⟨B, 0, none⟩ = some (.slice p n cap) ∧ wr.cell? ⟨B, 1, none⟩ = some (.int .i64 K)) := ⟨Ext.refl _, y2, c0, c1⟩
            have Hbd2 := Lib.hid (fun W (hW : Ext wr W) => Hbd.out W ((HE6.out.trans HEt.out).trans hW))
            go_wp2_with fail
            clear y2 c0 c1 y1
            go_region_held3 (fun W' => Ext wr W' ∧ W'.cell? ⟨G, t, none⟩ = some (.int .i64 ((bd : Int) - m)) ∧ W'.cell? ⟨B, 0, none⟩ = some (.slice p n cap) ∧ W'.cell? ⟨B, 1, none⟩ = some (.int .i64 K))
              ((first | exact HS.out | exact ⟨(Ext.refl wr).drew, HS.out.2⟩ | exact ‹Ext wr _ ∧ _ ∧ _› | exact ⟨(Ext.refl wr).drew.trans hbb, ((Ext.refl wr).drew.trans hbb).cell HS.out.2.1, ((Ext.refl wr).drew.trans hbb).cell HS.out.2.2.1, ((Ext.refl wr).drew.trans hbb).cell HS.out.2.2.2⟩ | fail))
              (first
                | (go_at_call 32; refine Calls.mono (Hbd2.out _ (Ext.refl wr).drew) ?_; rintro e w7 ⟨rfl, hbb⟩)
                | fail "no arm")
            have HEt2 := Lib.hid (HEt.out.trans ((Ext.refl wr).drew.trans hbb))
            clear HS hbb
            go_wp2_with fail
            go_roundw
            case rel => exact ⟨t + 1, by omega, by go_num, HEt2.out⟩
            case measure => simp [intOf]; omega
          · have e : t = N := by omega
            subst e
            go_wp2_with fail
            refine (Hal.out _).mono ?_
            rintro e w8 ⟨rfl, hE8⟩
            go_wp2_with fail
            go_ret
            exact ⟨rfl, (HE6.out.trans HEt.out).trans hE8⟩
  · have hgo' := hgo
    clear hgo
    by_cases h5 : n ≤ 1099511627776
    · have Hrt := Lib.hid (fun W (hW : Ext w W) => refright_any p n cap K f hcap h5 hcls W (hr.ext hW))
      have hpass := kindsPass hgo'
      clear hgo' hr hcls
      generalize rightB f n K = r at *
      generalize (decide (n ≤ 100) && decide (s.size ≤ 300)) = q at *
      unfold leafVal at *
      rcases hpass with rfl | ⟨rfl, rfl⟩ | ⟨rfl, rfl, hlen⟩
      · go_enter Try.func6, Try.ntmps6
        go_wp2_with fail
        generalize w.alloc (.cells #[.slice p n cap, .int .i64 K] 24) = W at *
        refine (Hfew.out _).mono ?_
        rintro e w2 ⟨rfl, hE2⟩
        have HE2 := Lib.hid (hE0.trans hE2)
        clear hE0 hE2 hb1
        go_wp2_with fail
        refine (Hal.out _).mono ?_
        rintro e w3 ⟨rfl, hE3⟩
        go_wp2_with fail
        go_ret
        exact ⟨rfl, HE2.out.trans hE3⟩
      · go_enter Try.func6, Try.ntmps6
        go_wp2_with fail
        generalize w.alloc (.cells #[.slice p n cap, .int .i64 K] 24) = W at *
        refine (Hfew.out _).mono ?_
        rintro e w2 ⟨rfl, hE2⟩
        have l0 : w2.cell? ⟨w.heap.size, 0, none⟩ = some (.slice p n cap) := hE2.cell (cell_of_row _ _ _ _ _ _ hb1)
        have l1 : w2.cell? ⟨w.heap.size, 1, none⟩ = some (.int .i64 K) := hE2.cell (cell_of_row _ _ _ _ _ _ hb1)
        have HE2 := Lib.hid (hE0.trans hE2)
        clear hE0 hE2 hb1
        go_wp2_with fail
        refine (Hrt.out _ HE2.out).mono ?_
        rintro e w3 ⟨rfl, hE3⟩
        have HE3 := Lib.hid (HE2.out.trans hE3)
        clear hE3 l0 l1
        go_wp2_with fail
        refine (Hal.out _).mono ?_
        rintro e w4 ⟨rfl, hE4⟩
        go_wp2_with fail
        go_ret
        exact ⟨rfl, HE3.out.trans hE4⟩
      · go_enter Try.func6, Try.ntmps6
        go_wp2_with fail
        generalize w.alloc (.cells #[.slice p n cap, .int .i64 K] 24) = W at *
        refine (Hfew.out _).mono ?_
        rintro e w2 ⟨rfl, hE2⟩
        have l0 : w2.cell? ⟨w.heap.size, 0, none⟩ = some (.slice p n cap) := hE2.cell (cell_of_row _ _ _ _ _ _ hb1)
        have l1 : w2.cell? ⟨w.heap.size, 1, none⟩ = some (.int .i64 K) := hE2.cell (cell_of_row _ _ _ _ _ _ hb1)
        have HE2 := Lib.hid (hE0.trans hE2)
        clear hE0 hE2 hb1
        go_wp2_with fail
        refine (Hrt.out _ HE2.out).mono ?_
        rintro e w3 ⟨rfl, hE3⟩
        have m0 := hE3.cell l0
        have m1 := hE3.cell l1
        have HE3 := Lib.hid (HE2.out.trans hE3)
        clear hE3 l0 l1
        go_wp2_with fail
        refine (Hal.out _).mono ?_
        rintro e w4 ⟨rfl, hE4⟩
        go_wp2_with fail
        go_ret
        exact ⟨rfl, HE3.out.trans hE4⟩
    · rw [not_few (fun h => h5 (by omega))] at Hfew
      clear hgo' hr hcls h5
      unfold leafVal at *
      go_enter Try.func6, Try.ntmps6
      go_wp2_with fail
      generalize w.alloc (.cells #[.slice p n cap, .int .i64 K] 24) = W at *
      refine (Hfew.out _).mono ?_
      rintro e w2 ⟨rfl, hE2⟩
      have HE2 := Lib.hid (hE0.trans hE2)
      clear hE0 hE2 hb1
      go_wp2_with fail
      refine (Hal.out _).mono ?_
      rintro e w3 ⟨rfl, hE3⟩
      go_wp2_with fail
      go_ret
      exact ⟨rfl, HE2.out.trans hE3⟩
end Go.Proofs.Ytmadelflnjhibaa
