import Derived.Test.YtmadelflnjhibaaRareB
namespace Go.Proofs.Ytmadelflnjhibaa
open Go.RowKit Go.Shelf
attribute [local go_sem] Cls.val clsNone clsAll

theorem inB_list (L : List Cls) (c : Cls) : inB (fun j => L.getD j clsNone) c L.length = decide (c ∈ L) := by
  rw [Bool.eq_iff_iff, inB_iff, decide_eq_true_iff]
  unfold inV
  constructor
  · rintro ⟨j, hj, rfl⟩
    show L.getD j clsNone ∈ L
    rw [List.getD_eq_getElem?_getD, List.getElem?_eq_getElem hj]
    exact List.getElem_mem hj
  · intro h
    obtain ⟨j, hj, e⟩ := List.getElem_of_mem h
    exact ⟨j, hj, by show L.getD j clsNone = c; rw [List.getD_eq_getElem?_getD, List.getElem?_eq_getElem hj]; exact e⟩

def rareI (f : Nat → Cls) (s : ByteArray) (n : Nat) (least : Int) (i : Nat) : Int := rareV (fun j => (rareL f n least).getD j clsNone) (rareL f n least).length f s n i
theorem rareI_bd (f : Nat → Cls) (s : ByteArray) (n : Nat) (least : Int) (i : Nat) : 0 ≤ rareI f s n least i ∧ rareI f s n least i ≤ n := by
  have := rareV_le (fun j => (rareL f n least).getD j clsNone) (rareL f n least).length f s n i
  unfold rareI
  omega
/-- The rare kinds one by one, the others by sums: all of them. -/
theorem split_sum (f : Nat → Cls) (s : ByteArray) (n : Nat) (least : Int) (i : Nat) : rareI f s n least i + hitSum f s n (freqL f n least) i = hitSum f s n (kindsV f n) i := by
  have hnd := (kindsV_nodup f n).1
  unfold rareI rareV
  rw [cnt_sm, hitSum_sm f s n i _ hnd, hitSum_sm f s n i (freqL f n least) (hnd.filter _), ← NttM.sm_add]
  refine NttM.sm_congr fun j hj => ?_
  rw [inB_list]
  unfold rareL freqL
  simp only [List.mem_filter]
  by_cases h1 : f j ∈ kindsV f n
  · cases h2 : freqB f n least (f j) <;> cases has (f j) (byteV s (i + j)) <;> simp [h1, one]
  · simp [h1, one]
theorem split_out (f : Nat → Cls) (s : ByteArray) (n : Nat) (least : Int) (i : Nat) : boundV f n - (rareI f s n least i + hitSum f s n (freqL f n least) i) = missV f s n i := by
  rw [split_sum]
  exact outV_miss f s n i

def HeldZ (B Y : Nat) (p : Option Addr) (n cap : Nat) (K : Int) (c : Cls) (wa W : World) : Prop :=
  Ext wa W ∧ W.cell? ⟨B, 0, none⟩ = some (.slice p n cap) ∧ W.cell? ⟨B, 1, none⟩ = some (.int .i64 K) ∧ W.cell? ⟨Y, 0, none⟩ = some (.int .u64 c.w0) ∧ W.cell? ⟨Y, 1, none⟩ = some (.int .u64 c.w1) ∧ W.cell? ⟨Y, 2, none⟩ = some (.int .u64 c.w2) ∧ W.cell? ⟨Y, 3, none⟩ = some (.int .u64 c.w3)
theorem HeldZ.ext {B Y : Nat} {p : Option Addr} {n cap : Nat} {K : Int} {c : Cls} {wa W W' : World} (h : HeldZ B Y p n cap K c wa W) (he : Ext W W') : HeldZ B Y p n cap K c wa W' :=
  ⟨h.1.trans he, he.cell h.2.1, he.cell h.2.2.1, he.cell h.2.2.2.1, he.cell h.2.2.2.2.1, he.cell h.2.2.2.2.2.1, he.cell h.2.2.2.2.2.2⟩

def SpIn (N G : Nat) (base hit : Nat → Int) (w0 : World) (i : Value) (wr : World) : Prop :=
  ∃ t : Nat, t ≤ N ∧ i = .int .i64 t ∧ w0.grownBy wr (some G) ∧ Row wr 3 G N (I fun j => if j < t then base j + hit j else base j)
def SpRel (f : Nat → Cls) (s : ByteArray) (n N G : Nat) (br : Nat → Int) (kc : Int) (ks : List Cls) (w0 : World) (d i : Value) (wr : World) : Prop :=
  ∃ k : Nat, k ≤ ks.length ∧ i = .int .i64 k ∧ d = .int .i64 (k * kc) ∧ w0.grownBy wr (some G) ∧ Row wr 3 G N (I fun i => br i + hitSum f s n (ks.take k) i)
def SpOut (N G : Nat) (q : Int) (base : Nat → Int) (w0 : World) (i : Value) (wr : World) : Prop :=
  ∃ t : Nat, t ≤ N ∧ i = .int .i64 t ∧ w0.grownBy wr (some G) ∧ Row wr 3 G N (I fun j => if j < t then q - base j else base j)

set_option maxRecDepth 100000 in
set_option maxHeartbeats 8000000 in
theorem spcounts_yes (p : Option Addr) (n cap : Nat) (K : Int) (f : Nat → Cls) (hcap : n ≤ cap) (hn : n ≤ 1099511627776) (hcls : ∀ j, (f j).ok) (s : ByteArray) (hs : s.size ≤ 1099511627776) (size least : Int) (w : World) (hr : RdC w p n f) (hz : checkS f n K s.size size least = 0) :
    Calls Try.prog 40 #[leafVal p n cap K, .string s, .int .i64 size, .int .i64 least] w fun e w' =>
      ∃ g, e = .returned (.tuple #[.slice (some ⟨g, 0, none⟩) (sumsN n s.size) (sumsN n s.size), .int .i64 ((freqL f n least).length * kcount n s.size size), .int .i64 0]) ∧ Row w' 3 g (sumsN n s.size) (I fun i => missV f s n i) ∧ Ext w w' := by
  have hright : rightB f n K = true := by
    unfold checkS at hz
    cases h : rightB f n K
    · rw [h, Bool.false_and, if_neg (by decide)] at hz; exact absurd hz (by decide)
    · rfl
  have hpl : plainB f n = true := by
    unfold checkS at hz
    cases h : plainB f n
    · rw [h, Bool.and_false, if_neg (by decide)] at hz; exact absurd hz (by decide)
    · rfl
  have hok : 0 < (freqL f n least).length → n ≤ s.size → szOk n size = true := by
    intro h1 h2
    unfold checkS amissB at hz
    rw [hright, hpl, decide_eq_true h1, decide_eq_true h2] at hz
    cases h : szOk n size
    · rw [h] at hz; exact absurd hz (by decide)
    · rfl
  obtain ⟨h1, h64, _, _⟩ := rightB_true hright
  have hnew := heap_alloc_new w (.cells #[.slice p n cap, .int .i64 K] 24)
  have hE0 := (Ext.refl w).alloc (.cells #[.slice p n cap, .int .i64 K] 24)
  have Hpa := Lib.hid (fun W (hW : Ext w W) => parts_any p n cap K f hcap hn hcls least W (hr.ext hW))
  have Hck := Lib.hid (fun W (hW : Ext w W) => spcheck_any p n cap K f hcap hn hcls s hs size (freqL f n least).length 0 (hz.symm.trans rfl) W (hr.ext hW))
  have Hra := Lib.hid (fun pk ck (hck : (rareL f n least).length ≤ ck) W (hW : Ext w W) hrk => sprare_any p n cap K f hcap hn hcls s hs pk (rareL f n least).length ck (fun j => (rareL f n least).getD j clsNone) hck (Nat.le_trans (Nat.le_trans (List.length_filter_le _ _) (kindsV_len f n)) hn) W (hr.ext hW) hrk)
  have hsr : sumsR f n K s.size = sumsN n s.size := if_pos hright
  rw [hsr] at Hra
  have Hbd := Lib.hid (fun W (hW : Ext w W) => bound_any p n cap K f hn hcap W (hr.ext hW))
  have Hpc := Lib.hid (fun c W (hW : Ext w W) => places_any p n cap K f c hcap hn W (hr.ext hW))
  have Hmk := Lib.hid (fun c hc W => marks_any s hs c hc W)
  have Hcls := Lib.hid hcls
  have Hout := Lib.hid (fun i => split_out f s n least i)
  have Hkn := Lib.hid (fun c (h : c ∈ freqL f n least) => kinds_from f n c (List.mem_filter.1 h).1)
  have hkl := freqL_len f n least
  have hbr : ∀ i, 0 ≤ rareI f s n least i ∧ rareI f s n least i ≤ 64 := fun i => ⟨(rareI_bd f s n least i).1, Int.le_trans (rareI_bd f s n least i).2 (by omega)⟩
  have Hbr := Lib.hid hbr
  have Hok := Lib.hid hok
  obtain ⟨N, hN⟩ : ∃ N : Nat, N = sumsN n s.size := ⟨_, rfl⟩
  have hNb : N ≤ 1099511627777 := by unfold sumsN at hN; omega
  have HN := Lib.hid hN
  rw [← hN] at Hra ⊢
  clear hr hcls hz hright hpl hok hsr hN hbr
  have hbrE : ∀ i, rareI f s n least i = rareV (fun j => (rareL f n least).getD j clsNone) (rareL f n least).length f s n i := fun i => rfl
  have HbrE := Lib.hid hbrE
  clear hbrE
  generalize rareI f s n least = br at *
  generalize freqL f n least = ks at *
  generalize rareL f n least = rl at *
  have hkcb := kcount_bd n s.size size h64 hs
  obtain ⟨kc, hkc⟩ : ∃ kc : Int, kc = kcount n s.size size := ⟨_, rfl⟩
  have Hkc := Lib.hid hkc
  rw [← hkc] at hkcb ⊢
  clear hkc
  unfold leafVal at *
  go_enter Try.func40, Try.ntmps40
  go_wp2_with fail
  generalize w.alloc (.cells #[.slice p n cap, .int .i64 K] 24) = W at *
  have l0 : W.cell? ⟨w.heap.size, 0, none⟩ = some (.slice p n cap) := cell_of_row _ _ _ _ _ _ hnew
  have l1 : W.cell? ⟨w.heap.size, 1, none⟩ = some (.int .i64 K) := cell_of_row _ _ _ _ _ _ hnew
  refine (Hpa.out _ hE0).mono ?_
  rintro e w2 ⟨p1, c1, p2, c2, rfl, hc1, hc2, hr1, hr2, hE2⟩
  have m0 := hE2.cell l0
  have m1 := hE2.cell l1
  have HE2 := Lib.hid (hE0.trans hE2)
  have Hr1 := Lib.hid hr1
  have Hr2 := Lib.hid hr2
  clear hE0 hE2 l0 l1 hnew hr1 hr2
  go_wp2_with fail
  refine (Hck.out _ HE2.out).mono ?_
  rintro e w3 ⟨rfl, hE3⟩
  have n0 := hE3.cell m0
  have n1 := hE3.cell m1
  have HE3 := Lib.hid (HE2.out.trans hE3)
  have Hr1' := Lib.hid (Hr1.out.ext hE3)
  have Hr2' := Lib.hid (Hr2.out.ext hE3)
  clear hE3 m0 m1 Hck Hpa
  go_wp2_with fail
  refine (Hra.out p2 c2 hc2 _ HE3.out Hr2'.out).mono ?_
  rintro e w5 ⟨G, rfl, hG, hrow5, hE5⟩
  have hrow5' : Row w5 3 G N (I br) := hrow5.congr fun j _ => by
    show Value.int .i64 _ = Value.int .i64 _
    rw [HbrE.out j]
  have hBG : w.heap.size < G := by have h5 := World.block_lt_of_cell? _ _ n0; simp only [] at h5; omega
  have o0 := hE5.cell n0
  have o1 := hE5.cell n1
  have HE5 := Lib.hid (HE3.out.trans hE5)
  have HRow5 := Lib.hid hrow5'
  have hrd : ∀ t, t < ks.length → ∃ gb off, p1 = some ⟨gb, off, none⟩ ∧ gb < G ∧ ClsAt w5 gb (off + t * 4) (ks.getD t clsNone) := by
    intro t ht
    obtain ⟨gb, off, h1, h2⟩ := Hr1'.out.at ht
    have := World.block_lt_of_cell? _ _ h2.1
    exact ⟨gb, off, h1, Nat.lt_of_lt_of_le this hG, h2.ext hE5⟩
  have Hrd := Lib.hid hrd
  clear hrow5 hrow5' hE5 n0 n1 hrd HbrE Hra Hr1 Hr2 Hr1' Hr2' HE2 HE3
  generalize hB : w.heap.size = B at *
  have HB := Lib.hid hB
  clear hB
  go_wp2_with fail
  go_loopw [15, 17, 18, 19, 20, 21, 22, 45, 66] (fun d _ _ _ _ _ _ i _ wr => SpRel f s n N G br kc ks w5 d i wr) (fun _ _ _ _ _ _ _ i _ _ => ks.length - (intOf i).toNat)
  case atStart => exact ⟨0, by omega, rfl, by simp, (Ext.refl _).grownBy _, HRow5.out.congr fun j _ => by simp [I, hitSum]⟩
  case round =>
    obtain ⟨k, hk, rfl, rfl, hgr, hrow⟩ := hrel
    have hEr : Ext w wr := HE5.out.grown hgr (fun q hq => by injection hq with hq; have := HB.out; omega)
    have q0 : wr.cell? ⟨B, 0, none⟩ = some (.slice p n cap) := hgr.cell o0 (ne_some (show B ≠ G by omega))
    have q1 : wr.cell? ⟨B, 1, none⟩ = some (.int .i64 K) := hgr.cell o1 (ne_some (show B ≠ G by omega))
    have HRow := Lib.hid hrow
    have Hgr := Lib.hid hgr
    have HEr := Lib.hid hEr
    have hszr := hgr.size
    clear hrow hgr hEr HRow5
    by_cases hlt : k < ks.length
    · have hck : ks[k]? = some (ks.getD k clsNone) := by rw [List.getD_eq_getElem?_getD, List.getElem?_eq_getElem hlt]; rfl
      have hcok : (ks.getD k clsNone).ok := by
        obtain ⟨j, hj⟩ := Hkn.out _ (List.mem_of_getElem? hck)
        rw [← hj]
        exact Hcls.out j
      have hstep : ∀ i, br i + hitSum f s n (ks.take (k + 1)) i = br i + hitSum f s n (ks.take k) i + hitV f s n (ks.getD k clsNone) i := by
        intro i
        rw [List.take_add_one, hck]
        have := hitSum_snoc f s n i (ks.getD k clsNone) (ks.take k)
        show br i + hitSum f s n (ks.take k ++ [ks.getD k clsNone]) i = _
        rw [this]
        omega
      obtain ⟨gb, off, rfl, hgb0, hd⟩ := Hrd.out k hlt
      have hgb : gb ≠ G := by omega
      have d0 := Hgr.out.cell hd.1 (ne_some hgb)
      have d1 := Hgr.out.cell hd.2.1 (ne_some hgb)
      have d2 := Hgr.out.cell hd.2.2.1 (ne_some hgb)
      have d3 := Hgr.out.cell hd.2.2.2 (ne_some hgb)
      have Hstep := Lib.hid hstep
      have Hmk2 := Lib.hid (Hmk.out _ hcok)
      generalize ks.getD k clsNone = c at *
      clear hstep hck hcok hd
      have hnb := heap_alloc_new wr (.cells #[.int .u64 c.w0, .int .u64 c.w1, .int .u64 c.w2, .int .u64 c.w3] 27)
      obtain ⟨⟨x0, x1, x2, x3⟩, -⟩ := cls_cells hnb
      have hwa : Ext wr (wr.alloc (.cells #[.int .u64 c.w0, .int .u64 c.w1, .int .u64 c.w2, .int .u64 c.w3] 27)) := (Ext.refl wr).alloc _
      have HS : Hid (HeldZ B wr.heap.size p n cap K c (wr.alloc (.cells #[.int .u64 c.w0, .int .u64 c.w1, .int .u64 c.w2, .int .u64 c.w3] 27)) (wr.alloc (.cells #[.int .u64 c.w0, .int .u64 c.w1, .int .u64 c.w2, .int .u64 c.w3] 27))) :=
        ⟨Ext.refl _, hwa.cell q0, hwa.cell q1, x0, x1, x2, x3⟩
      have Hwa := Lib.hid hwa
      have hEa := Lib.hid (HEr.out.trans hwa)
      have hk0 : (0 : Int) ≤ (k : Int) := by omega
      have hk1 : (k : Int) < (ks.length : Int) := by omega
      clear x0 x1 x2 x3 hnb hwa
      have Hco := Lib.hid (fun g1 g2 W => corr_marks f s n c size h1 h64 hs (Hok.out (by omega)) g1 g2 W)
      rw [← HN.out, ← Hkc.out] at Hco
      have hprod : (0 : Int) ≤ k * kc ∧ (k : Int) * kc ≤ 64 * 6597069766671 := by
        refine ⟨Int.mul_nonneg (by omega) hkcb.1, Int.le_trans (Int.mul_le_mul_of_nonneg_right (show (k : Int) ≤ 64 by omega) hkcb.1) (Int.mul_le_mul_of_nonneg_left hkcb.2 (by omega))⟩
      have hnext : (k : Int) * kc + kc = ((k + 1 : Nat) : Int) * kc := by rw [Int.natCast_add, Int.add_mul]; simp
      generalize hz0 : (k : Int) * kc = z0 at *
      have Hz0 := Lib.hid hz0
      have Hnext := Lib.hid hnext
      have i3 : IntKind.i64.wrap (z0 + kc) = z0 + kc := IntWalk.i64_in _ ⟨by omega, by omega⟩
      clear hz0 hnext
      go_wp2_with fail
      clear q0 q1 d0 d1 d2 d3
      generalize wr.alloc (.cells #[.int .u64 c.w0, .int .u64 c.w1, .int .u64 c.w2, .int .u64 c.w3] 27) = wa at *
      generalize hY : wr.heap.size = Y at *
      go_region_held3 (fun W' => Ext wa W' ∧ W'.cell? ⟨B, 0, none⟩ = some (.slice p n cap) ∧ W'.cell? ⟨B, 1, none⟩ = some (.int .i64 K) ∧ W'.cell? ⟨Y, 0, none⟩ = some (.int .u64 c.w0) ∧ W'.cell? ⟨Y, 1, none⟩ = some (.int .u64 c.w1) ∧ W'.cell? ⟨Y, 2, none⟩ = some (.int .u64 c.w2) ∧ W'.cell? ⟨Y, 3, none⟩ = some (.int .u64 c.w3))
        ((first | exact HS.out | exact HS.out.ext (Ext.refl wa).drew | exact ‹Ext wa _ ∧ _ ∧ _› | exact HeldZ.ext ‹Ext wa _ ∧ _ ∧ _› hbm | exact HeldZ.ext ‹Ext wa _ ∧ _ ∧ _› hbn | exact HeldZ.ext ‹Ext wa _ ∧ _ ∧ _› hbc | fail))
        (first
          | (go_at_call 20; refine Calls.mono (Hpc.out c _ (hEa.out.trans (‹Ext wa _ ∧ _ ∧ _›).1)) ?_; rintro e w6 ⟨g1, rfl, hg1, hrow1, hbm⟩)
          | (go_at_call 18; refine Calls.mono (Hmk2.out _) ?_; rintro e w7 ⟨g2, rfl, hg2, hrow2, hbn⟩)
          | (go_at_call 30; refine Calls.mono (Hco.out g1 g2 _ (by first | exact hrow1 | exact hrow1.ext hbn) (by first | exact hrow2 | exact hrow2.ext hbm)) ?_; rintro e w8 ⟨v, rfl, hhit, hbc⟩)
          | fail "no arm")
      have hE8 := (‹Ext wa _ ∧ _ ∧ _›).1
      unfold HitsAt at hhit
      obtain ⟨pv8, cv8, rfl, hcv8⟩ := ownsRow_form hhit
      have HE8 := Lib.hid (Hwa.out.trans hE8)
      have HHit := Lib.hid hhit
      have HRow8 := Lib.hid (HRow.out.ext HE8.out)
      clear hE8 hhit hbm hbn hbc hrow1 hrow2 HS
      have hb1 : ∀ i, 0 ≤ hitV f s n c i ∧ hitV f s n c i ≤ 64 := fun i => ⟨(hitV_bd f s n c i).1, Int.le_trans (hitV_bd f s n c i).2 (by omega)⟩
      have hb2 : ∀ i, 0 ≤ br i + hitSum f s n (ks.take k) i ∧ br i + hitSum f s n (ks.take k) i ≤ 8192 := by
        intro i
        have v2 := hitSum_bd f s n i (ks.take k)
        have v3 : (ks.take k).length * n ≤ 64 * 64 := Nat.mul_le_mul (by rw [List.length_take]; omega) h64
        have v4 : ((ks.take k).length : Int) * n ≤ 4096 := by exact_mod_cast v3
        have v5 := Hbr.out i
        omega
      generalize hbs : (fun i => br i + hitSum f s n (ks.take k) i) = bs at *
      have Hstep2 : Hid (∀ i, br i + hitSum f s n (ks.take (k + 1)) i = bs i + hitV f s n c i) := fun i => by rw [← hbs]; exact Hstep.out i
      have Hb2 : Hid (∀ i, 0 ≤ bs i ∧ bs i ≤ 8192) := fun i => by rw [← hbs]; exact hb2 i
      have Hb1 := Lib.hid hb1
      generalize hitV f s n c = ht at *
      clear hb1 hb2 hbs Hstep
      obtain ⟨wo, rfl⟩ : ∃ wo : World, wo = wr := ⟨_, rfl⟩
      go_wp2_with fail
      go_loopw [21, 22, 66] (fun _ _ i wr => SpIn N G bs ht w8 i wr) (fun _ _ i _ => N - (intOf i).toNat)
      case atStart => exact ⟨0, by omega, rfl, (Ext.refl _).grownBy _, HRow8.out.congr fun j _ => by simp [I]⟩
      case round =>
        obtain ⟨t, ht2, rfl, hgr2, hrow2⟩ := hrel
        have Hgr2 := Lib.hid hgr2
        have HRow2 := Lib.hid hrow2
        clear hgr2 hrow2
        by_cases hlt2 : t < N
        · obtain ⟨gh, ch, h5, _, _, hrowH⟩ := Row.owns HHit.out (by omega)
          injection h5 with h5 _ h6
          subst h6
          subst h5
          have hne : gh ≠ G := by
            rintro rfl
            obtain ⟨cu, e1, _⟩ := hrowH
            obtain ⟨cu', e2, _⟩ := HRow8.out
            rw [e1] at e2
            injection e2 with e2
            injection e2 with _ e2
            exact absurd e2 (by decide)
          have hhc : w8.cell? ⟨gh, t, none⟩ = some (.int .u64 (ht t)) := by
            have h6 := hrowH.cell (show t < N * 1 by omega)
            rw [h6]
            show some ((List.map (U ht) (List.range N)).getD t undef) = _
            rw [List.getD_eq_getElem?_getD, List.getElem?_map, List.getElem?_range hlt2]
            rfl
          have c2 : wr.cell? ⟨gh, t, none⟩ = some (.int .u64 (ht t)) := Hgr2.out.cell hhc (ne_some hne)
          have c1 : wr.cell? ⟨G, t, none⟩ = some (.int .i64 (bs t)) := by
            rw [HRow2.out.cell hlt2]
            simp [I]
          have f1 := HRow2.out.frozen t
          have v1 := Hb1.out t
          have v2 := Hb2.out t
          have hr5 : Hid (Row (wr.setCell ⟨G, t, none⟩ (.int .i64 (bs t + ht t))) 3 G N (I fun j => if j < t + 1 then bs j + ht j else bs j)) := (HRow2.out.set t _).congr fun j hj => by
            unfold I
            by_cases e : j = t
            · subst e; simp
            · by_cases e2 : j < t
              · simp [e, e2, show j < t + 1 by omega]
              · simp [e, e2, show ¬ j < t + 1 by omega]
          generalize bs t = y at *
          generalize ht t = x at *
          have j1 : IntKind.i64.wrap x = x := IntWalk.i64_in _ ⟨by omega, by omega⟩
          have j2 : IntKind.i64.wrap (y + x) = y + x := IntWalk.i64_in _ ⟨by omega, by omega⟩
          have k1 : (0 : Int) ≤ (t : Int) := by omega
          have k2 : (t : Int) < (N : Int) := by omega
          clear hhc hrowH
          have hg5 : Hid (w8.grownBy (wr.setCell ⟨G, t, none⟩ (.int .i64 (y + x))) (some G)) := grownBy_trans Hgr2.out (grownBy_setCell _ _ _ _)
          go_wp2_with fail
          go_roundw
          case rel => exact ⟨t + 1, by omega, by go_num, hg5.out, hr5.out⟩
          case measure => simp [intOf]; omega
        · have e : t = N := by omega
          subst e
          have hgf := grownBy_trans (grownBy_trans Hgr.out (HE8.out.grownBy (some G))) Hgr2.out
          have hrf : Row wr 3 G t (I fun i => br i + hitSum f s n (ks.take (k + 1)) i) := HRow2.out.congr fun j hj => by
            unfold I
            dsimp only
            rw [if_pos hj, Hstep2.out]
          have Hgf := Lib.hid hgf
          have Hrf := Lib.hid hrf
          clear hgf hrf
          go_wp2_with fail
          go_roundw
          case rel => exact ⟨k + 1, by omega, by go_num, by rw [Hnext.out], Hgf.out, Hrf.out⟩
          case measure => simp [intOf]; omega
    · have e : k = ks.length := by omega
      subst e
      rw [List.take_length] at HRow
      have Hrow := Lib.hid HRow.out
      clear HRow Hrd Hok Hmk Hpc Hkn
      go_wp2_with fail
      obtain ⟨wo, rfl⟩ : ∃ wo : World, wo = wr := ⟨_, rfl⟩
      have hbq : (boundV f n : Nat) ≤ n := by unfold boundV; omega
      generalize hq : boundV f n = q at *
      generalize hbs : (fun i => br i + hitSum f s n ks i) = bs at *
      have Hbs : Hid (∀ i, 0 ≤ bs i ∧ bs i ≤ 8192) := fun i => by
        rw [← hbs]
        have v2 := hitSum_bd f s n i ks
        have v3 : ks.length * n ≤ 64 * 64 := Nat.mul_le_mul (by omega) h64
        have v4 : (ks.length : Int) * n ≤ 4096 := by exact_mod_cast v3
        have v5 := Hbr.out i
        show 0 ≤ br i + hitSum f s n ks i ∧ br i + hitSum f s n ks i ≤ 8192
        omega
      have Hout2 : Hid (∀ i, (q : Int) - bs i = missV f s n i) := fun i => by rw [← hbs]; exact Hout.out i
      clear Hout hbs hq hlt hk
      go_loopw [23, 83] (fun _ i wr => SpOut N G q bs wo i wr) (fun _ i _ => N - (intOf i).toNat)
      case atStart => exact ⟨0, by omega, rfl, (Ext.refl _).grownBy _, Hrow.out.congr fun j _ => by simp [I]⟩
      case round =>
        obtain ⟨t, ht2, rfl, hgr2, hrow2⟩ := hrel
        have hE2 : Ext w wr := HEr.out.grown hgr2 (fun q hq => by injection hq with hq; have := HB.out; omega)
        by_cases hlt2 : t < N
        · have r0 := hgr2.cell q0 (ne_some (show B ≠ G by omega))
          have r1 := hgr2.cell q1 (ne_some (show B ≠ G by omega))
          have c1 : wr.cell? ⟨G, t, none⟩ = some (.int .i64 (bs t)) := by
            rw [hrow2.cell hlt2]
            simp [I]
          have f1 := hrow2.frozen t
          have v2 := Hbs.out t
          have Hgr2 := Lib.hid hgr2
          have Hrow2 := Lib.hid hrow2
          have HE2 := Lib.hid hE2
          clear hgr2 hrow2 hE2
          have hcong : ∀ j, j < N → (if j = t then Value.int .i64 (q - bs t) else (I fun j => if j < t then (q : Int) - bs j else bs j) j) = (I fun j => if j < t + 1 then (q : Int) - bs j else bs j) j := fun j hj => by
            unfold I
            by_cases e : j = t
            · subst e; simp
            · by_cases e2 : j < t
              · simp [e, e2, show j < t + 1 by omega]
              · simp [e, e2, show ¬ j < t + 1 by omega]
          have Hcong := Lib.hid hcong
          clear hcong
          generalize bs t = y at *
          have j2 : IntKind.i64.wrap ((q : Int) - y) = q - y := IntWalk.i64_in _ ⟨by omega, by omega⟩
          have k1 : (0 : Int) ≤ (t : Int) := by omega
          have k2 : (t : Int) < (N : Int) := by omega
          go_wp2_with fail
          refine wp_region_permE (last := 10) (S := fun W' => Ext wr W' ∧ W'.cell? ⟨G, t, none⟩ = some (.int .i64 y) ∧ W'.cell? ⟨B, 0, none⟩ = some (.slice p n cap) ∧ W'.cell? ⟨B, 1, none⟩ = some (.int .i64 K))
            [(0, true), (1, true), (2, true), (4, true), (5, true), (6, true), (7, true), (3, false), (8, true), (9, true), (10, false)] (by kernel_rfl) rfl (by kernel_rfl) (by kernel_rfl) ⟨(Ext.refl wr).drew, c1, r0, r1⟩ ?_
          refine wpPermE_take rfl rfl (.slice (some ⟨G, 0, none⟩) N N) (fun W' hS => ?_) (fun Kt hK => ?_)
          · obtain ⟨s0, s1, s2, s3⟩ := hS; go_simp
          go_simp
          refine hK _ _ ?_
          clear hK Kt
          refine wpPermE_take rfl rfl (.int .i64 t) (fun W' hS => ?_) (fun Kt hK => ?_)
          · obtain ⟨s0, s1, s2, s3⟩ := hS; go_simp
          go_simp
          refine hK _ _ ?_
          clear hK Kt
          refine wpPermE_take rfl rfl (.agg #[.slice p n cap, .int .i64 K]) (fun W' hS => ?_) (fun Kt hK => ?_)
          · obtain ⟨s0, s1, s2, s3⟩ := hS; go_simp
          go_simp
          refine hK _ _ ?_
          clear hK Kt
          refine wpPermE_take rfl rfl (.slice (some ⟨G, 0, none⟩) N N) (fun W' hS => ?_) (fun Kt hK => ?_)
          · obtain ⟨s0, s1, s2, s3⟩ := hS; go_simp
          go_simp
          refine hK _ _ ?_
          clear hK Kt
          refine wpPermE_take rfl rfl (.int .i64 t) (fun W' hS => ?_) (fun Kt hK => ?_)
          · obtain ⟨s0, s1, s2, s3⟩ := hS; go_simp
          go_simp
          refine hK _ _ ?_
          clear hK Kt
          refine wpPermE_take rfl rfl (.pointer (some ⟨G, t, none⟩)) (fun W' hS => ?_) (fun Kt hK => ?_)
          · obtain ⟨s0, s1, s2, s3⟩ := hS; go_simp
          go_simp
          refine hK _ _ ?_
          clear hK Kt
          refine wpPermE_take rfl rfl (.int .i64 y) (fun W' hS => ?_) (fun Kt hK => ?_)
          · obtain ⟨s0, s1, s2, s3⟩ := hS; go_simp
          go_simp
          refine hK _ _ ?_
          clear hK Kt
          refine wpPermE_bar rfl rfl (fun Kt hK => ?_)
          go_simp
          refine Calls.mono (Hbd.out _ (HE2.out.trans (Ext.refl wr).drew)) ?_
          rintro e w7 ⟨rfl, hb2⟩
          have hE7 := (Ext.refl wr).drew.trans hb2
          refine hK _ _ (fun _ => ⟨hE7, hb2.cell c1, hb2.cell r0, hb2.cell r1⟩) ?_
          clear hK Kt
          refine wpPermE_take rfl rfl (.int .i64 (q - y)) (fun W' hS => ?_) (fun Kt hK => ?_)
          · obtain ⟨s0, s1, s2, s3⟩ := hS; go_simp
          go_simp
          refine hK _ _ ?_
          clear hK Kt
          refine wpPermE_take rfl rfl (.pointer (some ⟨G, t, none⟩)) (fun W' hS => ?_) (fun Kt hK => ?_)
          · obtain ⟨s0, s1, s2, s3⟩ := hS; go_simp
          go_simp
          refine hK _ _ ?_
          clear hK Kt
          have c7 := hE7.cell c1
          have f7 := (hE7.frozen c1).trans f1
          refine wpPermE_bar rfl rfl (fun Kt hK => ?_)
          go_simp
          refine hK _ _ (fun h => absurd rfl h) ?_
          clear hK Kt
          refine wpPermE_end (NoPanic.normal ?_)
          have hr5 : Hid (Row (w7.setCell ⟨G, t, none⟩ (.int .i64 (q - y))) 3 G N (I fun j => if j < t + 1 then (q : Int) - bs j else bs j)) := ((Hrow2.out.ext hE7).set t _).congr Hcong.out
          have hg5 : Hid (wo.grownBy (w7.setCell ⟨G, t, none⟩ (.int .i64 (q - y))) (some G)) := grownBy_trans Hgr2.out (grownBy_trans (hE7.grownBy _) (grownBy_setCell _ _ _ _))
          clear c1 f1 c7 f7 hb2 hE7
          go_wp2_with fail
          go_roundw
          case rel => exact ⟨t + 1, by omega, by go_num, hg5.out, hr5.out⟩
          case measure => simp [intOf]; omega
        · have e : t = N := by omega
          subst e
          have Hrow2 := Lib.hid hrow2
          have HE2 := Lib.hid hE2
          clear hgr2 hrow2 hE2
          go_wp2_with fail
          go_ret3
          exact ⟨G, rfl, Hrow2.out.congr fun j hj => by
            show Value.int .i64 (if j < t then (q : Int) - bs j else bs j) = .int .i64 _
            rw [if_pos hj, Hout2.out], HE2.out⟩
end Go.Proofs.Ytmadelflnjhibaa
