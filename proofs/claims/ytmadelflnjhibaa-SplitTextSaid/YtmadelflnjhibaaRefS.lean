import Derived.Test.YtmadelflnjhibaaRefR
namespace Go.Proofs.Ytmadelflnjhibaa
open Go.RowKit
attribute [local go_sem] Cls.val clsNone clsAll

/-- What is amiss with a leaf that is split. -/
def amissB (f : Nat → Cls) (n tn : Nat) (size least : Int) : Bool := decide (0 < (freqL f n least).length) && (decide (n ≤ tn) && !szOk n size)
def checkS (f : Nat → Cls) (n : Nat) (K : Int) (tn : Nat) (size least : Int) : Int :=
  if (rightB f n K && plainB f n) = true then (if amissB f n tn size least = true then 50 else 0) else 170
def cntsNS (f : Nat → Cls) (n tn : Nat) (size least z : Int) : Int := if z = 0 then (freqL f n least).length * count0 n tn size else 0
theorem freqL_len (f : Nat → Cls) (n : Nat) (least : Int) : (freqL f n least).length ≤ n := Nat.le_trans (List.length_filter_le _ _) (kindsV_len f n)
theorem count0_bd (n tn : Nat) (size : Int) (h64 : n ≤ 64) (hs : tn ≤ 1099511627776) : 0 ≤ count0 n tn size ∧ count0 n tn size ≤ 6597069766671 := by
  have := kcount_bd n tn size h64 hs
  unfold count0
  split
  · exact this
  · omega

set_option maxRecDepth 100000 in
set_option maxHeartbeats 4000000 in
theorem refscounts_any (p : Option Addr) (n cap : Nat) (K : Int) (f : Nat → Cls) (hcap : n ≤ cap) (hn : n ≤ 1099511627776) (hcls : ∀ j, (f j).ok) (s : ByteArray) (hs : s.size ≤ 1099511627776) (size least : Int) (w : World) (hr : RdC w p n f) :
    Calls Try.prog 41 #[leafVal p n cap K, .string s, .int .i64 size, .int .i64 least] w fun e w' => ∃ v, e = .returned (.tuple #[v, .int .i64 (cntsNS f n s.size size least (checkS f n K s.size size least)), .int .i64 (checkS f n K s.size size least)]) ∧ w'.ownsRow w.heap.size 3 1 v (cntsL f s n K (checkS f n K s.size size least)).length ((cntsL f s n K (checkS f n K s.size size least)).map In) ∧ Ext w w' := by
  have hnew := heap_alloc_new w (.cells #[.slice p n cap, .int .i64 K] 24)
  have hE0 := (Ext.refl w).alloc (.cells #[.slice p n cap, .int .i64 K] 24)
  have Hrt := Lib.hid (fun W (hW : Ext w W) => refright_any p n cap K f hcap hn hcls W (hr.ext hW))
  have Hpl := Lib.hid (fun W (hW : Ext w W) => refplain_any p n cap K f hcap hn hcls W (hr.ext hW))
  have Hpa := Lib.hid (fun W (hW : Ext w W) => refpart_any p n cap K f hcap hn hcls least true W (hr.ext hW))
  have Ham := Lib.hid (fun W => refamiss_any n s.size size W)
  have Hc8 := Lib.hid (fun W (hW : Ext w W) => refcounts8_any p n cap K f hcap hn hcls s hs W (hr.ext hW))
  have hco := fun (h : 1 ≤ n) W => refcount_gen n s.size size h hs W
  have hcb := fun (h : n ≤ 64) => count0_bd n s.size size h hs
  have hrt := @rightB_true f n K
  have hfl := freqL_len f n least
  have hz : checkS f n K s.size size least = if (rightB f n K && plainB f n) = true then (if (decide (0 < (freqL f n least).length) && (decide (n ≤ s.size) && !szOk n size)) = true then 50 else 0) else 170 := rfl
  have hN0 : cntsNS f n s.size size least 0 = (freqL f n least).length * count0 n s.size size := if_pos rfl
  have hN1 : ∀ z, z ≠ 0 → cntsNS f n s.size size least z = 0 := fun z h => if_neg h
  have hL0 : cntsL f s n K 0 = countsL f s n K (s.size + 1) := if_pos rfl
  have hL1 : ∀ z, z ≠ 0 → cntsL f s n K z = [] := fun z h => if_neg h
  rw [partL_true] at Hpa
  generalize checkS f n K s.size size least = z at *
  generalize rightB f n K = r at *
  generalize plainB f n = pl at *
  generalize count0 n s.size size = kc at *
  generalize (decide (n ≤ s.size) && !szOk n size) = am at *
  clear hr hcls
  unfold leafVal at *
  cases r
  · rw [Bool.false_and, if_neg (by decide)] at hz
    subst hz
    rw [hN1 _ (by decide), hL1 _ (by decide)]
    clear hN0 hN1 hL0 hL1 hco hcb hrt hfl
    go_enter Try.func41, Try.ntmps41
    go_wp2_with fail
    generalize w.alloc (.cells #[.slice p n cap, .int .i64 K] 24) = W at *
    refine (Hrt.out _ hE0).mono ?_
    rintro e w2 ⟨rfl, hE2⟩
    have HE2 := Lib.hid (hE0.trans hE2)
    clear hE0 hE2 hnew
    go_wp2_with fail
    go_ret3
    exact ⟨_, rfl, by simp [World.ownsRow], HE2.out⟩
  · obtain ⟨h1, h64, _, _⟩ := hrt rfl
    have hcb := hcb h64
    have Hco := Lib.hid (hco h1)
    clear hrt hco
    cases pl
    · rw [Bool.and_false, if_neg (by decide)] at hz
      subst hz
      rw [hN1 _ (by decide), hL1 _ (by decide)]
      clear hN0 hN1 hL0 hL1 hcb hfl
      go_enter Try.func41, Try.ntmps41
      go_wp2_with fail
      generalize w.alloc (.cells #[.slice p n cap, .int .i64 K] 24) = W at *
      refine (Hrt.out _ hE0).mono ?_
      rintro e w2 ⟨rfl, hE2⟩
      have l0 : w2.cell? ⟨w.heap.size, 0, none⟩ = some (.slice p n cap) := hE2.cell (cell_of_row _ _ _ _ _ _ hnew)
      have l1 : w2.cell? ⟨w.heap.size, 1, none⟩ = some (.int .i64 K) := hE2.cell (cell_of_row _ _ _ _ _ _ hnew)
      have HE2 := Lib.hid (hE0.trans hE2)
      clear hE0 hE2 hnew
      go_wp2_with fail
      refine (Hpl.out _ HE2.out).mono ?_
      rintro e w3 ⟨rfl, hE3⟩
      have HE3 := Lib.hid (HE2.out.trans hE3)
      clear hE3 l0 l1
      go_wp2_with fail
      go_ret3
      exact ⟨_, rfl, by simp [World.ownsRow], HE3.out⟩
    · rw [Bool.and_true, if_pos rfl] at hz
      generalize hfq : freqL f n least = fq at *
      have Hz := Lib.hid hz
      have HN0 := Lib.hid hN0
      have HN1 := Lib.hid hN1
      have HL0 := Lib.hid hL0
      have HL1 := Lib.hid hL1
      clear hz hN0 hN1 hL0 hL1 hfq
      go_enter Try.func41, Try.ntmps41
      go_wp2_with fail
      generalize w.alloc (.cells #[.slice p n cap, .int .i64 K] 24) = W at *
      refine (Hrt.out _ hE0).mono ?_
      rintro e w2 ⟨rfl, hE2⟩
      have l0 : w2.cell? ⟨w.heap.size, 0, none⟩ = some (.slice p n cap) := hE2.cell (cell_of_row _ _ _ _ _ _ hnew)
      have l1 : w2.cell? ⟨w.heap.size, 1, none⟩ = some (.int .i64 K) := hE2.cell (cell_of_row _ _ _ _ _ _ hnew)
      have HE2 := Lib.hid (hE0.trans hE2)
      clear hE0 hE2 hnew
      generalize hB : w.heap.size = B at *
      clear hB
      go_wp2_with fail
      refine (Hpl.out _ HE2.out).mono ?_
      rintro e w3 ⟨rfl, hE3⟩
      have m0 := hE3.cell l0
      have m1 := hE3.cell l1
      have HE3 := Lib.hid (HE2.out.trans hE3)
      clear hE3 l0 l1
      go_wp2_with fail
      refine (Hpa.out _ HE3.out).mono ?_
      rintro e w4 ⟨v, rfl, hv, hE4⟩
      obtain ⟨pv, cv, rfl, hcv⟩ := ownsRow_form hv
      have n0 := hE4.cell m0
      have n1 := hE4.cell m1
      have HE4 := Lib.hid (HE3.out.trans hE4)
      clear hE4 hv m0 m1
      have hprod : (0 : Int) ≤ (fq.length : Int) * kc ∧ (fq.length : Int) * kc ≤ 64 * 6597069766671 :=
        ⟨Int.mul_nonneg (by omega) hcb.1, Int.le_trans (Int.mul_le_mul_of_nonneg_right (show (fq.length : Int) ≤ 64 by omega) hcb.1) (Int.mul_le_mul_of_nonneg_left hcb.2 (by omega))⟩
      have HN := Lib.hid HN0.out
      generalize hzz : (fq.length : Int) * kc = zz at *
      have i3 : IntKind.i64.wrap zz = zz := IntWalk.i64_in _ ⟨by omega, by omega⟩
      have HS : Hid (LiveS B p n cap K w4 w4) := ⟨Ext.refl _, n0, n1⟩
      by_cases hf0 : 0 < fq.length
      · have hf1 : (0 : Int) < (fq.length : Int) := by omega
        rw [decide_eq_true hf0, Bool.true_and] at Hz
        go_wp2_with fail
        refine (Ham.out _).mono ?_
        rintro e w5 ⟨rfl, rfl⟩
        cases am
        · have hz0 : z = 0 := Hz.out
          subst hz0
          clear hprod
          go_wp2_with fail
          go_region_held3 (fun W' => Ext w4 W' ∧ W'.cell? ⟨B, 0, none⟩ = some (.slice p n cap) ∧ W'.cell? ⟨B, 1, none⟩ = some (.int .i64 K))
            ((first | exact HS.out | exact LiveS.ext HS.out (Ext.refl w4).drew | exact ‹Ext w4 _ ∧ _ ∧ _› | exact LiveS.ext ‹Ext w4 _ ∧ _ ∧ _› hb2 | fail))
            (first
              | (go_at_call 31; refine Calls.mono (Hc8.out _ (HE4.out.trans (‹Ext w4 _ ∧ _ ∧ _›).1)) ?_; rintro e w6 ⟨v8, rfl, hv8, hb2⟩)
              | (go_at_call 55; refine Calls.mono (Hco.out _) ?_; rintro e w7 ⟨rfl, rfl⟩)
              | fail "no arm")
          have hE8 := (‹Ext w4 _ ∧ _ ∧ _›).1
          have Hv8 := Lib.hid hv8
          have HE8 := Lib.hid (HE4.out.trans hE8)
          have hsz4 := (HE4.out.trans (Ext.refl w4).drew).size
          clear hE8 hv8 hb2 HS
          go_wp2_with fail
          go_ret3
          refine ⟨_, by rw [HN.out]; rfl, ?_, HE8.out⟩
          rw [HL0.out]
          exact ownsRow_lower Hv8.out hsz4
        · have hz0 : z = 50 := Hz.out
          subst hz0
          have hN := HN1.out 50 (by decide)
          have hL := HL1.out 50 (by decide)
          have HNx := Lib.hid hN
          have HLx := Lib.hid hL
          clear hN hL n0 n1 HS
          go_wp2_with fail
          go_ret3
          exact ⟨_, by rw [HNx.out]; rfl, by rw [HLx.out]; simp [World.ownsRow], HE4.out⟩
      · have hf1 : ¬ (0 : Int) < (fq.length : Int) := by omega
        rw [decide_eq_false hf0, Bool.false_and] at Hz
        have hz0 : z = 0 := Hz.out
        subst hz0
        clear hprod
        go_wp2_with fail
        go_region_held3 (fun W' => Ext w4 W' ∧ W'.cell? ⟨B, 0, none⟩ = some (.slice p n cap) ∧ W'.cell? ⟨B, 1, none⟩ = some (.int .i64 K))
          ((first | exact HS.out | exact LiveS.ext HS.out (Ext.refl w4).drew | exact ‹Ext w4 _ ∧ _ ∧ _› | exact LiveS.ext ‹Ext w4 _ ∧ _ ∧ _› hb2 | fail))
          (first
            | (go_at_call 31; refine Calls.mono (Hc8.out _ (HE4.out.trans (‹Ext w4 _ ∧ _ ∧ _›).1)) ?_; rintro e w6 ⟨v8, rfl, hv8, hb2⟩)
            | (go_at_call 55; refine Calls.mono (Hco.out _) ?_; rintro e w7 ⟨rfl, rfl⟩)
            | fail "no arm")
        have hE8 := (‹Ext w4 _ ∧ _ ∧ _›).1
        have Hv8 := Lib.hid hv8
        have HE8 := Lib.hid (HE4.out.trans hE8)
        have hsz4 := (HE4.out.trans (Ext.refl w4).drew).size
        clear hE8 hv8 hb2 HS
        go_wp2_with fail
        go_ret3
        refine ⟨_, by rw [HN.out]; rfl, ?_, HE8.out⟩
        rw [HL0.out]
        exact ownsRow_lower Hv8.out hsz4
set_option maxRecDepth 100000 in
set_option maxHeartbeats 2000000 in
theorem refsfind_any (p : Option Addr) (n cap : Nat) (K : Int) (f : Nat → Cls) (hcap : n ≤ cap) (hn : n ≤ 1099511627776) (hcls : ∀ j, (f j).ok) (s : ByteArray) (hs : s.size ≤ 1099511627776) (size least : Int) (w : World) (hr : RdC w p n f) :
    Calls Try.prog 43 #[leafVal p n cap K, .string s, .int .i64 size, .int .i64 least] w fun e w' => ∃ v, e = .returned (.tuple #[v, .int .i64 (cntsNS f n s.size size least (checkS f n K s.size size least)), .int .i64 (checkS f n K s.size size least)]) ∧ w'.ownsRow w.heap.size 3 1 v (fndL f s n K (checkS f n K s.size size least)).length ((fndL f s n K (checkS f n K s.size size least)).map In) ∧ Ext w w' := by
  have hnew := heap_alloc_new w (.cells #[.slice p n cap, .int .i64 K] 24)
  have hE0 := (Ext.refl w).alloc (.cells #[.slice p n cap, .int .i64 K] 24)
  have Hco := Lib.hid (fun W (hW : Ext w W) => refscounts_any p n cap K f hcap hn hcls s hs size least W (hr.ext hW))
  have hlen : (cntsL f s n K (checkS f n K s.size size least)).length ≤ s.size + 1 := by
    unfold cntsL
    split
    · exact countsL_len f s n K _
    · simp
  unfold fndL
  generalize cntsL f s n K (checkS f n K s.size size least) = L at *
  generalize cntsNS f n s.size size least (checkS f n K s.size size least) = N at *
  generalize checkS f n K s.size size least = z at *
  clear hr hcls
  unfold leafVal at *
  go_enter Try.func43, Try.ntmps43
  go_wp2_with fail
  generalize w.alloc (.cells #[.slice p n cap, .int .i64 K] 24) = W at *
  refine (Hco.out _ hE0).mono ?_
  rintro e w2 ⟨v, rfl, hv, hE2⟩
  have c1 : w2.cell? ⟨w.heap.size, 1, none⟩ = some (.int .i64 K) := hE2.cell (cell_of_row _ _ _ _ _ _ hnew)
  have HE2 := Lib.hid (hE0.trans hE2)
  have Hv := Lib.hid hv
  clear hnew hE2 hv
  go_wp2_with fail
  refine (rhits_any L.length (IL L) K (by omega) v _ (Sl.of_list Hv.out)).mono ?_
  rintro e w3 ⟨v2, rfl, hv2, hE3⟩
  have Hv2 := Lib.hid hv2
  have HE3 := Lib.hid hE3
  clear hv2 hE3
  go_wp2_with fail
  go_ret3
  exact ⟨_, rfl, ownsRow_lower Hv2.out HE2.out.size, HE2.out.trans HE3.out⟩
end Go.Proofs.Ytmadelflnjhibaa
