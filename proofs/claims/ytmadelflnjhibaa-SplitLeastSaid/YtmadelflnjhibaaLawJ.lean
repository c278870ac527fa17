import Derived.Test.YtmadelflnjhibaaLawF
namespace Go.Proofs.Ytmadelflnjhibaa
open Go.RowKit
attribute [local go_sem] Cls.val clsNone clsAll

theorem freqL_mono (f : Nat → Cls) (n : Nat) (least : Int) : (freqL f n (least + 1)).length ≤ (freqL f n least).length := by
  unfold freqL
  rw [← List.countP_eq_length_filter, ← List.countP_eq_length_filter]
  refine List.countP_mono_left fun c _ h => ?_
  unfold freqB at *
  rw [decide_eq_true_iff] at *
  omega
theorem freqL_top (f : Nat → Cls) (n : Nat) : freqL f n ((n : Int) + 1) = [] := by
  unfold freqL
  rw [List.filter_eq_nil_iff]
  intro c _ h
  unfold freqB at h
  rw [decide_eq_true_iff] at h
  have h2 : (whereV f c n).length ≤ n := by
    unfold whereV
    exact Nat.le_trans (List.length_filter_le _ _) (by simp)
  omega
theorem checkS_less {f : Nat → Cls} {n tn : Nat} {K size least least' : Int} (h : checkS f n K tn size least = 0) (hl : (freqL f n least').length ≤ (freqL f n least).length) : checkS f n K tn size least' = 0 := by
  unfold checkS amissB at *
  by_cases h1 : (rightB f n K && plainB f n) = true
  · rw [if_pos h1] at *
    by_cases h2 : 0 < (freqL f n least').length
    · rw [decide_eq_true (show 0 < (freqL f n least).length by omega)] at h
      rw [decide_eq_true h2]
      exact h
    · rw [decide_eq_false h2, Bool.false_and, if_neg (by decide)]
  · rw [if_neg h1] at h
    exact absurd h (by decide)

set_option maxRecDepth 100000 in
set_option maxHeartbeats 4000000 in
theorem lawSpLeast (p : Option Addr) (n cap : Nat) (K : Int) (f : Nat → Cls) (hcap : n ≤ cap) (hcls : ∀ j, (f j).ok) (s : ByteArray) (size least : Int) (hbnd : -9223372036854775808 ≤ least ∧ least ≤ 9223372036854775807) (w : World) (hr : RdC w p n f) :
    Calls Try.prog 13 #[leafVal p n cap K, .string s, .agg #[.int .i64 size, .int .i64 least]] w fun e w' => e = .returned (.bool true) ∧ Ext w w' := by
  obtain ⟨hb1, hb2, hE0⟩ := box2 w (.cells #[.slice p n cap, .int .i64 K] 24) (.cells #[.int .i64 size, .int .i64 least] 58)
  have Hfew := Lib.hid (fun W => few12_any p n cap K s W)
  have Hal := Lib.hid (fun W => alive12_any W)
  by_cases hfew : n ≤ 100 ∧ s.size ≤ 300
  · obtain ⟨hn, hs⟩ := hfew
    rw [decide_eq_true hn, decide_eq_true hs] at Hfew
    by_cases hl : (1000 : Int) < least
    · clear hr hcls
      unfold leafVal at *
      go_enter Try.func13, Try.ntmps13
      go_wp2_with fail
      generalize (w.alloc (.cells #[.slice p n cap, .int .i64 K] 24)).alloc (.cells #[.int .i64 size, .int .i64 least] 58) = W at *
      refine (Hfew.out _).mono ?_
      rintro e w2 ⟨rfl, hE2⟩
      have l3 : w2.cell? ⟨w.heap.size + 1, 1, none⟩ = some (.int .i64 least) := hE2.cell (cell_of_row _ _ _ _ _ _ hb2)
      have HE2 := Lib.hid (hE0.trans hE2)
      clear hE0 hE2 hb1 hb2
      go_wp2_with fail
      refine (Hal.out _).mono ?_
      rintro e w3 ⟨rfl, hE3⟩
      go_wp2_with fail
      go_ret
      exact ⟨rfl, HE2.out.trans hE3⟩
    have Hx := Lib.hid (fun W (hW : Ext w W) => spcounts_all p n cap K f hcap (by omega) s (by omega) size least hcls W (hr.ext hW))
    have Hy := Lib.hid (fun W (hW : Ext w W) => spcounts_all p n cap K f hcap (by omega) s (by omega) size (least + 1) hcls W (hr.ext hW))
    have Hz := Lib.hid (fun W (hW : Ext w W) => spcounts_all p n cap K f hcap (by omega) s (by omega) size ((n : Int) + 1) hcls W (hr.ext hW))
    have i1 : IntKind.i64.wrap (least + 1) = least + 1 := IntWalk.i64_in _ ⟨by omega, by omega⟩
    have i2 : IntKind.i64.wrap ((n : Int) + 1) = (n : Int) + 1 := IntWalk.i64_in _ ⟨by omega, by omega⟩
    have hlen := cntsL_len f s n K 0
    by_cases hz : checkS f n K s.size size least = 0
    · have hz2 := checkS_less hz (freqL_mono f n least)
      have hz3 : checkS f n K s.size size ((n : Int) + 1) = 0 := checkS_less hz (by rw [freqL_top]; exact Nat.zero_le _)
      obtain ⟨_, h64, _, _⟩ := rightB_true (checkS_zero hz).1
      have hge : cntsNS f n s.size size (least + 1) 0 ≤ cntsNS f n s.size size least 0 := by
        show (if (0 : Int) = 0 then ((freqL f n (least + 1)).length : Int) * count0 n s.size size else 0) ≤ if (0 : Int) = 0 then ((freqL f n least).length : Int) * count0 n s.size size else 0
        rw [if_pos rfl, if_pos rfl]
        exact Int.mul_le_mul_of_nonneg_right (by have := freqL_mono f n least; omega) (count0_bd n s.size size h64 (by omega)).1
      have hn3 : cntsNS f n s.size size ((n : Int) + 1) 0 = 0 := by
        show (if (0 : Int) = 0 then ((freqL f n ((n : Int) + 1)).length : Int) * count0 n s.size size else 0) = 0
        rw [if_pos rfl, freqL_top]
        simp
      rw [hz] at Hx
      rw [hz2] at Hy
      rw [hz3, hn3] at Hz
      generalize cntsNS f n s.size size (least + 1) 0 = N2 at *
      generalize cntsNS f n s.size size least 0 = N1 at *
      generalize cntsL f s n K 0 = L at *
      clear hr hcls hz hz2 hz3 hn3
      unfold leafVal at *
      go_enter Try.func13, Try.ntmps13
      go_wp2_with fail
      generalize (w.alloc (.cells #[.slice p n cap, .int .i64 K] 24)).alloc (.cells #[.int .i64 size, .int .i64 least] 58) = W at *
      refine (Hfew.out _).mono ?_
      rintro e w2 ⟨rfl, hE2⟩
      have l0 : w2.cell? ⟨w.heap.size, 0, none⟩ = some (.slice p n cap) := hE2.cell (cell_of_row _ _ _ _ _ _ hb1)
      have l1 : w2.cell? ⟨w.heap.size, 1, none⟩ = some (.int .i64 K) := hE2.cell (cell_of_row _ _ _ _ _ _ hb1)
      have l2 : w2.cell? ⟨w.heap.size + 1, 0, none⟩ = some (.int .i64 size) := hE2.cell (cell_of_row _ _ _ _ _ _ hb2)
      have l3 : w2.cell? ⟨w.heap.size + 1, 1, none⟩ = some (.int .i64 least) := hE2.cell (cell_of_row _ _ _ _ _ _ hb2)
      have HE2 := Lib.hid (hE0.trans hE2)
      clear hE0 hE2 hb1 hb2
      go_wp2_with fail
      refine (Hx.out _ HE2.out).mono ?_
      rintro e w3 ⟨v1, rfl, hv1, hE3⟩
      have m0 := hE3.cell l0
      have m1 := hE3.cell l1
      have m2 := hE3.cell l2
      have m3 := hE3.cell l3
      have HE3 := Lib.hid (HE2.out.trans hE3)
      have Hv1 := Lib.hid hv1
      clear hE3 hv1 l0 l1 l2 l3
      go_wp2_with fail
      refine (Hy.out _ HE3.out).mono ?_
      rintro e w4 ⟨v2, rfl, hv2, hE4⟩
      have n0 := hE4.cell m0
      have n1 := hE4.cell m1
      have n2 := hE4.cell m2
      have HE4 := Lib.hid (HE3.out.trans hE4)
      have Hv1a := Lib.hid (Hv1.out.ext hE4)
      have Hv2 := Lib.hid hv2
      clear hE4 hv2 m0 m1 m2 m3 Hv1
      go_wp2_with fail
      refine (Hz.out _ HE4.out).mono ?_
      rintro e w5 ⟨v3, rfl, hv3, hE5⟩
      have HE5 := Lib.hid (HE4.out.trans hE5)
      have Hv1b := Lib.hid (Hv1a.out.ext hE5)
      have Hv2b := Lib.hid (Hv2.out.ext hE5)
      have Hv3 := Lib.hid hv3
      clear hE5 hv3 n0 n1 n2 Hv1a Hv2
      go_wp2_with fail
      refine (Hal.out _).mono ?_
      rintro e w6 ⟨rfl, hE6⟩
      have HE6 := Lib.hid (HE5.out.trans hE6)
      have Hp1 := Lib.hid (RowI.same ⟨Hv1b.out.ext hE6⟩ ⟨Hv2b.out.ext hE6⟩ (by omega))
      have Hv1c := Lib.hid (Hv1b.out.ext hE6)
      have Hv3c := Lib.hid (Hv3.out.ext hE6)
      clear hE6 Hv1b Hv2b Hv3
      go_wp2_with fail
      refine Hp1.out.mono ?_
      rintro e w7 ⟨rfl, hE7⟩
      have HE7 := Lib.hid (HE6.out.trans hE7)
      have Hp2 := Lib.hid (RowI.same ⟨Hv1c.out.ext hE7⟩ ⟨Hv3c.out.ext hE7⟩ (by omega))
      clear hE7 Hv1c Hv3c Hp1
      go_wp2_with fail
      refine Hp2.out.mono ?_
      rintro e w8 ⟨rfl, hE8⟩
      have HE8 := Lib.hid (HE7.out.trans hE8)
      clear hE8 Hp2
      go_wp2_with fail
      go_ret
      exact ⟨rfl, HE8.out⟩
    · have hL : cntsL f s n K (checkS f n K s.size size least) = [] := if_neg hz
      rw [hL] at Hx
      generalize cntsNS f n s.size size least (checkS f n K s.size size least) = N1 at *
      generalize checkS f n K s.size size least = z at *
      generalize checkS f n K s.size size (least + 1) = z2 at *
      generalize checkS f n K s.size size ((n : Int) + 1) = z3 at *
      generalize cntsNS f n s.size size (least + 1) z2 = N2 at *
      generalize cntsNS f n s.size size ((n : Int) + 1) z3 = N3 at *
      clear hr hcls hlen hL
      unfold leafVal at *
      go_enter Try.func13, Try.ntmps13
      go_wp2_with fail
      generalize (w.alloc (.cells #[.slice p n cap, .int .i64 K] 24)).alloc (.cells #[.int .i64 size, .int .i64 least] 58) = W at *
      refine (Hfew.out _).mono ?_
      rintro e w2 ⟨rfl, hE2⟩
      have l0 : w2.cell? ⟨w.heap.size, 0, none⟩ = some (.slice p n cap) := hE2.cell (cell_of_row _ _ _ _ _ _ hb1)
      have l1 : w2.cell? ⟨w.heap.size, 1, none⟩ = some (.int .i64 K) := hE2.cell (cell_of_row _ _ _ _ _ _ hb1)
      have l2 : w2.cell? ⟨w.heap.size + 1, 0, none⟩ = some (.int .i64 size) := hE2.cell (cell_of_row _ _ _ _ _ _ hb2)
      have l3 : w2.cell? ⟨w.heap.size + 1, 1, none⟩ = some (.int .i64 least) := hE2.cell (cell_of_row _ _ _ _ _ _ hb2)
      have HE2 := Lib.hid (hE0.trans hE2)
      clear hE0 hE2 hb1 hb2
      go_wp2_with fail
      refine (Hx.out _ HE2.out).mono ?_
      rintro e w3 ⟨v1, rfl, hv1, hE3⟩
      obtain ⟨pv1, cv1, rfl, hcv1, _⟩ := hv1
      have m0 := hE3.cell l0
      have m1 := hE3.cell l1
      have m2 := hE3.cell l2
      have m3 := hE3.cell l3
      have HE3 := Lib.hid (HE2.out.trans hE3)
      clear hE3 l0 l1 l2 l3
      go_wp2_with fail
      refine (Hy.out _ HE3.out).mono ?_
      rintro e w4 ⟨v2, rfl, -, hE4⟩
      have n0 := hE4.cell m0
      have n1 := hE4.cell m1
      have n2 := hE4.cell m2
      have HE4 := Lib.hid (HE3.out.trans hE4)
      clear hE4 m0 m1 m2 m3
      go_wp2_with fail
      refine (Hz.out _ HE4.out).mono ?_
      rintro e w5 ⟨v3, rfl, -, hE5⟩
      have HE5 := Lib.hid (HE4.out.trans hE5)
      clear hE5 n0 n1 n2
      go_wp2_with fail
      refine (Hal.out _).mono ?_
      rintro e w6 ⟨rfl, hE6⟩
      have HE6 := Lib.hid (HE5.out.trans hE6)
      clear hE6
      go_wp2_with fail
      go_ret
      exact ⟨rfl, HE6.out⟩
  · rw [not_few hfew] at Hfew
    clear hfew hr hcls
    unfold leafVal at *
    go_enter Try.func13, Try.ntmps13
    go_wp2_with fail
    generalize (w.alloc (.cells #[.slice p n cap, .int .i64 K] 24)).alloc (.cells #[.int .i64 size, .int .i64 least] 58) = W at *
    refine (Hfew.out _).mono ?_
    rintro e w2 ⟨rfl, hE2⟩
    have HE2 := Lib.hid (hE0.trans hE2)
    clear hE0 hE2 hb1 hb2
    go_wp2_with fail
    refine (Hal.out _).mono ?_
    rintro e w3 ⟨rfl, hE3⟩
    go_wp2_with fail
    go_ret
    exact ⟨rfl, HE2.out.trans hE3⟩
end Go.Proofs.Ytmadelflnjhibaa
