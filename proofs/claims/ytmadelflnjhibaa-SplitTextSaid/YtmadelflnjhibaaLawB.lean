import Derived.Test.YtmadelflnjhibaaLawA
namespace Go.Proofs.Ytmadelflnjhibaa
open Go.RowKit
attribute [local go_sem] Cls.val clsNone clsAll

theorem not_few {n m : Nat} (h : ¬ (n ≤ 100 ∧ m ≤ 300)) : (decide (n ≤ 100) && decide (m ≤ 300)) = false := by
  rw [Bool.eq_false_iff]
  intro h2
  rw [Bool.and_eq_true, decide_eq_true_eq, decide_eq_true_eq] at h2
  exact h h2

theorem cntsL_len (f : Nat → Cls) (s : ByteArray) (n : Nat) (K z : Int) : (cntsL f s n K z).length ≤ s.size + 1 := by
  unfold cntsL
  split
  · exact countsL_len f s n K _
  · simp
theorem fndL_len (f : Nat → Cls) (s : ByteArray) (n : Nat) (K z : Int) : (fndL f s n K z).length ≤ s.size + 1 := by
  unfold fndL
  exact Nat.le_trans (hitsL_len _ _ _) (cntsL_len f s n K z)

set_option maxRecDepth 100000 in
set_option maxHeartbeats 4000000 in
theorem lawCounts (p : Option Addr) (n cap : Nat) (K : Int) (f : Nat → Cls) (hcap : n ≤ cap) (hcls : ∀ j, (f j).ok) (s : ByteArray) (size : Int) (w : World) (hr : RdC w p n f) :
    Calls Try.prog 4 #[leafVal p n cap K, .string s, .int .i64 size] w fun e w' => e = .returned (.bool true) ∧ Ext w w' := by
  have hb1 := heap_alloc_new w (.cells #[.slice p n cap, .int .i64 K] 24)
  have hE0 := (Ext.refl w).alloc (.cells #[.slice p n cap, .int .i64 K] 24)
  have Hfew := Lib.hid (fun W => few_any p n cap K s W)
  have Hal := Lib.hid (fun W => alive_any W)
  by_cases hfew : n ≤ 100 ∧ s.size ≤ 300
  · obtain ⟨hn, hs⟩ := hfew
    rw [decide_eq_true hn, decide_eq_true hs] at Hfew
    have Hx := Lib.hid (fun W (hW : Ext w W) => scounts_all p n cap K f hcap (by omega) s (by omega) size hcls W (hr.ext hW))
    have Hy := Lib.hid (fun W (hW : Ext w W) => refcounts_any p n cap K f hcap (by omega) hcls s (by omega) size W (hr.ext hW))
    have hlen := cntsL_len f s n K (checkV f n K s.size size)
    generalize cntsN f n s.size size (checkV f n K s.size size) = N at *
    generalize cntsL f s n K (checkV f n K s.size size) = L at *
    generalize checkV f n K s.size size = z at *
    clear hr hcls
    unfold leafVal at *
    go_enter Try.func4, Try.ntmps4
    go_wp2_with fail
    generalize w.alloc (.cells #[.slice p n cap, .int .i64 K] 24) = W at *
    refine (Hfew.out _).mono ?_
    rintro e w2 ⟨rfl, hE2⟩
    have l0 : w2.cell? ⟨w.heap.size, 0, none⟩ = some (.slice p n cap) := hE2.cell (cell_of_row _ _ _ _ _ _ hb1)
    have l1 : w2.cell? ⟨w.heap.size, 1, none⟩ = some (.int .i64 K) := hE2.cell (cell_of_row _ _ _ _ _ _ hb1)
    have HE2 := Lib.hid (hE0.trans hE2)
    clear hE0 hE2 hb1
    go_wp2_with fail
    refine (Hx.out _ HE2.out).mono ?_
    rintro e w3 ⟨v1, rfl, hv1, hE3⟩
    have m0 := hE3.cell l0
    have m1 := hE3.cell l1
    have HE3 := Lib.hid (HE2.out.trans hE3)
    have Hv1 := Lib.hid hv1
    clear hE3 hv1 l0 l1
    go_wp2_with fail
    refine (Hy.out _ HE3.out).mono ?_
    rintro e w4 ⟨v2, rfl, hv2, hE4⟩
    have HE4 := Lib.hid (HE3.out.trans hE4)
    have Hv1' := Lib.hid (Hv1.out.ext hE4)
    have Hv2 := Lib.hid (Sl.of_list hv2)
    clear hE4 hv2 m0 m1 Hv1
    go_wp2_with fail
    refine (Hal.out _).mono ?_
    rintro e w5 ⟨rfl, hE5⟩
    have HE5 := Lib.hid (HE4.out.trans hE5)
    have Hpl := Lib.hid (RowI.same ⟨Hv1'.out.ext hE5⟩ ⟨Hv2.out.ext hE5⟩ (by omega))
    clear hE5 Hv1' Hv2
    go_wp2_with fail
    refine Hpl.out.mono ?_
    rintro e w6 ⟨rfl, hE6⟩
    have HE6 := Lib.hid (HE5.out.trans hE6)
    clear hE6
    go_wp2_with fail
    go_ret
    exact ⟨rfl, HE6.out⟩
  · rw [not_few hfew] at Hfew
    clear hfew hr hcls
    unfold leafVal at *
    go_enter Try.func4, Try.ntmps4
    go_wp2_with fail
    generalize w.alloc (.cells #[.slice p n cap, .int .i64 K] 24) = W at *
    refine (Hfew.out _).mono ?_
    rintro e w2 ⟨rfl, hE2⟩
    have HE2 := Lib.hid (hE0.trans hE2)
    clear hE0 hE2 hb1
    go_wp2_with fail
    refine (Hal.out _).mono ?_
    rintro e w3 ⟨rfl, hE3⟩
    go_wp2_with fail
    go_ret
    exact ⟨rfl, HE2.out.trans hE3⟩
set_option maxRecDepth 100000 in
set_option maxHeartbeats 4000000 in
theorem lawFinds (p : Option Addr) (n cap : Nat) (K : Int) (f : Nat → Cls) (hcap : n ≤ cap) (hcls : ∀ j, (f j).ok) (s : ByteArray) (size : Int) (w : World) (hr : RdC w p n f) :
    Calls Try.prog 5 #[leafVal p n cap K, .string s, .int .i64 size] w fun e w' => e = .returned (.bool true) ∧ Ext w w' := by
  have hb1 := heap_alloc_new w (.cells #[.slice p n cap, .int .i64 K] 24)
  have hE0 := (Ext.refl w).alloc (.cells #[.slice p n cap, .int .i64 K] 24)
  have Hfew := Lib.hid (fun W => few_any p n cap K s W)
  have Hal := Lib.hid (fun W => alive_any W)
  by_cases hfew : n ≤ 100 ∧ s.size ≤ 300
  · obtain ⟨hn, hs⟩ := hfew
    rw [decide_eq_true hn, decide_eq_true hs] at Hfew
    have Hx := Lib.hid (fun W (hW : Ext w W) => sfind_all p n cap K f hcap (by omega) s (by omega) size hcls W (hr.ext hW))
    have Hy := Lib.hid (fun W (hW : Ext w W) => reffind_any p n cap K f hcap (by omega) hcls s (by omega) size W (hr.ext hW))
    have Hf8 := Lib.hid (fun W (hW : Ext w W) => reffind8_any p n cap K f hcap (by omega) hcls s (by omega) W (hr.ext hW))
    have hL : checkV f n K s.size size = 0 → fndL f s n K (checkV f n K s.size size) = findL f s n K := fun h => by rw [h]; rfl
    have hlen := fndL_len f s n K (checkV f n K s.size size)
    generalize cntsN f n s.size size (checkV f n K s.size size) = N at *
    generalize fndL f s n K (checkV f n K s.size size) = L at *
    generalize checkV f n K s.size size = z at *
    clear hr hcls
    by_cases hz : z = 0
    · have hL2 := hL hz
      subst hz
      rw [← hL2] at Hf8
      have Hf8 := Lib.hid Hf8.out
      clear hL hL2
      unfold leafVal at *
      go_enter Try.func5, Try.ntmps5
      go_wp2_with fail
      generalize w.alloc (.cells #[.slice p n cap, .int .i64 K] 24) = W at *
      refine (Hfew.out _).mono ?_
      rintro e w2 ⟨rfl, hE2⟩
      have l0 : w2.cell? ⟨w.heap.size, 0, none⟩ = some (.slice p n cap) := hE2.cell (cell_of_row _ _ _ _ _ _ hb1)
      have l1 : w2.cell? ⟨w.heap.size, 1, none⟩ = some (.int .i64 K) := hE2.cell (cell_of_row _ _ _ _ _ _ hb1)
      have HE2 := Lib.hid (hE0.trans hE2)
      clear hE0 hE2 hb1
      go_wp2_with fail
      refine (Hx.out _ HE2.out).mono ?_
      rintro e w3 ⟨v1, rfl, hv1, hE3⟩
      have m0 := hE3.cell l0
      have m1 := hE3.cell l1
      have HE3 := Lib.hid (HE2.out.trans hE3)
      have Hv1 := Lib.hid hv1
      clear hE3 hv1 l0 l1
      go_wp2_with fail
      refine (Hy.out _ HE3.out).mono ?_
      rintro e w4 ⟨v2, rfl, hv2, hE4⟩
      have HE4 := Lib.hid (HE3.out.trans hE4)
      have Hv1' := Lib.hid (Hv1.out.ext hE4)
      have n0 := hE4.cell m0
      have n1 := hE4.cell m1
      have Hv2 := Lib.hid (Sl.of_list hv2)
      clear hE4 hv2 m0 m1 Hv1
      go_wp2_with fail
      refine (Hal.out _).mono ?_
      rintro e w5 ⟨rfl, hE5⟩
      have HE5 := Lib.hid (HE4.out.trans hE5)
      have Hpl := Lib.hid (RowI.same ⟨Hv1'.out.ext hE5⟩ ⟨Hv2.out.ext hE5⟩ (by omega))
      have Hv1'' := Lib.hid (Hv1'.out.ext hE5)
      have o0 := hE5.cell n0
      have o1 := hE5.cell n1
      clear hE5 Hv1' Hv2 n0 n1
      go_wp2_with fail
      refine Hpl.out.mono ?_
      rintro e w6 ⟨rfl, hE6⟩
      have HE6 := Lib.hid (HE5.out.trans hE6)
      have Hv6 := Lib.hid (Hv1''.out.ext hE6)
      have q0 := hE6.cell o0
      have q1 := hE6.cell o1
      clear hE6 o0 o1 Hv1''
      go_wp2_with fail
      refine (Hf8.out _ HE6.out).mono ?_
      rintro e w7 ⟨v7, rfl, hv7, hE7⟩
      have HE7 := Lib.hid (HE6.out.trans hE7)
      have Hpl7 := Lib.hid (RowI.same ⟨Hv6.out.ext hE7⟩ ⟨Sl.of_list hv7⟩ (by omega))
      clear hE7 hv7 q0 q1 Hv6
      go_wp2_with fail
      refine Hpl7.out.mono ?_
      rintro e w8 ⟨rfl, hE8⟩
      have HE8 := Lib.hid (HE7.out.trans hE8)
      clear hE8
      go_wp2_with fail
      go_ret
      exact ⟨rfl, HE8.out⟩
    · clear hL Hf8
      unfold leafVal at *
      go_enter Try.func5, Try.ntmps5
      go_wp2_with fail
      generalize w.alloc (.cells #[.slice p n cap, .int .i64 K] 24) = W at *
      refine (Hfew.out _).mono ?_
      rintro e w2 ⟨rfl, hE2⟩
      have l0 : w2.cell? ⟨w.heap.size, 0, none⟩ = some (.slice p n cap) := hE2.cell (cell_of_row _ _ _ _ _ _ hb1)
      have l1 : w2.cell? ⟨w.heap.size, 1, none⟩ = some (.int .i64 K) := hE2.cell (cell_of_row _ _ _ _ _ _ hb1)
      have HE2 := Lib.hid (hE0.trans hE2)
      clear hE0 hE2 hb1
      go_wp2_with fail
      refine (Hx.out _ HE2.out).mono ?_
      rintro e w3 ⟨v1, rfl, hv1, hE3⟩
      have m0 := hE3.cell l0
      have m1 := hE3.cell l1
      have HE3 := Lib.hid (HE2.out.trans hE3)
      have Hv1 := Lib.hid hv1
      clear hE3 hv1 l0 l1
      go_wp2_with fail
      refine (Hy.out _ HE3.out).mono ?_
      rintro e w4 ⟨v2, rfl, hv2, hE4⟩
      have HE4 := Lib.hid (HE3.out.trans hE4)
      have Hv1' := Lib.hid (Hv1.out.ext hE4)
      have Hv2 := Lib.hid (Sl.of_list hv2)
      clear hE4 hv2 m0 m1 Hv1
      go_wp2_with fail
      refine (Hal.out _).mono ?_
      rintro e w5 ⟨rfl, hE5⟩
      have HE5 := Lib.hid (HE4.out.trans hE5)
      have Hpl := Lib.hid (RowI.same ⟨Hv1'.out.ext hE5⟩ ⟨Hv2.out.ext hE5⟩ (by omega))
      clear hE5 Hv1' Hv2
      go_wp2_with fail
      refine Hpl.out.mono ?_
      rintro e w6 ⟨rfl, hE6⟩
      have HE6 := Lib.hid (HE5.out.trans hE6)
      clear hE6
      go_wp2_with fail
      go_ret
      exact ⟨rfl, HE6.out⟩
  · rw [not_few hfew] at Hfew
    clear hfew hr hcls
    unfold leafVal at *
    go_enter Try.func5, Try.ntmps5
    go_wp2_with fail
    generalize w.alloc (.cells #[.slice p n cap, .int .i64 K] 24) = W at *
    refine (Hfew.out _).mono ?_
    rintro e w2 ⟨rfl, hE2⟩
    have HE2 := Lib.hid (hE0.trans hE2)
    clear hE0 hE2 hb1
    go_wp2_with fail
    refine (Hal.out _).mono ?_
    rintro e w3 ⟨rfl, hE3⟩
    go_wp2_with fail
    go_ret
    exact ⟨rfl, HE2.out.trans hE3⟩
end Go.Proofs.Ytmadelflnjhibaa
