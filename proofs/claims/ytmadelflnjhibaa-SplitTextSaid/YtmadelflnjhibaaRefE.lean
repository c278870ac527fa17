import Derived.Test.YtmadelflnjhibaaRefD
namespace Go.Proofs.Ytmadelflnjhibaa
open Go.RowKit
attribute [local go_sem] Cls.val clsNone clsAll

theorem rightB_true {f : Nat → Cls} {n : Nat} {K : Int} (h : rightB f n K = true) : 1 ≤ n ∧ n ≤ 64 ∧ 0 ≤ K ∧ K ≤ 64 := by
  unfold rightB at h
  simp only [Bool.and_eq_true, decide_eq_true_eq] at h
  omega
theorem checkV_zero {f : Nat → Cls} {n : Nat} {K : Int} {tn : Nat} {size : Int} (h : checkV f n K tn size = 0) : rightB f n K = true ∧ (n ≤ tn → szOk n size = true) := by
  unfold checkV at h
  by_cases h1 : rightB f n K = true
  · refine ⟨h1, fun h2 => ?_⟩
    rw [if_pos h1, if_pos h2] at h
    by_cases h3 : szOk n size = true
    · exact h3
    · rw [if_neg h3] at h; cases h
  · rw [if_neg h1] at h; cases h

/-- What is told of counts: their number and they. -/
def cntsL (f : Nat → Cls) (s : ByteArray) (n : Nat) (K : Int) (z : Int) : List Nat := if z = 0 then countsL f s n K (s.size + 1) else []
def cntsN (f : Nat → Cls) (n tn : Nat) (size : Int) (z : Int) : Int := if z = 0 then (kindsV f n).length * kcount n tn size else 0

set_option maxRecDepth 100000 in
set_option maxHeartbeats 2000000 in
theorem refcounts_any (p : Option Addr) (n cap : Nat) (K : Int) (f : Nat → Cls) (hcap : n ≤ cap) (hn : n ≤ 1099511627776) (hcls : ∀ j, (f j).ok) (s : ByteArray) (hs : s.size ≤ 1099511627776) (size : Int) (w : World) (hr : RdC w p n f) :
    Calls Try.prog 23 #[leafVal p n cap K, .string s, .int .i64 size] w fun e w' => ∃ v, e = .returned (.tuple #[v, .int .i64 (cntsN f n s.size size (checkV f n K s.size size)), .int .i64 (checkV f n K s.size size)]) ∧ w'.ownsRow w.heap.size 3 1 v (cntsL f s n K (checkV f n K s.size size)).length ((cntsL f s n K (checkV f n K s.size size)).map In) ∧ Ext w w' := by
  have hnew := heap_alloc_new w (.cells #[.slice p n cap, .int .i64 K] 24)
  have hE0 := (Ext.refl w).alloc (.cells #[.slice p n cap, .int .i64 K] 24)
  have Hck := Lib.hid (fun W (hW : Ext w W) => refcheck_any p n cap K f hcap hn hcls s hs size W (hr.ext hW))
  have Hki := Lib.hid (fun W (hW : Ext w W) => refkinds_any p n cap K f hcap hn hcls W (hr.ext hW))
  have Hc8 := Lib.hid (fun W (hW : Ext w W) => refcounts8_any p n cap K f hcap hn hcls s hs W (hr.ext hW))
  have hz := @checkV_zero f n K s.size size
  have hco := fun (h : checkV f n K s.size size = 0) W => refcount_any n s.size size (rightB_true (hz h).1).1 hs (hz h).2 W
  have h64 := fun (h : checkV f n K s.size size = 0) => (rightB_true (hz h).1).2.1
  have hklen := kindsV_len f n
  generalize checkV f n K s.size size = z at *
  clear hz hr hcls
  by_cases hz : z = 0
  · subst hz
    have hN : cntsN f n s.size size 0 = (kindsV f n).length * kcount n s.size size := if_pos rfl
    have hL : cntsL f s n K 0 = countsL f s n K (s.size + 1) := if_pos rfl
    rw [hN, hL]
    have Hco := Lib.hid (hco rfl)
    have h64 := h64 rfl
    have hkc := kcount_bd n s.size size h64 hs
    generalize kcount n s.size size = kc at *
    have hprod : (0 : Int) ≤ (kindsV f n).length * kc ∧ ((kindsV f n).length : Int) * kc ≤ 64 * 6597069766671 :=
      ⟨Int.mul_nonneg (by omega) hkc.1, Int.le_trans (Int.mul_le_mul_of_nonneg_right (show ((kindsV f n).length : Int) ≤ 64 by omega) hkc.1) (Int.mul_le_mul_of_nonneg_left hkc.2 (by omega))⟩
    generalize hks : kindsV f n = ks at *
    have i3 : IntKind.i64.wrap ((ks.length : Int) * kc) = (ks.length : Int) * kc := IntWalk.i64_in _ ⟨by omega, by omega⟩
    generalize hzz : (ks.length : Int) * kc = zz at *
    clear hN hL hco hks
    unfold leafVal at *
    go_enter Try.func23, Try.ntmps23
    go_wp2_with fail
    generalize w.alloc (.cells #[.slice p n cap, .int .i64 K] 24) = W at *
    refine (Hck.out _ hE0).mono ?_
    rintro e w2 ⟨rfl, hE2⟩
    have c0 : w2.cell? ⟨w.heap.size, 0, none⟩ = some (.slice p n cap) := hE2.cell (cell_of_row _ _ _ _ _ _ hnew)
    have c1 : w2.cell? ⟨w.heap.size, 1, none⟩ = some (.int .i64 K) := hE2.cell (cell_of_row _ _ _ _ _ _ hnew)
    have HE2 := Lib.hid (hE0.trans hE2)
    clear hE0 hnew hE2
    go_wp2_with fail
    generalize hB : w.heap.size = B at *
    go_region_held3 (fun W' => Ext w2 W' ∧ W'.cell? ⟨B, 0, none⟩ = some (.slice p n cap) ∧ W'.cell? ⟨B, 1, none⟩ = some (.int .i64 K))
      ((first | exact ⟨Ext.refl w2, c0, c1⟩ | exact ⟨(Ext.refl w2).drew, c0, c1⟩ | exact ⟨(Ext.refl w2).drew.trans hb2, hb2.cell c0, hb2.cell c1⟩))
      (first | (go_at_call 54; refine (Hki.out _ (HE2.out.trans (Ext.refl w2).drew)).mono ?_; rintro e w3 ⟨v, rfl, hv, hb2⟩; obtain ⟨pv, cv, rfl, hcv⟩ := ownsRow_form hv) | (go_at_call 55; refine (Hco.out _).mono ?_; rintro e w4 ⟨rfl, rfl⟩))
    have hE3 := (Ext.refl w2).drew.trans hb2
    have a0 := hE3.cell c0
    have a1 := hE3.cell c1
    have HE3 := Lib.hid (HE2.out.trans hE3)
    clear hE3 hb2 c0 c1 hv
    go_wp2_with fail
    refine (Hc8.out _ HE3.out).mono ?_
    rintro e w5 ⟨v, rfl, hv, hE5⟩
    have Hv := Lib.hid hv
    have HE5 := Lib.hid hE5
    clear hv hE5
    go_wp2_with fail
    go_ret3
    exact ⟨_, rfl, ownsRow_lower Hv.out HE3.out.size, HE3.out.trans HE5.out⟩
  · have hN : cntsN f n s.size size z = 0 := if_neg hz
    have hL : cntsL f s n K z = [] := if_neg hz
    rw [hN, hL]
    clear hN hL hco h64
    unfold leafVal at *
    go_enter Try.func23, Try.ntmps23
    go_wp2_with fail
    generalize w.alloc (.cells #[.slice p n cap, .int .i64 K] 24) = W at *
    refine (Hck.out _ hE0).mono ?_
    rintro e w2 ⟨rfl, hE2⟩
    have HE2 := Lib.hid (hE0.trans hE2)
    clear hE0 hnew hE2
    go_wp2_with fail
    go_ret3
    exact ⟨_, rfl, by simp [World.ownsRow], HE2.out⟩

/-- What is told of places. -/
def fndL (f : Nat → Cls) (s : ByteArray) (n : Nat) (K : Int) (z : Int) : List Nat := hitsL (IL (cntsL f s n K z)) K (cntsL f s n K z).length

set_option maxRecDepth 100000 in
set_option maxHeartbeats 2000000 in
theorem reffind_any (p : Option Addr) (n cap : Nat) (K : Int) (f : Nat → Cls) (hcap : n ≤ cap) (hn : n ≤ 1099511627776) (hcls : ∀ j, (f j).ok) (s : ByteArray) (hs : s.size ≤ 1099511627776) (size : Int) (w : World) (hr : RdC w p n f) :
    Calls Try.prog 26 #[leafVal p n cap K, .string s, .int .i64 size] w fun e w' => ∃ v, e = .returned (.tuple #[v, .int .i64 (cntsN f n s.size size (checkV f n K s.size size)), .int .i64 (checkV f n K s.size size)]) ∧ w'.ownsRow w.heap.size 3 1 v (fndL f s n K (checkV f n K s.size size)).length ((fndL f s n K (checkV f n K s.size size)).map In) ∧ Ext w w' := by
  have hnew := heap_alloc_new w (.cells #[.slice p n cap, .int .i64 K] 24)
  have hE0 := (Ext.refl w).alloc (.cells #[.slice p n cap, .int .i64 K] 24)
  have Hco := Lib.hid (fun W (hW : Ext w W) => refcounts_any p n cap K f hcap hn hcls s hs size W (hr.ext hW))
  have hlen : (cntsL f s n K (checkV f n K s.size size)).length ≤ s.size + 1 := by
    unfold cntsL
    split
    · exact countsL_len f s n K _
    · simp
  unfold fndL
  generalize cntsL f s n K (checkV f n K s.size size) = L at *
  generalize cntsN f n s.size size (checkV f n K s.size size) = N at *
  generalize checkV f n K s.size size = z at *
  clear hr hcls
  unfold leafVal at *
  go_enter Try.func26, Try.ntmps26
  go_wp2_with fail
  generalize w.alloc (.cells #[.slice p n cap, .int .i64 K] 24) = W at *
  refine (Hco.out _ hE0).mono ?_
  rintro e w2 ⟨v, rfl, hv, hE2⟩
  have c1 : w2.cell? ⟨w.heap.size, 1, none⟩ = some (.int .i64 K) := hE2.cell (cell_of_row _ _ _ _ _ _ hnew)
  have HE2 := Lib.hid (hE0.trans hE2)
  have Hv := Lib.hid hv
  clear hnew hE2 hv
  go_wp2_with fail
  refine (rhits_any L.length (IL L) K (by omega) v _ (Sl.of_list Hv.out)).mono ?_
  rintro e w3 ⟨v2, rfl, hv2, hE3⟩
  have Hv2 := Lib.hid hv2
  have HE3 := Lib.hid hE3
  clear hv2 hE3
  go_wp2_with fail
  go_ret3
  exact ⟨_, rfl, ownsRow_lower Hv2.out HE2.out.size, HE2.out.trans HE3.out⟩
end Go.Proofs.Ytmadelflnjhibaa
