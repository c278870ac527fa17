import Derived.Test.YtmadelflnjhibaaRefS
import Derived.Lib.MinMax
namespace Go.Proofs.Ytmadelflnjhibaa
open Go.RowKit Go.Shelf
attribute [local go_sem] Cls.val clsNone clsAll

def sumsR (f : Nat → Cls) (n : Nat) (K : Int) (tn : Nat) : Nat := if rightB f n K = true then sumsN n tn else 0

set_option maxRecDepth 100000 in
set_option maxHeartbeats 2000000 in
theorem sums_any (p : Option Addr) (n cap : Nat) (K : Int) (f : Nat → Cls) (hcap : n ≤ cap) (hn : n ≤ 1099511627776) (s : ByteArray) (hs : s.size ≤ 1099511627776) (w : World) (hr : RdC w p n f) :
    Calls Try.prog 77 #[leafVal p n cap K, .string s] w fun e w' => e = .returned (.int .i64 (sumsR f n K s.size : Nat)) ∧ Ext w w' := by
  have hnew := heap_alloc_new w (.cells #[.slice p n cap, .int .i64 K] 24)
  have hE0 := (Ext.refl w).alloc (.cells #[.slice p n cap, .int .i64 K] 24)
  have Hrt := Lib.hid (fun W (hW : Ext w W) => right_any p n cap K f hn hcap W (hr.ext hW))
  have hval : sumsR f n K s.size = if rightB f n K = true then sumsN n s.size else 0 := rfl
  generalize sumsR f n K s.size = N at *
  generalize rightB f n K = r at *
  clear hr
  unfold leafVal at *
  cases r
  · rw [if_neg (by decide)] at hval
    subst hval
    go_enter Try.func77, Try.ntmps77
    go_wp2_with fail
    generalize w.alloc (.cells #[.slice p n cap, .int .i64 K] 24) = W at *
    refine (Hrt.out _ hE0).mono ?_
    rintro e w2 ⟨rfl, hE2⟩
    go_wp2_with fail
    go_ret
    exact ⟨rfl, hE0.trans hE2⟩
  · rw [if_pos rfl] at hval
    have hNv : max (0 : Int) ((s.size : Int) - n + 1) = N := by rw [hval]; unfold sumsN; omega
    clear hval
    have i1 : IntKind.i64.wrap ((s.size : Int) - n) = (s.size : Int) - n := IntWalk.i64_in _ ⟨by omega, by omega⟩
    have i2 : IntKind.i64.wrap ((s.size : Int) - n + 1) = (s.size : Int) - n + 1 := IntWalk.i64_in _ ⟨by omega, by omega⟩
    go_enter Try.func77, Try.ntmps77
    go_wp2_with fail
    generalize w.alloc (.cells #[.slice p n cap, .int .i64 K] 24) = W at *
    refine (Hrt.out _ hE0).mono ?_
    rintro e w2 ⟨rfl, hE2⟩
    have l0 : w2.cell? ⟨w.heap.size, 0, none⟩ = some (.slice p n cap) := hE2.cell (cell_of_row _ _ _ _ _ _ hnew)
    go_wp2_with fail
    go_ret
    exact ⟨rfl, hE0.trans hE2⟩

set_option maxRecDepth 100000 in
set_option maxHeartbeats 4000000 in
theorem spcheck_any (p : Option Addr) (n cap : Nat) (K : Int) (f : Nat → Cls) (hcap : n ≤ cap) (hn : n ≤ 1099511627776) (hcls : ∀ j, (f j).ok) (s : ByteArray) (_ : s.size ≤ 1099511627776) (size : Int) (fl : Nat) (z : Int)
    (hz : z = if (rightB f n K && plainB f n) = true then (if (decide (0 < fl) && (decide (n ≤ s.size) && !szOk n size)) = true then 50 else 0) else 170) (w : World) (hr : RdC w p n f) :
    Calls Try.prog 81 #[leafVal p n cap K, .string s, .int .i64 size, .int .i64 fl] w fun e w' => e = .returned (.int .i64 z) ∧ Ext w w' := by
  have hnew := heap_alloc_new w (.cells #[.slice p n cap, .int .i64 K] 24)
  have hE0 := (Ext.refl w).alloc (.cells #[.slice p n cap, .int .i64 K] 24)
  have Hrt := Lib.hid (fun W (hW : Ext w W) => right_any p n cap K f hn hcap W (hr.ext hW))
  have Hpl := Lib.hid (fun W (hW : Ext w W) => plain_any p n cap K f hcap hn hcls W (hr.ext hW))
  obtain ⟨lg, is, hlog, hok⟩ := logOut_is size n
  rw [hok] at hz
  have Hlog := Lib.hid hlog
  generalize rightB f n K = r at *
  generalize plainB f n = pl at *
  clear hr hcls hok hlog
  unfold leafVal at *
  cases r
  · rw [Bool.false_and, if_neg (by decide)] at hz
    subst hz
    go_enter Try.func81, Try.ntmps81
    go_wp2_with fail
    generalize w.alloc (.cells #[.slice p n cap, .int .i64 K] 24) = W at *
    have l0 : W.cell? ⟨w.heap.size, 0, none⟩ = some (.slice p n cap) := cell_of_row _ _ _ _ _ _ hnew
    have l1 : W.cell? ⟨w.heap.size, 1, none⟩ = some (.int .i64 K) := cell_of_row _ _ _ _ _ _ hnew
    refine (log_any size _).mono ?_
    rw [Hlog.out]
    rintro e w1 ⟨rfl, rfl⟩
    go_wp2_with fail
    refine (Hrt.out _ hE0).mono ?_
    rintro e w2 ⟨rfl, hE2⟩
    go_wp2_with fail
    go_ret
    exact ⟨rfl, hE0.trans hE2⟩
  · cases pl
    · rw [Bool.and_false, if_neg (by decide)] at hz
      subst hz
      go_enter Try.func81, Try.ntmps81
      go_wp2_with fail
      generalize w.alloc (.cells #[.slice p n cap, .int .i64 K] 24) = W at *
      have l0 : W.cell? ⟨w.heap.size, 0, none⟩ = some (.slice p n cap) := cell_of_row _ _ _ _ _ _ hnew
      have l1 : W.cell? ⟨w.heap.size, 1, none⟩ = some (.int .i64 K) := cell_of_row _ _ _ _ _ _ hnew
      refine (log_any size _).mono ?_
      rw [Hlog.out]
      rintro e w1 ⟨rfl, rfl⟩
      go_wp2_with fail
      refine (Hrt.out _ hE0).mono ?_
      rintro e w2 ⟨rfl, hE2⟩
      have m0 := hE2.cell l0
      have m1 := hE2.cell l1
      go_wp2_with fail
      refine (Hpl.out _ (hE0.trans hE2)).mono ?_
      rintro e w3 ⟨rfl, hE3⟩
      go_wp2_with fail
      go_ret
      exact ⟨rfl, (hE0.trans hE2).trans hE3⟩
    · rw [Bool.and_true, if_pos rfl] at hz
      have Hz := Lib.hid hz
      clear hz
      go_enter Try.func81, Try.ntmps81
      go_wp2_with fail
      generalize w.alloc (.cells #[.slice p n cap, .int .i64 K] 24) = W at *
      have l0 : W.cell? ⟨w.heap.size, 0, none⟩ = some (.slice p n cap) := cell_of_row _ _ _ _ _ _ hnew
      have l1 : W.cell? ⟨w.heap.size, 1, none⟩ = some (.int .i64 K) := cell_of_row _ _ _ _ _ _ hnew
      refine (log_any size _).mono ?_
      rw [Hlog.out]
      rintro e w1 ⟨rfl, rfl⟩
      go_wp2_with fail
      refine (Hrt.out _ hE0).mono ?_
      rintro e w2 ⟨rfl, hE2⟩
      have m0 := hE2.cell l0
      have m1 := hE2.cell l1
      go_wp2_with fail
      refine (Hpl.out _ (hE0.trans hE2)).mono ?_
      rintro e w3 ⟨rfl, hE3⟩
      have n0 := hE3.cell m0
      have n1 := hE3.cell m1
      have HE3 := Lib.hid ((hE0.trans hE2).trans hE3)
      clear hE0 hE2 hE3 l0 l1 m0 m1 hnew
      by_cases h1 : (0 : Int) < (fl : Int)
      · by_cases h2 : (n : Int) ≤ (s.size : Int)
        · rw [decide_eq_true (show 0 < fl by omega), decide_eq_true (show n ≤ s.size by omega), Bool.true_and, Bool.true_and] at Hz
          cases is
          · have hz50 : z = 50 := Hz.out
            subst hz50
            go_wp2_with fail
            go_ret
            exact ⟨rfl, HE3.out⟩
          · by_cases h3 : size < (n : Int)
            · rw [decide_eq_false (show ¬ (n : Int) ≤ size by omega)] at Hz
              have hz50 : z = 50 := Hz.out
              subst hz50
              go_wp2_with fail
              go_ret
              exact ⟨rfl, HE3.out⟩
            · rw [decide_eq_true (show (n : Int) ≤ size by omega)] at Hz
              have hz0 : z = 0 := Hz.out
              subst hz0
              go_wp2_with fail
              go_ret
              exact ⟨rfl, HE3.out⟩
        · rw [decide_eq_false (show ¬ n ≤ s.size by omega), Bool.false_and, Bool.and_false] at Hz
          have hz0 : z = 0 := Hz.out
          subst hz0
          go_wp2_with fail
          go_ret
          exact ⟨rfl, HE3.out⟩
      · rw [decide_eq_false (show ¬ 0 < fl by omega), Bool.false_and] at Hz
        have hz0 : z = 0 := Hz.out
        subst hz0
        go_wp2_with fail
        go_ret
        exact ⟨rfl, HE3.out⟩
end Go.Proofs.Ytmadelflnjhibaa
