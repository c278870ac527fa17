import Derived.Test.YtmadelflnjhibaaKinds
namespace Go.Proofs.Ytmadelflnjhibaa
open Go.RowKit
attribute [local go_sem] Cls.val clsNone clsAll

theorem logOut_is (size : Int) (m : Nat) : ∃ (lg : Int) (is : Bool), logOut size = .tuple #[.int .i64 lg, .bool is] ∧ szOk m size = (is && decide ((m : Int) ≤ size)) := by
  unfold logOut szOk
  cases logV size with
  | none => exact ⟨0, false, rfl, rfl⟩
  | some L => exact ⟨L, true, rfl, rfl⟩

/-- What is amiss with a leaf along a text. -/
def checkV (f : Nat → Cls) (n : Nat) (K : Int) (tn : Nat) (size : Int) : Int :=
  if rightB f n K = true then (if n ≤ tn then (if szOk n size = true then 0 else 50) else 0) else 170

set_option maxRecDepth 100000 in
set_option maxHeartbeats 2000000 in
theorem scheck_any (p : Option Addr) (n cap : Nat) (K : Int) (f : Nat → Cls) (hcap : n ≤ cap) (hn : n ≤ 1099511627776) (s : ByteArray) (_ : s.size ≤ 1099511627776) (size : Int) (w : World) (hr : RdC w p n f) :
    Calls Try.prog 51 #[leafVal p n cap K, .string s, .int .i64 size] w fun e w' => e = .returned (.int .i64 (checkV f n K s.size size)) ∧ Ext w w' := by
  have hnew := heap_alloc_new w (.cells #[.slice p n cap, .int .i64 K] 24)
  have hE0 := (Ext.refl w).alloc (.cells #[.slice p n cap, .int .i64 K] 24)
  have Hr := Lib.hid hr
  clear hr
  obtain ⟨lg, is, hlog, hok⟩ := logOut_is size n
  have Hlog := Lib.hid hlog
  have hval : checkV f n K s.size size = if rightB f n K = true then (if n ≤ s.size then (if szOk n size = true then 0 else 50) else 0) else 170 := rfl
  rw [hok] at hval
  have Hrt := Lib.hid (fun W (hW : Ext w W) => right_any p n cap K f hn hcap W (Hr.out.ext hW))
  generalize rightB f n K = r at *
  have Hval := Lib.hid hval
  clear hlog hok hval
  unfold leafVal at *
  go_enter Try.func51, Try.ntmps51
  go_wp2_with fail
  generalize w.alloc (.cells #[.slice p n cap, .int .i64 K] 24) = W at *
  have c0 : W.cell? ⟨w.heap.size, 0, none⟩ = some (.slice p n cap) := cell_of_row _ _ _ _ _ _ hnew
  have c1 : W.cell? ⟨w.heap.size, 1, none⟩ = some (.int .i64 K) := cell_of_row _ _ _ _ _ _ hnew
  have HE0 := Lib.hid hE0
  clear hE0 hnew
  refine (log_any size _).mono ?_
  rw [Hlog.out]
  rintro e w1 ⟨rfl, rfl⟩
  go_wp2_with fail
  refine (Hrt.out _ HE0.out).mono ?_
  rintro e w2 ⟨rfl, hE2⟩
  have a0 := hE2.cell c0
  have a1 := hE2.cell c1
  have HE2 := Lib.hid (HE0.out.trans hE2)
  clear hE2 c0 c1
  cases r
  · go_wp2_with fail
    go_ret
    exact ⟨by rw [Hval.out]; rfl, HE2.out⟩
  · by_cases h1 : (n : Int) ≤ (s.size : Int)
    · cases is
      · go_wp2_with fail
        go_ret
        exact ⟨by rw [Hval.out, if_pos True.intro, if_pos (by omega)]; rfl, HE2.out⟩
      · by_cases h2 : size < (n : Int)
        · go_wp2_with fail
          go_ret
          exact ⟨by rw [Hval.out, if_pos True.intro, if_pos (by omega), decide_eq_false (show ¬ (n : Int) ≤ size by omega)]; rfl, HE2.out⟩
        · go_wp2_with fail
          go_ret
          exact ⟨by rw [Hval.out, if_pos True.intro, if_pos (by omega), decide_eq_true (show (n : Int) ≤ size by omega)]; rfl, HE2.out⟩
    · go_wp2_with fail
      go_ret
      exact ⟨by rw [Hval.out, if_pos True.intro, if_neg (by omega)]; rfl, HE2.out⟩
end Go.Proofs.Ytmadelflnjhibaa
