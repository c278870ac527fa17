import Derived.Test.YtmadelflnjhibaaAliveS
import Derived.Test.YtmadelflnjhibaaLawB
namespace Go.Proofs.Ytmadelflnjhibaa
open Go.RowKit
attribute [local go_sem] Cls.val clsNone clsAll

theorem box2 (w : World) (o1 o2 : Obj) : ((w.alloc o1).alloc o2).heap[w.heap.size]? = some o1 ∧ ((w.alloc o1).alloc o2).heap[w.heap.size + 1]? = some o2 ∧ Ext w ((w.alloc o1).alloc o2) := by
  refine ⟨((Ext.refl _).alloc o2).heap (World.alloc_heap_new w o1), ?_, ((Ext.refl w).alloc o1).alloc o2⟩
  have h := World.alloc_heap_new (w.alloc o1) o2
  rwa [World.size_alloc] at h

set_option maxRecDepth 100000 in
set_option maxHeartbeats 4000000 in
theorem lawSpCounts (p : Option Addr) (n cap : Nat) (K : Int) (f : Nat → Cls) (hcap : n ≤ cap) (hcls : ∀ j, (f j).ok) (s : ByteArray) (size least : Int) (_ : -9223372036854775808 ≤ least ∧ least ≤ 9223372036854775807) (w : World) (hr : RdC w p n f) :
    Calls Try.prog 11 #[leafVal p n cap K, .string s, .agg #[.int .i64 size, .int .i64 least]] w fun e w' => e = .returned (.bool true) ∧ Ext w w' := by
  obtain ⟨hb1, hb2, hE0⟩ := box2 w (.cells #[.slice p n cap, .int .i64 K] 24) (.cells #[.int .i64 size, .int .i64 least] 58)
  have Hfew := Lib.hid (fun W => few12_any p n cap K s W)
  have Hal := Lib.hid (fun W => alive12_any W)
  by_cases hfew : n ≤ 100 ∧ s.size ≤ 300
  · obtain ⟨hn, hs⟩ := hfew
    rw [decide_eq_true hn, decide_eq_true hs] at Hfew
    have Hx := Lib.hid (fun W (hW : Ext w W) => spcounts_all p n cap K f hcap (by omega) s (by omega) size least hcls W (hr.ext hW))
    have Hy := Lib.hid (fun W (hW : Ext w W) => refscounts_any p n cap K f hcap (by omega) hcls s (by omega) size least W (hr.ext hW))
    have hlen := cntsL_len f s n K (checkS f n K s.size size least)
    generalize cntsNS f n s.size size least (checkS f n K s.size size least) = N at *
    generalize cntsL f s n K (checkS f n K s.size size least) = L at *
    generalize checkS f n K s.size size least = z at *
    clear hr hcls
    unfold leafVal at *
    go_enter Try.func11, Try.ntmps11
    go_wp2_with fail
    generalize (w.alloc (.cells #[.slice p n cap, .int .i64 K] 24)).alloc (.cells #[.int .i64 size, .int .i64 least] 58) = W at *
    refine (Hfew.out _).mono ?_
    rintro e w2 ⟨rfl, hE2⟩
    have l0 : w2.cell? ⟨w.heap.size, 0, none⟩ = some (.slice p n cap) := hE2.cell (cell_of_row _ _ _ _ _ _ hb1)
    have l1 : w2.cell? ⟨w.heap.size, 1, none⟩ = some (.int .i64 K) := hE2.cell (cell_of_row _ _ _ _ _ _ hb1)
    have l2 : w2.cell? ⟨w.heap.size + 1, 0, none⟩ = some (.int .i64 size) := hE2.cell (cell_of_row _ _ _ _ _ _ hb2)
    have l3 : w2.cell? ⟨w.heap.size + 1, 1, none⟩ = some (.int .i64 least) := hE2.cell (cell_of_row _ _ _ _ _ _ hb2)
    have HE2 := Lib.hid (hE0.trans hE2)
    clear hE0 hE2 hb1 hb2
    go_wp2_with fail
    refine (Hx.out _ HE2.out).mono ?_
    rintro e w3 ⟨v1, rfl, hv1, hE3⟩
    have m0 := hE3.cell l0
    have m1 := hE3.cell l1
    have m2 := hE3.cell l2
    have m3 := hE3.cell l3
    have HE3 := Lib.hid (HE2.out.trans hE3)
    have Hv1 := Lib.hid hv1
    clear hE3 hv1 l0 l1 l2 l3
    go_wp2_with fail
    refine (Hy.out _ HE3.out).mono ?_
    rintro e w4 ⟨v2, rfl, hv2, hE4⟩
    have HE4 := Lib.hid (HE3.out.trans hE4)
    have Hv1' := Lib.hid (Hv1.out.ext hE4)
    have Hv2 := Lib.hid (Sl.of_list hv2)
    clear hE4 hv2 m0 m1 m2 m3 Hv1
    go_wp2_with fail
    refine (Hal.out _).mono ?_
    rintro e w5 ⟨rfl, hE5⟩
    have HE5 := Lib.hid (HE4.out.trans hE5)
    have Hpl := Lib.hid (RowI.same ⟨Hv1'.out.ext hE5⟩ ⟨Hv2.out.ext hE5⟩ (by omega))
    clear hE5 Hv1' Hv2
    go_wp2_with fail
    refine Hpl.out.mono ?_
    rintro e w6 ⟨rfl, hE6⟩
    have HE6 := Lib.hid (HE5.out.trans hE6)
    clear hE6
    go_wp2_with fail
    go_ret
    exact ⟨rfl, HE6.out⟩
  · rw [not_few hfew] at Hfew
    clear hfew hr hcls
    unfold leafVal at *
    go_enter Try.func11, Try.ntmps11
    go_wp2_with fail
    generalize (w.alloc (.cells #[.slice p n cap, .int .i64 K] 24)).alloc (.cells #[.int .i64 size, .int .i64 least] 58) = W at *
    refine (Hfew.out _).mono ?_
    rintro e w2 ⟨rfl, hE2⟩
    have HE2 := Lib.hid (hE0.trans hE2)
    clear hE0 hE2 hb1 hb2
    go_wp2_with fail
    refine (Hal.out _).mono ?_
    rintro e w3 ⟨rfl, hE3⟩
    go_wp2_with fail
    go_ret
    exact ⟨rfl, HE2.out.trans hE3⟩
end Go.Proofs.Ytmadelflnjhibaa
