import Derived.Test.YtmadelflnjhibaaLawB
namespace Go.Proofs.Ytmadelflnjhibaa
open Go.RowKit
attribute [local go_sem] Cls.val clsNone clsAll

set_option maxRecDepth 100000 in
set_option maxHeartbeats 4000000 in
theorem lawSizes (p : Option Addr) (n cap : Nat) (K : Int) (f : Nat → Cls) (hcap : n ≤ cap) (hcls : ∀ j, (f j).ok) (s : ByteArray) (z0 z1 : Int) (w : World) (hr : RdC w p n f) :
    Calls Try.prog 7 #[leafVal p n cap K, .string s, .agg #[.int .i64 z0, .int .i64 z1]] w fun e w' => e = .returned (.bool true) ∧ Ext w w' := by
  obtain ⟨hb1, hb2⟩ := box_cells w (.cells #[.slice p n cap, .int .i64 K] 24) (.cells #[.int .i64 z0, .int .i64 z1] 47)
  have hE0 := ((Ext.refl w).alloc (.cells #[.slice p n cap, .int .i64 K] 24)).alloc (.cells #[.int .i64 z0, .int .i64 z1] 47)
  have Hfew := Lib.hid (fun W => few_any p n cap K s W)
  have Hal := Lib.hid (fun W => alive_any W)
  by_cases hfew : n ≤ 100 ∧ s.size ≤ 300
  · obtain ⟨hn, hs⟩ := hfew
    rw [decide_eq_true hn, decide_eq_true hs] at Hfew
    have Hx := Lib.hid (fun W (hW : Ext w W) => scounts_all p n cap K f hcap (by omega) s (by omega) z0 hcls W (hr.ext hW))
    have Hy := Lib.hid (fun W (hW : Ext w W) => scounts_all p n cap K f hcap (by omega) s (by omega) z1 hcls W (hr.ext hW))
    have hlen := cntsL_len f s n K (checkV f n K s.size z0)
    generalize cntsN f n s.size z0 (checkV f n K s.size z0) = N0 at *
    generalize cntsN f n s.size z1 (checkV f n K s.size z1) = N1 at *
    have hsame : checkV f n K s.size z0 = 0 → checkV f n K s.size z1 = 0 → cntsL f s n K (checkV f n K s.size z0) = cntsL f s n K (checkV f n K s.size z1) := fun h1 h2 => by rw [h1, h2]
    generalize cntsL f s n K (checkV f n K s.size z0) = L0 at *
    generalize cntsL f s n K (checkV f n K s.size z1) = L1 at *
    generalize checkV f n K s.size z0 = e0 at *
    generalize checkV f n K s.size z1 = e1 at *
    have Hsame := Lib.hid hsame
    clear hr hcls hsame
    unfold leafVal at *
    go_enter Try.func7, Try.ntmps7
    go_wp2_with fail
    generalize (w.alloc (.cells #[.slice p n cap, .int .i64 K] 24)).alloc (.cells #[.int .i64 z0, .int .i64 z1] 47) = W at *
    refine (Hfew.out _).mono ?_
    rintro e w2 ⟨rfl, hE2⟩
    have l0 : w2.cell? ⟨w.heap.size, 0, none⟩ = some (.slice p n cap) := hE2.cell (cell_of_row _ _ _ _ _ _ hb1)
    have l1 : w2.cell? ⟨w.heap.size, 1, none⟩ = some (.int .i64 K) := hE2.cell (cell_of_row _ _ _ _ _ _ hb1)
    have k0 : w2.cell? ⟨w.heap.size + 1, 0, none⟩ = some (.int .i64 z0) := hE2.cell (cell_of_row _ _ _ _ _ _ hb2)
    have k1 : w2.cell? ⟨w.heap.size + 1, 1, none⟩ = some (.int .i64 z1) := hE2.cell (cell_of_row _ _ _ _ _ _ hb2)
    have HE2 := Lib.hid (hE0.trans hE2)
    clear hE0 hE2 hb1 hb2
    go_wp2_with fail
    refine (Hx.out _ HE2.out).mono ?_
    rintro e w3 ⟨v1, rfl, hv1, hE3⟩
    have m0 := hE3.cell l0
    have m1 := hE3.cell l1
    have m2 := hE3.cell k0
    have m3 := hE3.cell k1
    have HE3 := Lib.hid (HE2.out.trans hE3)
    have Hv1 := Lib.hid hv1
    clear hE3 hv1 l0 l1 k0 k1
    go_wp2_with fail
    refine (Hy.out _ HE3.out).mono ?_
    rintro e w4 ⟨v2, rfl, hv2, hE4⟩
    have HE4 := Lib.hid (HE3.out.trans hE4)
    have Hv1' := Lib.hid (Hv1.out.ext hE4)
    have Hv2 := Lib.hid hv2
    clear hE4 hv2 m0 m1 m2 m3 Hv1
    go_wp2_with fail
    refine (Hal.out _).mono ?_
    rintro e w5 ⟨rfl, hE5⟩
    have HE5 := Lib.hid (HE4.out.trans hE5)
    by_cases h0 : e0 = 0
    · by_cases h1 : e1 = 0
      · have hL := Hsame.out h0 h1
        subst h0
        subst h1
        subst hL
        have Hpl := Lib.hid (RowI.same ⟨Hv1'.out.ext hE5⟩ ⟨Hv2.out.ext hE5⟩ (by omega))
        clear hE5 Hv1' Hv2
        go_wp2_with fail
        refine Hpl.out.mono ?_
        rintro e w6 ⟨rfl, hE6⟩
        have HE6 := Lib.hid (HE5.out.trans hE6)
        clear hE6
        go_wp2_with fail
        go_ret
        exact ⟨rfl, HE6.out⟩
      · subst h0
        clear hE5 Hv1' Hv2
        go_wp2_with fail
        go_ret
        exact ⟨rfl, HE5.out⟩
    · clear hE5 Hv1' Hv2
      go_wp2_with fail
      go_ret
      exact ⟨rfl, HE5.out⟩
  · rw [not_few hfew] at Hfew
    clear hfew hr hcls
    unfold leafVal at *
    go_enter Try.func7, Try.ntmps7
    go_wp2_with fail
    generalize (w.alloc (.cells #[.slice p n cap, .int .i64 K] 24)).alloc (.cells #[.int .i64 z0, .int .i64 z1] 47) = W at *
    refine (Hfew.out _).mono ?_
    rintro e w2 ⟨rfl, hE2⟩
    have HE2 := Lib.hid (hE0.trans hE2)
    clear hE0 hE2 hb1 hb2
    go_wp2_with fail
    refine (Hal.out _).mono ?_
    rintro e w3 ⟨rfl, hE3⟩
    go_wp2_with fail
    go_ret
    exact ⟨rfl, HE2.out.trans hE3⟩
end Go.Proofs.Ytmadelflnjhibaa
