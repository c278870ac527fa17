import Derived.Test.YtmadelflnjhibaaLawF
namespace Go.Proofs.Ytmadelflnjhibaa
open Go.RowKit
attribute [local go_sem] Cls.val clsNone clsAll

theorem filter_both {α : Type} (p : α → Bool) : ∀ l : List α, (l.filter p).length + (l.filter fun c => !p c).length = l.length
  | [] => rfl
  | a :: l => by
    have ih := filter_both p l
    cases h : p a <;> simp [h] <;> omega
theorem parts_len (f : Nat → Cls) (n : Nat) (least : Int) : (freqL f n least).length + (rareL f n least).length = (kindsV f n).length := filter_both _ _

structure ClsS (W : World) (v : Value) (ks : List Cls) : Prop where
  out : ∃ p cap, v = .slice p ks.length cap ∧ ks.length ≤ cap ∧ RdC W p ks.length fun j => ks.getD j clsNone
theorem ClsS.ext {W W' : World} {v : Value} {ks : List Cls} (h : ClsS W v ks) (he : Ext W W') : ClsS W' v ks := by
  obtain ⟨p, cap, h1, h2, h3⟩ := h
  exact ⟨p, cap, h1, h2, h3.ext he⟩
theorem ClsS.same {W : World} {v v' : Value} {ks : List Cls} (h : ClsS W v ks) (h' : ClsS W v' ks) (hn : ks.length ≤ 1099511627777) :
    Calls Try.prog 36 #[v, v'] W fun e w' => e = .returned (.bool true) ∧ Ext W w' := by
  obtain ⟨p, cap, rfl, h2, h3⟩ := h
  obtain ⟨q, cap', rfl, k2, k3⟩ := h'
  have h := classes_same ks.length ks.length _ _ hn hn p q cap cap' h2 k2 W h3 k3
  rwa [sameC_iff.2 ⟨rfl, fun _ _ => rfl⟩] at h
theorem ClsS.of_row {W : World} {base : Nat} {v : Value} {ks : List Cls} (h : ClsRow W base v ks) : ClsS W v ks := by
  obtain ⟨p, cap, h1, h2, _, h4⟩ := h.rd
  exact ⟨p, cap, h1, h2, h4⟩

set_option maxRecDepth 100000 in
set_option maxHeartbeats 4000000 in
theorem lawSpParts (p : Option Addr) (n cap : Nat) (K : Int) (f : Nat → Cls) (hcap : n ≤ cap) (hcls : ∀ j, (f j).ok) (least : Int) (w : World) (hr : RdC w p n f) :
    Calls Try.prog 9 #[leafVal p n cap K, .int .i64 least] w fun e w' => e = .returned (.bool true) ∧ Ext w w' := by
  have hb1 := heap_alloc_new w (.cells #[.slice p n cap, .int .i64 K] 24)
  have hE0 := (Ext.refl w).alloc (.cells #[.slice p n cap, .int .i64 K] 24)
  have Hfew : Hid (∀ W, Calls Try.prog 33 #[leafVal p n cap K, .string ⟨#[]⟩] W fun e w' => e = .returned (.bool (decide (n ≤ 100) && decide ((⟨#[]⟩ : ByteArray).size ≤ 300))) ∧ Ext W w') := fun W => few12_any p n cap K ⟨#[]⟩ W
  rw [show decide ((⟨#[]⟩ : ByteArray).size ≤ 300) = true from rfl, Bool.and_true] at Hfew
  have Hal := Lib.hid (fun W => alive12_any W)
  by_cases hn : n ≤ 100
  · rw [decide_eq_true hn] at Hfew
    have Hpa := Lib.hid (fun W (hW : Ext w W) => parts_any p n cap K f hcap (by omega) hcls least W (hr.ext hW))
    have Ht := Lib.hid (fun W (hW : Ext w W) => refpart_any p n cap K f hcap (by omega) hcls least true W (hr.ext hW))
    have Hf := Lib.hid (fun W (hW : Ext w W) => refpart_any p n cap K f hcap (by omega) hcls least false W (hr.ext hW))
    have Hk := Lib.hid (fun W (hW : Ext w W) => kinds_any p n cap K f hcap (by omega) W (hr.ext hW))
    rw [partL_true] at Ht
    rw [partL_false] at Hf
    have hlen := parts_len f n least
    have hkl := kindsV_len f n
    generalize freqL f n least = fl at *
    generalize rareL f n least = rl at *
    generalize kindsV f n = kl at *
    have Hlen := Lib.hid hlen
    have hfl : fl.length ≤ 100 := by omega
    have hrl : rl.length ≤ 100 := by omega
    have i1 : IntKind.i64.wrap ((fl.length : Int) + rl.length) = kl.length := by rw [IntWalk.i64_in _ ⟨by omega, by omega⟩]; omega
    clear hr hcls hlen
    unfold leafVal at *
    go_enter Try.func9, Try.ntmps9
    go_wp2_with fail
    generalize w.alloc (.cells #[.slice p n cap, .int .i64 K] 24) = W at *
    refine (Hfew.out _).mono ?_
    rintro e w2 ⟨rfl, hE2⟩
    have l0 : w2.cell? ⟨w.heap.size, 0, none⟩ = some (.slice p n cap) := hE2.cell (cell_of_row _ _ _ _ _ _ hb1)
    have l1 : w2.cell? ⟨w.heap.size, 1, none⟩ = some (.int .i64 K) := hE2.cell (cell_of_row _ _ _ _ _ _ hb1)
    have HE2 := Lib.hid (hE0.trans hE2)
    clear hE0 hE2 hb1
    go_wp2_with fail
    refine (Hpa.out _ HE2.out).mono ?_
    rintro e w3 ⟨p1, c1, p2, c2, rfl, hc1, hc2, hr1, hr2, hE3⟩
    have m0 := hE3.cell l0
    have m1 := hE3.cell l1
    have HE3 := Lib.hid (HE2.out.trans hE3)
    have Hv1 : Hid (ClsS w3 (.slice p1 fl.length c1) fl) := ⟨_, _, rfl, hc1, hr1⟩
    have Hv2 : Hid (ClsS w3 (.slice p2 rl.length c2) rl) := ⟨_, _, rfl, hc2, hr2⟩
    clear hE3 hr1 hr2 l0 l1
    go_wp2_with fail
    refine (Hal.out _).mono ?_
    rintro e w4 ⟨rfl, hE4⟩
    have n0 := hE4.cell m0
    have n1 := hE4.cell m1
    have HE4 := Lib.hid (HE3.out.trans hE4)
    have Hw1 := Lib.hid (Hv1.out.ext hE4)
    have Hw2 := Lib.hid (Hv2.out.ext hE4)
    clear hE4 m0 m1 Hv1 Hv2
    go_wp2_with fail
    refine (Ht.out _ HE4.out).mono ?_
    rintro e w5 ⟨v5, rfl, hv5, hE5⟩
    have o0 := hE5.cell n0
    have o1 := hE5.cell n1
    have HE5 := Lib.hid (HE4.out.trans hE5)
    have Hc1 := Lib.hid (ClsS.same (Hw1.out.ext hE5) (ClsS.of_row hv5) (by omega))
    have Hx2 := Lib.hid (Hw2.out.ext hE5)
    clear hE5 n0 n1 hv5 Hw1 Hw2
    go_wp2_with fail
    refine Hc1.out.mono ?_
    rintro e w6 ⟨rfl, hE6⟩
    have r0 := hE6.cell o0
    have r1 := hE6.cell o1
    have HE6 := Lib.hid (HE5.out.trans hE6)
    have Hy2 := Lib.hid (Hx2.out.ext hE6)
    clear hE6 o0 o1 Hx2 Hc1
    go_wp2_with fail
    refine (Hf.out _ HE6.out).mono ?_
    rintro e w7 ⟨v7, rfl, hv7, hE7⟩
    have s0 := hE7.cell r0
    have s1 := hE7.cell r1
    have HE7 := Lib.hid (HE6.out.trans hE7)
    have Hc2 := Lib.hid (ClsS.same (Hy2.out.ext hE7) (ClsS.of_row hv7) (by omega))
    clear hE7 r0 r1 hv7 Hy2
    go_wp2_with fail
    refine Hc2.out.mono ?_
    rintro e w8 ⟨rfl, hE8⟩
    have t0 := hE8.cell s0
    have t1 := hE8.cell s1
    have HE8 := Lib.hid (HE7.out.trans hE8)
    clear hE8 s0 s1 Hc2
    go_wp2_with fail
    refine (Hk.out _ HE8.out).mono ?_
    rintro e w9 ⟨v9, rfl, hv9, hE9⟩
    obtain ⟨pv9, cv9, rfl, hcv9, _, _⟩ := hv9.rd
    have HE9 := Lib.hid (HE8.out.trans hE9)
    clear hE9 t0 t1 hv9
    go_wp2_with fail
    go_ret
    exact ⟨rfl, HE9.out⟩
  · rw [decide_eq_false hn] at Hfew
    clear hr hcls
    unfold leafVal at *
    go_enter Try.func9, Try.ntmps9
    go_wp2_with fail
    generalize w.alloc (.cells #[.slice p n cap, .int .i64 K] 24) = W at *
    refine (Hfew.out _).mono ?_
    rintro e w2 ⟨rfl, hE2⟩
    have HE2 := Lib.hid (hE0.trans hE2)
    clear hE0 hE2 hb1
    go_wp2_with fail
    refine (Hal.out _).mono ?_
    rintro e w3 ⟨rfl, hE3⟩
    go_wp2_with fail
    go_ret
    exact ⟨rfl, HE2.out.trans hE3⟩
end Go.Proofs.Ytmadelflnjhibaa
