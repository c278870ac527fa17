import Derived.Test.YtmadelflnjhibaaLawF
namespace Go.Proofs.Ytmadelflnjhibaa
open Go.RowKit
attribute [local go_sem] Cls.val clsNone clsAll

theorem byteV_left (a b : ByteArray) {i : Nat} (h : i < a.size) : byteV (a ++ b) i = byteV a i := by
  have h2 : i < (a ++ b).size := by rw [ByteArray.size_append]; omega
  rw [← byteV_eq h2, ← byteV_eq h, ByteArray.getElem_append_left h]
theorem byteV_right (a b : ByteArray) {i : Nat} (h : i < b.size) : byteV (a ++ b) (a.size + i) = byteV b i := by
  have h2 : a.size + i < (a ++ b).size := by rw [ByteArray.size_append]; omega
  rw [← byteV_eq h2, ← byteV_eq h, ByteArray.getElem_append_right (by omega)]
  simp
theorem missV_congr (f : Nat → Cls) (s t : ByteArray) (n i j : Nat) (h : ∀ u, u < n → byteV s (i + u) = byteV t (j + u)) : missV f s n i = missV f t n j := by
  unfold missV
  have key : ∀ k, k ≤ n → cnt (fun u => !has (f u) (byteV s (i + u))) k = cnt (fun u => !has (f u) (byteV t (j + u))) k := by
    intro k
    induction k with
    | zero => intro _; rfl
    | succ k ih =>
      intro hk
      unfold cnt
      rw [ih (by omega), h k (by omega)]
  exact key n (Nat.le_refl n)
theorem miss_left (f : Nat → Cls) (a b : ByteArray) (n i : Nat) (h : i + n ≤ a.size) : missV f (a ++ b) n i = missV f a n i :=
  missV_congr f _ _ n i i fun u hu => byteV_left a b (by omega)
theorem miss_right (f : Nat → Cls) (a b : ByteArray) (n i : Nat) (h : i + n ≤ b.size) : missV f (a ++ b) n (a.size + i) = missV f b n i :=
  missV_congr f _ _ n _ i fun u hu => by rw [Nat.add_assoc]; exact byteV_right a b (by omega)

set_option maxRecDepth 100000 in
set_option maxHeartbeats 4000000 in
theorem lawSpText (p : Option Addr) (n cap : Nat) (K : Int) (f : Nat → Cls) (hcap : n ≤ cap) (hcls : ∀ j, (f j).ok) (a b : ByteArray) (ha : a.size ≤ 140737488351232) (hb : b.size ≤ 140737488351232) (size least : Int) (_ : -9223372036854775808 ≤ least ∧ least ≤ 9223372036854775807) (w : World) (hr : RdC w p n f) :
    Calls Try.prog 14 #[leafVal p n cap K, .agg #[.string a, .string b], .agg #[.int .i64 size, .int .i64 least]] w fun e w' => e = .returned (.bool true) ∧ Ext w w' := by
  obtain ⟨hb1, hb2, hb3, hE0, -⟩ := box3 w (.cells #[.slice p n cap, .int .i64 K] 24) (.cells #[.string a, .string b] 61) (.cells #[.int .i64 size, .int .i64 least] 58)
  have Hfew := Lib.hid (fun W => few12_any p n cap K (a ++ b) W)
  have Hal := Lib.hid (fun W => alive12_any W)
  have hadd : ¬ (a.size + b.size > 9223372036854775807) := by omega
  have t0 := cell_of_row _ _ 0 _ _ _ hb2
  have t1 := cell_of_row _ _ 1 _ _ _ hb2
  have Hrt := Lib.hid (fun W (hW : Ext w W) (hn : n ≤ 100) => refright_any p n cap K f hcap (by omega) hcls W (hr.ext hW))
  by_cases hfew : n ≤ 100 ∧ (a ++ b).size ≤ 300
  · obtain ⟨hn, hs⟩ := hfew
    rw [decide_eq_true hn, decide_eq_true hs] at Hfew
    have Hrt := Lib.hid (fun W hW => Hrt.out W hW hn)
    cases hrr : rightB f n K
    · rw [hrr] at Hrt
      clear hr hcls hrr
      unfold leafVal at *
      go_enter Try.func14, Try.ntmps14
      go_wp2_with fail
      go_quiet (fail)
      have hE1 := hE0.drewN nq
      have hb1' : ((((w.alloc (.cells #[.slice p n cap, .int .i64 K] 24)).alloc (.cells #[.string a, .string b] 61)).alloc (.cells #[.int .i64 size, .int .i64 least] 58)).drewN nq).heap[w.heap.size]? = some (.cells #[.slice p n cap, .int .i64 K] 24 (0, 0)) := hb1
      have hb3' : ((((w.alloc (.cells #[.slice p n cap, .int .i64 K] 24)).alloc (.cells #[.string a, .string b] 61)).alloc (.cells #[.int .i64 size, .int .i64 least] 58)).drewN nq).heap[w.heap.size + 1 + 1]? = some (.cells #[.int .i64 size, .int .i64 least] 58 (0, 0)) := hb3
      generalize (((w.alloc (.cells #[.slice p n cap, .int .i64 K] 24)).alloc (.cells #[.string a, .string b] 61)).alloc (.cells #[.int .i64 size, .int .i64 least] 58)).drewN nq = W at *
      have l0 := cell_of_row _ _ 0 _ _ _ hb1'
      have l1 := cell_of_row _ _ 1 _ _ _ hb1'
      have k0 := cell_of_row _ _ 0 _ _ _ hb3'
      have k1 := cell_of_row _ _ 1 _ _ _ hb3'
      clear hb1 hb2 hb3 hb1' hb3' hE0 t0 t1
      go_wp2_with fail
      refine (Hfew.out _).mono ?_
      rintro e w2 ⟨rfl, hE2⟩
      have l0 := hE2.cell l0
      have l1 := hE2.cell l1
      have k0 := hE2.cell k0
      have k1 := hE2.cell k1
      have HE2 := Lib.hid (hE1.trans hE2)
      clear hE1 hE2
      go_wp2_with fail
      refine (Hrt.out _ HE2.out).mono ?_
      rintro e w3 ⟨rfl, hE3⟩
      have l0 := hE3.cell l0
      have l1 := hE3.cell l1
      have k0 := hE3.cell k0
      have k1 := hE3.cell k1
      have HE3 := Lib.hid (HE2.out.trans hE3)
      clear hE3 Hrt
      go_wp2_with fail
      refine (Hal.out _).mono ?_
      rintro e w9 ⟨rfl, hE9⟩
      go_wp2_with fail
      go_ret
      exact ⟨rfl, HE3.out.trans hE9⟩
    · rw [hrr] at Hrt
      have hab : (a ++ b).size = a.size + b.size := ByteArray.size_append ..
      by_cases hz : checkS f n K a.size size least = 0 ∧ checkS f n K b.size size least = 0 ∧ checkS f n K (a ++ b).size size least = 0
      · obtain ⟨hz1, hz2, hz3⟩ := hz
        have Hx : Hid (∀ W, Ext w W → Calls Try.prog 40 #[leafVal p n cap K, .string a, .int .i64 size, .int .i64 least] W fun e w' => ∃ g, e = .returned (.tuple #[.slice (some ⟨g, 0, none⟩) (sumsN n a.size) (sumsN n a.size), .int .i64 ((freqL f n least).length * kcount n a.size size), .int .i64 0]) ∧ Row w' 3 g (sumsN n a.size) (I fun i => missV f a n i) ∧ Ext W w') := fun W hW => spcounts_yes p n cap K f hcap (by omega) hcls a (by omega) size least W (hr.ext hW) hz1
        have Hy : Hid (∀ W, Ext w W → Calls Try.prog 40 #[leafVal p n cap K, .string b, .int .i64 size, .int .i64 least] W fun e w' => ∃ g, e = .returned (.tuple #[.slice (some ⟨g, 0, none⟩) (sumsN n b.size) (sumsN n b.size), .int .i64 ((freqL f n least).length * kcount n b.size size), .int .i64 0]) ∧ Row w' 3 g (sumsN n b.size) (I fun i => missV f b n i) ∧ Ext W w') := fun W hW => spcounts_yes p n cap K f hcap (by omega) hcls b (by omega) size least W (hr.ext hW) hz2
        have Hz : Hid (∀ W, Ext w W → Calls Try.prog 40 #[leafVal p n cap K, .string (a ++ b), .int .i64 size, .int .i64 least] W fun e w' => ∃ g, e = .returned (.tuple #[.slice (some ⟨g, 0, none⟩) (sumsN n (a ++ b).size) (sumsN n (a ++ b).size), .int .i64 ((freqL f n least).length * kcount n (a ++ b).size size), .int .i64 0]) ∧ Row w' 3 g (sumsN n (a ++ b).size) (I fun i => missV f (a ++ b) n i) ∧ Ext W w') := fun W hW => spcounts_yes p n cap K f hcap (by omega) hcls (a ++ b) (by omega) size least W (hr.ext hW) hz3
        obtain ⟨h1, _, _, _⟩ := rightB_true hrr
        have hle1 : sumsN n a.size ≤ sumsN n (a ++ b).size := by unfold sumsN; omega
        obtain ⟨d, hd⟩ : ∃ d : Nat, d + sumsN n b.size = sumsN n (a ++ b).size := ⟨sumsN n (a ++ b).size - sumsN n b.size, by unfold sumsN; omega⟩
        have hml : ∀ i, i < sumsN n a.size → missV f (a ++ b) n i = missV f a n i := fun i hi => miss_left f a b n i (by unfold sumsN at hi; omega)
        have hmr : ∀ i, i < sumsN n b.size → missV f (a ++ b) n (d + i) = missV f b n i := fun i hi => by
          have e : d = a.size := by unfold sumsN at hi hd; omega
          rw [e]
          exact miss_right f a b n i (by unfold sumsN at hi; omega)
        have hNb : sumsN n (a ++ b).size ≤ 301 := by unfold sumsN; omega
        generalize ((freqL f n least).length : Int) * kcount n a.size size = M1 at *
        generalize ((freqL f n least).length : Int) * kcount n b.size size = M2 at *
        generalize ((freqL f n least).length : Int) * kcount n (a ++ b).size size = M3 at *
        generalize sumsN n a.size = Na at *
        generalize sumsN n b.size = Nb at *
        generalize sumsN n (a ++ b).size = N3 at *
        have Hml := Lib.hid hml
        have Hmr := Lib.hid hmr
        have i1 : IntKind.i64.wrap ((N3 : Int) - Nb) = d := by rw [IntWalk.i64_in _ ⟨by omega, by omega⟩]; omega
        have c1 : (Na : Int) ≤ (N3 : Int) := by omega
        have c2 : (Nb : Int) ≤ (N3 : Int) := by omega
        have c3 : (d : Int) ≤ (N3 : Int) := by omega
        have c4 : (0 : Int) ≤ (d : Int) := by omega
        have c5 : (0 : Int) ≤ (Na : Int) := by omega
        have Hd := Lib.hid hd
        clear hr hcls hrr hz1 hz2 hz3 hml hmr hd
        unfold leafVal at *
        go_enter Try.func14, Try.ntmps14
        go_wp2_with fail
        go_quiet (fail)
        have hE1 := hE0.drewN nq
        have hb1' : ((((w.alloc (.cells #[.slice p n cap, .int .i64 K] 24)).alloc (.cells #[.string a, .string b] 61)).alloc (.cells #[.int .i64 size, .int .i64 least] 58)).drewN nq).heap[w.heap.size]? = some (.cells #[.slice p n cap, .int .i64 K] 24 (0, 0)) := hb1
        have hb3' : ((((w.alloc (.cells #[.slice p n cap, .int .i64 K] 24)).alloc (.cells #[.string a, .string b] 61)).alloc (.cells #[.int .i64 size, .int .i64 least] 58)).drewN nq).heap[w.heap.size + 1 + 1]? = some (.cells #[.int .i64 size, .int .i64 least] 58 (0, 0)) := hb3
        generalize (((w.alloc (.cells #[.slice p n cap, .int .i64 K] 24)).alloc (.cells #[.string a, .string b] 61)).alloc (.cells #[.int .i64 size, .int .i64 least] 58)).drewN nq = W at *
        have l0 := cell_of_row _ _ 0 _ _ _ hb1'
        have l1 := cell_of_row _ _ 1 _ _ _ hb1'
        have k0 := cell_of_row _ _ 0 _ _ _ hb3'
        have k1 := cell_of_row _ _ 1 _ _ _ hb3'
        clear hb1 hb2 hb3 hb1' hb3' hE0 t0 t1
        go_wp2_with fail
        refine (Hfew.out _).mono ?_
        rintro e w2 ⟨rfl, hE2⟩
        have l0 := hE2.cell l0
        have l1 := hE2.cell l1
        have k0 := hE2.cell k0
        have k1 := hE2.cell k1
        have HE2 := Lib.hid (hE1.trans hE2)
        clear hE1 hE2
        go_wp2_with fail
        refine (Hrt.out _ HE2.out).mono ?_
        rintro e w3 ⟨rfl, hE3⟩
        have l0 := hE3.cell l0
        have l1 := hE3.cell l1
        have k0 := hE3.cell k0
        have k1 := hE3.cell k1
        have HE3 := Lib.hid (HE2.out.trans hE3)
        clear hE3 Hrt
        go_wp2_with fail
        refine (Hx.out _ HE3.out).mono ?_
        rintro e w4 ⟨g1, rfl, hr1, hE4⟩
        have l0 := hE4.cell l0
        have l1 := hE4.cell l1
        have k0 := hE4.cell k0
        have k1 := hE4.cell k1
        have HE4 := Lib.hid (HE3.out.trans hE4)
        have Hr1 := Lib.hid hr1
        clear hE4 hr1
        go_wp2_with fail
        refine (Hy.out _ HE4.out).mono ?_
        rintro e w5 ⟨g2, rfl, hr2, hE5⟩
        have l0 := hE5.cell l0
        have l1 := hE5.cell l1
        have k0 := hE5.cell k0
        have k1 := hE5.cell k1
        have HE5 := Lib.hid (HE4.out.trans hE5)
        have Hr1b := Lib.hid (Hr1.out.ext hE5)
        have Hr2 := Lib.hid hr2
        clear hE5 hr2 Hr1
        go_wp2_with fail
        refine (Hz.out _ HE5.out).mono ?_
        rintro e w6 ⟨g3, rfl, hr3, hE6⟩
        have HE6 := Lib.hid (HE5.out.trans hE6)
        have Hr1c := Lib.hid (Hr1b.out.ext hE6)
        have Hr2b := Lib.hid (Hr2.out.ext hE6)
        have Hr3 := Lib.hid hr3
        clear hE6 l0 l1 k0 k1 hr3 Hr1b Hr2 Hx Hy Hz
        go_wp2_with fail
        refine (Hal.out _).mono ?_
        rintro e w7 ⟨rfl, hE7⟩
        have HE7 := Lib.hid (HE6.out.trans hE7)
        have Hr1d := Lib.hid (Hr1c.out.ext hE7)
        have Hr2c := Lib.hid (Hr2b.out.ext hE7)
        have Hr3b := Lib.hid (Hr3.out.ext hE7)
        clear hE7 Hr1c Hr2b Hr3
        go_wp2_with fail
        have S1 : RowI w7 (.slice (some ⟨g3, 0, none⟩) Na N3) Na (fun i => missV f a n i) := ⟨⟨_, _, rfl, by omega, (Hr3b.out.sub 0 Na (by omega)).congr fun j hj => by
          show Value.int .i64 ((missV f (a ++ b) n (0 + j) : Nat) : Int) = .int .i64 ((missV f a n j : Nat) : Int)
          rw [Nat.zero_add, Hml.out j hj]⟩⟩
        refine Calls.mono (RowI.same S1 ⟨Sl.of_row Hr1d.out⟩ (by omega)) ?_
        rintro e w8 ⟨rfl, hE8⟩
        have HE8 := Lib.hid (HE7.out.trans hE8)
        have Hr2d := Lib.hid (Hr2c.out.ext hE8)
        have Hr3c := Lib.hid (Hr3b.out.ext hE8)
        clear hE8 Hr1d Hr2c Hr3b S1
        go_wp2_with fail
        · have S2 : RowI w8 (.slice (some ⟨g3, 0, none⟩) 0 0) 0 (fun i => missV f b n i) := ⟨⟨_, _, rfl, Nat.le_refl _, .inl rfl⟩⟩
          have hS : Calls Try.prog 24 #[.slice (some ⟨g3, 0, none⟩) 0 0, .slice (some ⟨g2, 0, none⟩) Nb Nb] w8 fun e w' => e = .returned (.bool true) ∧ Ext w8 w' := by
            obtain rfl : Nb = 0 := by have := Hd.out; omega
            exact RowI.same S2 ⟨Sl.of_row Hr2d.out⟩ (by omega)
          refine Calls.mono hS ?_
          rintro e w9 ⟨rfl, hE9⟩
          have HE9 := Lib.hid (HE8.out.trans hE9)
          clear hE9 hS S2 Hr2d Hr3c
          go_wp2_with fail
          go_ret
          exact ⟨rfl, HE9.out⟩
        · rw [show N3 - d = Nb from by have := Hd.out; omega]
          have S2 : RowI w8 (.slice (some ⟨g3, d, none⟩) Nb Nb) Nb (fun i => missV f b n i) := ⟨⟨_, _, rfl, Nat.le_refl _, (Hr3c.out.sub d Nb (by have := Hd.out; omega)).congr fun j hj => by
            show Value.int .i64 ((missV f (a ++ b) n (d + j) : Nat) : Int) = .int .i64 ((missV f b n j : Nat) : Int)
            rw [Hmr.out j hj]⟩⟩
          refine Calls.mono (RowI.same S2 ⟨Sl.of_row Hr2d.out⟩ (by omega)) ?_
          rintro e w9 ⟨rfl, hE9⟩
          have HE9 := Lib.hid (HE8.out.trans hE9)
          clear hE9 S2 Hr2d Hr3c
          go_wp2_with fail
          go_ret
          exact ⟨rfl, HE9.out⟩
      · have Hx : Hid (∀ W, Ext w W → Calls Try.prog 40 #[leafVal p n cap K, .string a, .int .i64 size, .int .i64 least] W fun e w' => ∃ v, e = .returned (.tuple #[v, .int .i64 (cntsNS f n a.size size least (checkS f n K a.size size least)), .int .i64 (checkS f n K a.size size least)]) ∧ Ext W w') := fun W hW => (spcounts_all p n cap K f hcap (by omega) a (by omega) size least hcls W (hr.ext hW)).mono fun e w' ⟨v, h1, _, h2⟩ => ⟨v, h1, h2⟩
        have Hy : Hid (∀ W, Ext w W → Calls Try.prog 40 #[leafVal p n cap K, .string b, .int .i64 size, .int .i64 least] W fun e w' => ∃ v, e = .returned (.tuple #[v, .int .i64 (cntsNS f n b.size size least (checkS f n K b.size size least)), .int .i64 (checkS f n K b.size size least)]) ∧ Ext W w') := fun W hW => (spcounts_all p n cap K f hcap (by omega) b (by omega) size least hcls W (hr.ext hW)).mono fun e w' ⟨v, h1, _, h2⟩ => ⟨v, h1, h2⟩
        have Hz : Hid (∀ W, Ext w W → Calls Try.prog 40 #[leafVal p n cap K, .string (a ++ b), .int .i64 size, .int .i64 least] W fun e w' => ∃ v, e = .returned (.tuple #[v, .int .i64 (cntsNS f n (a ++ b).size size least (checkS f n K (a ++ b).size size least)), .int .i64 (checkS f n K (a ++ b).size size least)]) ∧ Ext W w') := fun W hW => (spcounts_all p n cap K f hcap (by omega) (a ++ b) (by omega) size least hcls W (hr.ext hW)).mono fun e w' ⟨v, h1, _, h2⟩ => ⟨v, h1, h2⟩
        generalize cntsNS f n a.size size least (checkS f n K a.size size least) = N1 at *
        generalize cntsNS f n b.size size least (checkS f n K b.size size least) = N2 at *
        generalize cntsNS f n (a ++ b).size size least (checkS f n K (a ++ b).size size least) = N3 at *
        generalize checkS f n K a.size size least = z1 at *
        generalize checkS f n K b.size size least = z2 at *
        generalize checkS f n K (a ++ b).size size least = z3 at *
        have hzz : z1 ≠ 0 ∨ (z1 = 0 ∧ z2 ≠ 0) ∨ (z1 = 0 ∧ z2 = 0 ∧ z3 ≠ 0) := by
          by_cases h1 : z1 = 0
          · by_cases h2 : z2 = 0
            · exact .inr (.inr ⟨h1, h2, fun h3 => hz ⟨h1, h2, h3⟩⟩)
            · exact .inr (.inl ⟨h1, h2⟩)
          · exact .inl h1
        clear hr hcls hrr hz
        rcases hzz with hz1 | ⟨hz1, hz2⟩ | ⟨hz1, hz2, hz3⟩
        · skip
          unfold leafVal at *
          go_enter Try.func14, Try.ntmps14
          go_wp2_with fail
          go_quiet (fail)
          have hE1 := hE0.drewN nq
          have hb1' : ((((w.alloc (.cells #[.slice p n cap, .int .i64 K] 24)).alloc (.cells #[.string a, .string b] 61)).alloc (.cells #[.int .i64 size, .int .i64 least] 58)).drewN nq).heap[w.heap.size]? = some (.cells #[.slice p n cap, .int .i64 K] 24 (0, 0)) := hb1
          have hb3' : ((((w.alloc (.cells #[.slice p n cap, .int .i64 K] 24)).alloc (.cells #[.string a, .string b] 61)).alloc (.cells #[.int .i64 size, .int .i64 least] 58)).drewN nq).heap[w.heap.size + 1 + 1]? = some (.cells #[.int .i64 size, .int .i64 least] 58 (0, 0)) := hb3
          generalize (((w.alloc (.cells #[.slice p n cap, .int .i64 K] 24)).alloc (.cells #[.string a, .string b] 61)).alloc (.cells #[.int .i64 size, .int .i64 least] 58)).drewN nq = W at *
          have l0 := cell_of_row _ _ 0 _ _ _ hb1'
          have l1 := cell_of_row _ _ 1 _ _ _ hb1'
          have k0 := cell_of_row _ _ 0 _ _ _ hb3'
          have k1 := cell_of_row _ _ 1 _ _ _ hb3'
          clear hb1 hb2 hb3 hb1' hb3' hE0 t0 t1
          go_wp2_with fail
          refine (Hfew.out _).mono ?_
          rintro e w2 ⟨rfl, hE2⟩
          have l0 := hE2.cell l0
          have l1 := hE2.cell l1
          have k0 := hE2.cell k0
          have k1 := hE2.cell k1
          have HE2 := Lib.hid (hE1.trans hE2)
          clear hE1 hE2
          go_wp2_with fail
          refine (Hrt.out _ HE2.out).mono ?_
          rintro e w3 ⟨rfl, hE3⟩
          have l0 := hE3.cell l0
          have l1 := hE3.cell l1
          have k0 := hE3.cell k0
          have k1 := hE3.cell k1
          have HE3 := Lib.hid (HE2.out.trans hE3)
          clear hE3 Hrt
          go_wp2_with fail
          refine (Hx.out _ HE3.out).mono ?_
          rintro e w4 ⟨v1, rfl, hE4⟩
          have l0 := hE4.cell l0
          have l1 := hE4.cell l1
          have k0 := hE4.cell k0
          have k1 := hE4.cell k1
          have HE4 := Lib.hid (HE3.out.trans hE4)
          clear hE4
          go_wp2_with fail
          refine (Hy.out _ HE4.out).mono ?_
          rintro e w5 ⟨v2, rfl, hE5⟩
          have l0 := hE5.cell l0
          have l1 := hE5.cell l1
          have k0 := hE5.cell k0
          have k1 := hE5.cell k1
          have HE5 := Lib.hid (HE4.out.trans hE5)
          clear hE5
          go_wp2_with fail
          refine (Hz.out _ HE5.out).mono ?_
          rintro e w6 ⟨v3, rfl, hE6⟩
          have HE6 := Lib.hid (HE5.out.trans hE6)
          clear hE6 l0 l1 k0 k1
          go_wp2_with fail
          refine (Hal.out _).mono ?_
          rintro e w9 ⟨rfl, hE9⟩
          go_wp2_with fail
          go_ret
          exact ⟨rfl, HE6.out.trans hE9⟩
        · subst hz1
          unfold leafVal at *
          go_enter Try.func14, Try.ntmps14
          go_wp2_with fail
          go_quiet (fail)
          have hE1 := hE0.drewN nq
          have hb1' : ((((w.alloc (.cells #[.slice p n cap, .int .i64 K] 24)).alloc (.cells #[.string a, .string b] 61)).alloc (.cells #[.int .i64 size, .int .i64 least] 58)).drewN nq).heap[w.heap.size]? = some (.cells #[.slice p n cap, .int .i64 K] 24 (0, 0)) := hb1
          have hb3' : ((((w.alloc (.cells #[.slice p n cap, .int .i64 K] 24)).alloc (.cells #[.string a, .string b] 61)).alloc (.cells #[.int .i64 size, .int .i64 least] 58)).drewN nq).heap[w.heap.size + 1 + 1]? = some (.cells #[.int .i64 size, .int .i64 least] 58 (0, 0)) := hb3
          generalize (((w.alloc (.cells #[.slice p n cap, .int .i64 K] 24)).alloc (.cells #[.string a, .string b] 61)).alloc (.cells #[.int .i64 size, .int .i64 least] 58)).drewN nq = W at *
          have l0 := cell_of_row _ _ 0 _ _ _ hb1'
          have l1 := cell_of_row _ _ 1 _ _ _ hb1'
          have k0 := cell_of_row _ _ 0 _ _ _ hb3'
          have k1 := cell_of_row _ _ 1 _ _ _ hb3'
          clear hb1 hb2 hb3 hb1' hb3' hE0 t0 t1
          go_wp2_with fail
          refine (Hfew.out _).mono ?_
          rintro e w2 ⟨rfl, hE2⟩
          have l0 := hE2.cell l0
          have l1 := hE2.cell l1
          have k0 := hE2.cell k0
          have k1 := hE2.cell k1
          have HE2 := Lib.hid (hE1.trans hE2)
          clear hE1 hE2
          go_wp2_with fail
          refine (Hrt.out _ HE2.out).mono ?_
          rintro e w3 ⟨rfl, hE3⟩
          have l0 := hE3.cell l0
          have l1 := hE3.cell l1
          have k0 := hE3.cell k0
          have k1 := hE3.cell k1
          have HE3 := Lib.hid (HE2.out.trans hE3)
          clear hE3 Hrt
          go_wp2_with fail
          refine (Hx.out _ HE3.out).mono ?_
          rintro e w4 ⟨v1, rfl, hE4⟩
          have l0 := hE4.cell l0
          have l1 := hE4.cell l1
          have k0 := hE4.cell k0
          have k1 := hE4.cell k1
          have HE4 := Lib.hid (HE3.out.trans hE4)
          clear hE4
          go_wp2_with fail
          refine (Hy.out _ HE4.out).mono ?_
          rintro e w5 ⟨v2, rfl, hE5⟩
          have l0 := hE5.cell l0
          have l1 := hE5.cell l1
          have k0 := hE5.cell k0
          have k1 := hE5.cell k1
          have HE5 := Lib.hid (HE4.out.trans hE5)
          clear hE5
          go_wp2_with fail
          refine (Hz.out _ HE5.out).mono ?_
          rintro e w6 ⟨v3, rfl, hE6⟩
          have HE6 := Lib.hid (HE5.out.trans hE6)
          clear hE6 l0 l1 k0 k1
          go_wp2_with fail
          refine (Hal.out _).mono ?_
          rintro e w9 ⟨rfl, hE9⟩
          go_wp2_with fail
          go_ret
          exact ⟨rfl, HE6.out.trans hE9⟩
        · subst hz1 hz2
          unfold leafVal at *
          go_enter Try.func14, Try.ntmps14
          go_wp2_with fail
          go_quiet (fail)
          have hE1 := hE0.drewN nq
          have hb1' : ((((w.alloc (.cells #[.slice p n cap, .int .i64 K] 24)).alloc (.cells #[.string a, .string b] 61)).alloc (.cells #[.int .i64 size, .int .i64 least] 58)).drewN nq).heap[w.heap.size]? = some (.cells #[.slice p n cap, .int .i64 K] 24 (0, 0)) := hb1
          have hb3' : ((((w.alloc (.cells #[.slice p n cap, .int .i64 K] 24)).alloc (.cells #[.string a, .string b] 61)).alloc (.cells #[.int .i64 size, .int .i64 least] 58)).drewN nq).heap[w.heap.size + 1 + 1]? = some (.cells #[.int .i64 size, .int .i64 least] 58 (0, 0)) := hb3
          generalize (((w.alloc (.cells #[.slice p n cap, .int .i64 K] 24)).alloc (.cells #[.string a, .string b] 61)).alloc (.cells #[.int .i64 size, .int .i64 least] 58)).drewN nq = W at *
          have l0 := cell_of_row _ _ 0 _ _ _ hb1'
          have l1 := cell_of_row _ _ 1 _ _ _ hb1'
          have k0 := cell_of_row _ _ 0 _ _ _ hb3'
          have k1 := cell_of_row _ _ 1 _ _ _ hb3'
          clear hb1 hb2 hb3 hb1' hb3' hE0 t0 t1
          go_wp2_with fail
          refine (Hfew.out _).mono ?_
          rintro e w2 ⟨rfl, hE2⟩
          have l0 := hE2.cell l0
          have l1 := hE2.cell l1
          have k0 := hE2.cell k0
          have k1 := hE2.cell k1
          have HE2 := Lib.hid (hE1.trans hE2)
          clear hE1 hE2
          go_wp2_with fail
          refine (Hrt.out _ HE2.out).mono ?_
          rintro e w3 ⟨rfl, hE3⟩
          have l0 := hE3.cell l0
          have l1 := hE3.cell l1
          have k0 := hE3.cell k0
          have k1 := hE3.cell k1
          have HE3 := Lib.hid (HE2.out.trans hE3)
          clear hE3 Hrt
          go_wp2_with fail
          refine (Hx.out _ HE3.out).mono ?_
          rintro e w4 ⟨v1, rfl, hE4⟩
          have l0 := hE4.cell l0
          have l1 := hE4.cell l1
          have k0 := hE4.cell k0
          have k1 := hE4.cell k1
          have HE4 := Lib.hid (HE3.out.trans hE4)
          clear hE4
          go_wp2_with fail
          refine (Hy.out _ HE4.out).mono ?_
          rintro e w5 ⟨v2, rfl, hE5⟩
          have l0 := hE5.cell l0
          have l1 := hE5.cell l1
          have k0 := hE5.cell k0
          have k1 := hE5.cell k1
          have HE5 := Lib.hid (HE4.out.trans hE5)
          clear hE5
          go_wp2_with fail
          refine (Hz.out _ HE5.out).mono ?_
          rintro e w6 ⟨v3, rfl, hE6⟩
          have HE6 := Lib.hid (HE5.out.trans hE6)
          clear hE6 l0 l1 k0 k1
          go_wp2_with fail
          refine (Hal.out _).mono ?_
          rintro e w9 ⟨rfl, hE9⟩
          go_wp2_with fail
          go_ret
          exact ⟨rfl, HE6.out.trans hE9⟩
  · rw [not_few hfew] at Hfew
    clear hfew hr hcls Hrt
    unfold leafVal at *
    go_enter Try.func14, Try.ntmps14
    go_wp2_with fail
    go_quiet (fail)
    have hE1 := hE0.drewN nq
    have hb1' : ((((w.alloc (.cells #[.slice p n cap, .int .i64 K] 24)).alloc (.cells #[.string a, .string b] 61)).alloc (.cells #[.int .i64 size, .int .i64 least] 58)).drewN nq).heap[w.heap.size]? = some (.cells #[.slice p n cap, .int .i64 K] 24 (0, 0)) := hb1
    have hb3' : ((((w.alloc (.cells #[.slice p n cap, .int .i64 K] 24)).alloc (.cells #[.string a, .string b] 61)).alloc (.cells #[.int .i64 size, .int .i64 least] 58)).drewN nq).heap[w.heap.size + 1 + 1]? = some (.cells #[.int .i64 size, .int .i64 least] 58 (0, 0)) := hb3
    generalize (((w.alloc (.cells #[.slice p n cap, .int .i64 K] 24)).alloc (.cells #[.string a, .string b] 61)).alloc (.cells #[.int .i64 size, .int .i64 least] 58)).drewN nq = W at *
    have l0 := cell_of_row _ _ 0 _ _ _ hb1'
    have l1 := cell_of_row _ _ 1 _ _ _ hb1'
    have k0 := cell_of_row _ _ 0 _ _ _ hb3'
    have k1 := cell_of_row _ _ 1 _ _ _ hb3'
    clear hb1 hb2 hb3 hb1' hb3' hE0 t0 t1
    go_wp2_with fail
    refine (Hfew.out _).mono ?_
    rintro e w2 ⟨rfl, hE2⟩
    have HE2 := Lib.hid (hE1.trans hE2)
    clear hE1 hE2 l0 l1 k0 k1
    go_wp2_with fail
    refine (Hal.out _).mono ?_
    rintro e w3 ⟨rfl, hE3⟩
    go_wp2_with fail
    go_ret
    exact ⟨rfl, HE2.out.trans hE3⟩
end Go.Proofs.Ytmadelflnjhibaa
