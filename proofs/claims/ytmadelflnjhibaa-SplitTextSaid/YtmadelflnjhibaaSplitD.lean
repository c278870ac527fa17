import Derived.Test.YtmadelflnjhibaaSplitC
import Derived.Test.YtmadelflnjhibaaLawA
namespace Go.Proofs.Ytmadelflnjhibaa
open Go.RowKit Go.Shelf
attribute [local go_sem] Cls.val clsNone clsAll

set_option maxRecDepth 100000 in
set_option maxHeartbeats 2000000 in
theorem spcounts_err (p : Option Addr) (n cap : Nat) (K : Int) (f : Nat → Cls) (hcap : n ≤ cap) (hn : n ≤ 1099511627776) (s : ByteArray) (hs : s.size ≤ 1099511627776) (size least : Int) (hcls : ∀ j, (f j).ok) (w : World) (hr : RdC w p n f) (hck : checkS f n K s.size size least ≠ 0) :
    Calls Try.prog 40 #[leafVal p n cap K, .string s, .int .i64 size, .int .i64 least] w fun e w' => e = .returned (.tuple #[.slice none 0 0, .int .i64 0, .int .i64 (checkS f n K s.size size least)]) ∧ Ext w w' := by
  have hnew := heap_alloc_new w (.cells #[.slice p n cap, .int .i64 K] 24)
  have hE0 := (Ext.refl w).alloc (.cells #[.slice p n cap, .int .i64 K] 24)
  have Hpa := Lib.hid (fun W (hW : Ext w W) => parts_any p n cap K f hcap hn hcls least W (hr.ext hW))
  have Hck := Lib.hid (fun W (hW : Ext w W) => spcheck_any p n cap K f hcap hn hcls s hs size (freqL f n least).length (checkS f n K s.size size least) rfl W (hr.ext hW))
  generalize checkS f n K s.size size least = z at *
  generalize freqL f n least = ks at *
  generalize rareL f n least = rl at *
  clear hr hcls
  unfold leafVal at *
  go_enter Try.func40, Try.ntmps40
  go_wp2_with fail
  generalize w.alloc (.cells #[.slice p n cap, .int .i64 K] 24) = W at *
  have l0 : W.cell? ⟨w.heap.size, 0, none⟩ = some (.slice p n cap) := cell_of_row _ _ _ _ _ _ hnew
  have l1 : W.cell? ⟨w.heap.size, 1, none⟩ = some (.int .i64 K) := cell_of_row _ _ _ _ _ _ hnew
  refine (Hpa.out _ hE0).mono ?_
  rintro e w2 ⟨p1, c1, p2, c2, rfl, hc1, hc2, -, -, hE2⟩
  have m0 := hE2.cell l0
  have m1 := hE2.cell l1
  have HE2 := Lib.hid (hE0.trans hE2)
  clear hE0 hE2 l0 l1 hnew
  go_wp2_with fail
  refine (Hck.out _ HE2.out).mono ?_
  rintro e w3 ⟨rfl, hE3⟩
  have HE3 := Lib.hid (HE2.out.trans hE3)
  clear hE3 m0 m1 Hck Hpa
  go_wp2_with fail
  go_ret3
  exact ⟨rfl, HE3.out⟩

theorem checkS_zero {f : Nat → Cls} {n tn : Nat} {K size least : Int} (hz : checkS f n K tn size least = 0) : rightB f n K = true ∧ (freqL f n least).length * count0 n tn size = (freqL f n least).length * kcount n tn size := by
  unfold checkS at hz
  cases h : rightB f n K
  · rw [h, Bool.false_and, if_neg (by decide)] at hz; exact absurd hz (by decide)
  · refine ⟨rfl, ?_⟩
    cases h2 : plainB f n
    · rw [h2, Bool.and_false, if_neg (by decide)] at hz; exact absurd hz (by decide)
    · rw [h, h2] at hz
      by_cases h3 : 0 < (freqL f n least).length
      · rw [count0_ok]
        intro h4
        unfold amissB at hz
        rw [decide_eq_true h3, decide_eq_true h4] at hz
        cases h5 : szOk n size
        · rw [h5] at hz; exact absurd hz (by decide)
        · rfl
      · rw [show (freqL f n least).length = 0 by omega]
        simp

/-- split.Counts tells what the document's counts tell. -/
theorem spcounts_all (p : Option Addr) (n cap : Nat) (K : Int) (f : Nat → Cls) (hcap : n ≤ cap) (hn : n ≤ 1099511627776) (s : ByteArray) (hs : s.size ≤ 1099511627776) (size least : Int) (hcls : ∀ j, (f j).ok) (w : World) (hr : RdC w p n f) :
    Calls Try.prog 40 #[leafVal p n cap K, .string s, .int .i64 size, .int .i64 least] w fun e w' =>
      ∃ v, e = .returned (.tuple #[v, .int .i64 (cntsNS f n s.size size least (checkS f n K s.size size least)), .int .i64 (checkS f n K s.size size least)]) ∧ Sl w' v (cntsL f s n K (checkS f n K s.size size least)).length (I (IL (cntsL f s n K (checkS f n K s.size size least)))) ∧ Ext w w' := by
  by_cases hz : checkS f n K s.size size least = 0
  · refine (spcounts_yes p n cap K f hcap hn hcls s hs size least w hr hz).mono ?_
    rintro e w' ⟨g, rfl, hrow, hE⟩
    obtain ⟨h1, h2⟩ := checkS_zero hz
    rw [hz]
    have hL : cntsL f s n K 0 = (List.range (sumsN n s.size)).map (missV f s n) := (if_pos rfl).trans (countsL_eq f s n K h1)
    have hC : cntsNS f n s.size size least 0 = (freqL f n least).length * kcount n s.size size := (if_pos rfl).trans h2
    rw [hC]
    refine ⟨_, rfl, ?_, hE⟩
    rw [hL, List.length_map, List.length_range]
    refine (Sl.of_row hrow).congr fun j hj => ?_
    unfold I
    rw [IL_map _ _ _ hj]
  · refine (spcounts_err p n cap K f hcap hn s hs size least hcls w hr hz).mono ?_
    rintro e w' ⟨rfl, hE⟩
    have hN : cntsNS f n s.size size least (checkS f n K s.size size least) = 0 := if_neg hz
    have hL : cntsL f s n K (checkS f n K s.size size least) = [] := if_neg hz
    rw [hN, hL]
    exact ⟨_, rfl, Sl.nil _ _, hE⟩

set_option maxRecDepth 100000 in
set_option maxHeartbeats 4000000 in
theorem spfind_all (p : Option Addr) (n cap : Nat) (K : Int) (f : Nat → Cls) (hcap : n ≤ cap) (hn : n ≤ 1099511627776) (s : ByteArray) (hs : s.size ≤ 1099511627776) (size least : Int) (hcls : ∀ j, (f j).ok) (w : World) (hr : RdC w p n f) :
    Calls Try.prog 42 #[leafVal p n cap K, .string s, .int .i64 size, .int .i64 least] w fun e w' =>
      ∃ v, e = .returned (.tuple #[v, .int .i64 (cntsNS f n s.size size least (checkS f n K s.size size least)), .int .i64 (checkS f n K s.size size least)]) ∧ Sl w' v (fndL f s n K (checkS f n K s.size size least)).length (I (IL (fndL f s n K (checkS f n K s.size size least)))) ∧ Ext w w' := by
  have hnew := heap_alloc_new w (.cells #[.slice p n cap, .int .i64 K] 24)
  have hE0 := (Ext.refl w).alloc (.cells #[.slice p n cap, .int .i64 K] 24)
  have Hco := Lib.hid (fun W (hW : Ext w W) => spcounts_all p n cap K f hcap hn s hs size least hcls W (hr.ext hW))
  have hlen : (cntsL f s n K (checkS f n K s.size size least)).length ≤ s.size + 1 := by
    unfold cntsL
    split
    · exact countsL_len f s n K _
    · simp
  have hN : checkS f n K s.size size least ≠ 0 → cntsNS f n s.size size least (checkS f n K s.size size least) = 0 ∧ cntsL f s n K (checkS f n K s.size size least) = [] := fun h => ⟨if_neg h, if_neg h⟩
  unfold fndL
  generalize cntsL f s n K (checkS f n K s.size size least) = L at *
  generalize cntsNS f n s.size size least (checkS f n K s.size size least) = N at *
  generalize checkS f n K s.size size least = z at *
  clear hr hcls
  unfold leafVal at *
  by_cases hz : z = 0
  · subst hz
    clear hN
    go_enter Try.func42, Try.ntmps42
    go_wp2_with fail
    generalize w.alloc (.cells #[.slice p n cap, .int .i64 K] 24) = W at *
    refine (Hco.out _ hE0).mono ?_
    rintro e w2 ⟨v, rfl, hv, hE2⟩
    have c1 : w2.cell? ⟨w.heap.size, 1, none⟩ = some (.int .i64 K) := hE2.cell (cell_of_row _ _ _ _ _ _ hnew)
    have HE2 := Lib.hid (hE0.trans hE2)
    have Hv := Lib.hid hv
    clear hnew hE2 hv
    go_wp2_with fail
    refine (nhits_any L.length (IL L) K (by omega) v _ Hv.out).mono ?_
    rintro e w3 ⟨v2, rfl, hv2, hE3⟩
    have Hv2 := Lib.hid hv2
    have HE3 := Lib.hid hE3
    clear hv2 hE3
    go_wp2_with fail
    go_ret3
    exact ⟨_, rfl, Sl.of_list Hv2.out, HE2.out.trans HE3.out⟩
  · obtain ⟨rfl, rfl⟩ := hN hz
    go_enter Try.func42, Try.ntmps42
    go_wp2_with fail
    generalize w.alloc (.cells #[.slice p n cap, .int .i64 K] 24) = W at *
    refine (Hco.out _ hE0).mono ?_
    rintro e w2 ⟨v, rfl, hv, hE2⟩
    have HE2 := Lib.hid (hE0.trans hE2)
    clear hnew hE2 hv
    go_wp2_with fail
    go_ret3
    exact ⟨_, rfl, Sl.nil _ _, HE2.out⟩
end Go.Proofs.Ytmadelflnjhibaa

namespace Go.Proofs.Ytmadelflnjhibaa
open Go.RowKit
attribute [local go_sem] Cls.val clsNone clsAll

def sABCA : ByteArray := ⟨#[97, 98, 99, 97]⟩
def sT7 : ByteArray := ⟨#[97, 98, 99, 97, 98, 99, 97]⟩
def sT5 : ByteArray := ⟨#[97, 98, 99, 97, 98]⟩
def sC : ByteArray := ⟨#[99]⟩
theorem q1 : freqL (fT sABCA) 4 2 = [ofV sA 1] := by kernel_rfl
theorem q2 : rareL (fT sABCA) 4 2 = [ofV sB 1, ofV sC 1] := by kernel_rfl
theorem q3 : checkS (fT sABCA) 4 1 7 8 2 = 0 := by kernel_rfl
theorem q4 : cntsL (fT sABCA) sT7 4 1 0 = [0, 4, 4, 0] := by kernel_rfl
theorem q5 : cntsNS (fT sABCA) 4 7 8 2 0 = 9 := by kernel_rfl
theorem q6 : checkS (fT sABCA) 4 1 7 8 9 = 0 := by kernel_rfl
theorem q7 : fndL (fT sABCA) sT7 4 1 0 = [0, 3] := by kernel_rfl
theorem q8 : cntsNS (fT sABCA) 4 7 8 9 0 = 0 := by kernel_rfl
theorem q9 : checkS (fun _ => ofV sAB 2) 1 0 1 1 1 = 170 := by kernel_rfl
theorem q10 : checkS (fT sABCA) 4 1 7 3 1 = 50 := by kernel_rfl
theorem q11 : sumsR (fT sABCA) 4 1 5 = 2 := by kernel_rfl
theorem q12 : (List.range 2).map (fun q => rareV (fun j => [ofV sB 1, ofV sC 1].getD j clsNone) 2 (fT sABCA) sT5 4 q) = [2, 0] := by kernel_rfl
theorem two_ok : (ofV sAB 2).ok := ok_of_B (by kernel_rfl)

theorem lt_four {P : Nat → Prop} (h0 : P 0) (h1 : P 1) (h2 : P 2) (h3 : P 3) : ∀ j, j < 4 → P j
  | 0, _ => h0
  | 1, _ => h1
  | 2, _ => h2
  | 3, _ => h3
  | j + 4, h => absurd h (by omega)
structure PlQ (W : World) (v : Value) (n : Nat) (cs : Array Value) : Prop where
  out : ∃ F : Nat → Int, n ≤ 4 ∧ Sl W v n (I F) ∧ ∀ j, j < n → cs[j]? = some (I F j)
theorem PlQ.ext {W W' : World} {v : Value} {n : Nat} {cs : Array Value} (h : PlQ W v n cs) (he : Ext W W') : PlQ W' v n cs := by
  obtain ⟨F, h1, h2, h3⟩ := h
  exact ⟨F, h1, h2.ext he, h3⟩
theorem PlQ.same {W : World} {v : Value} {n g : Nat} {cs : Array Value} (h : PlQ W v n cs) (hg : W.heap[g]? = some (.cells cs 3 (0, 0))) :
    Calls Try.prog 24 #[v, .slice (some ⟨g, 0, none⟩) n n] W fun e w' => e = .returned (.bool true) ∧ Ext W w' := by
  obtain ⟨F, h1, h2, h3⟩ := h
  have h := places_same n n F F (by omega) (by omega) v _ W h2 (rd_lit hg h3)
  rwa [sameB_iff.2 ⟨rfl, fun _ _ => rfl⟩] at h

theorem few12_any (p : Option Addr) (n cap : Nat) (K : Int) (s : ByteArray) (w : World) :
    Calls Try.prog 33 #[leafVal p n cap K, .string s] w fun e w' => e = .returned (.bool (decide (n ≤ 100) && decide (s.size ≤ 300))) ∧ Ext w w' := by
  have hE0 := (Ext.refl w).alloc (.cells #[.slice p n cap, .int .i64 K] 24)
  unfold leafVal
  by_cases h1 : (n : Int) ≤ 100
  · rw [show decide (n ≤ 100) = true from decide_eq_true (by omega), show decide (s.size ≤ 300) = decide ((s.size : Int) ≤ 300) from by rw [Bool.eq_iff_iff]; simp; omega]
    go_enter Try.func33, Try.ntmps33
    go_wp2_with fail
    go_ret
    exact ⟨rfl, hE0⟩
  · rw [show decide (n ≤ 100) = false from decide_eq_false (by omega)]
    go_enter Try.func33, Try.ntmps33
    go_wp2_with fail
    go_ret
    exact ⟨rfl, hE0⟩
end Go.Proofs.Ytmadelflnjhibaa
