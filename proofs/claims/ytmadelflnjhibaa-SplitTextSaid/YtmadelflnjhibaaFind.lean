import Derived.Test.YtmadelflnjhibaaLaw
namespace Go.Proofs.Ytmadelflnjhibaa
open Go.RowKit
attribute [local go_sem] Cls.val clsNone clsAll
attribute [local go_sem] Oper.semAt_some

set_option maxRecDepth 100000 in
set_option maxHeartbeats 4000000 in
theorem scounts_err (p : Option Addr) (n cap : Nat) (K : Int) (f : Nat → Cls) (hcap : n ≤ cap) (hn : n ≤ 1099511627776) (s : ByteArray) (hs : s.size ≤ 1099511627776) (size : Int) (w : World) (hr : RdC w p n f) (hck : checkV f n K s.size size ≠ 0) :
    Calls Try.prog 22 #[leafVal p n cap K, .string s, .int .i64 size] w fun e w' => e = .returned (.tuple #[.slice none 0 0, .int .i64 0, .int .i64 (checkV f n K s.size size)]) ∧ Ext w w' := by
  have hnew := heap_alloc_new w (.cells #[.slice p n cap, .int .i64 K] 24)
  have hE0 := (Ext.refl w).alloc (.cells #[.slice p n cap, .int .i64 K] 24)
  have Hsc := Lib.hid (fun W (hW : Ext w W) => scheck_any p n cap K f hcap hn s hs size W (hr.ext hW))
  generalize checkV f n K s.size size = z at *
  unfold leafVal at *
  clear hr
  refine calls_marks Try.func22 rfl ?_
  simp only [Try.ntmps22, List.size_toArray, List.length_cons, List.length_nil, Nat.reduceAdd, Nat.reduceSub, Array.replicate_succ, Array.replicate_zero, List.push_toArray, List.append_toArray, List.nil_append, List.cons_append]
  go_wp2_with fail
  generalize w.alloc (.cells #[.slice p n cap, .int .i64 K] 24) = W at *
  refine (Hsc.out W hE0).mono ?_
  rintro e w2 ⟨rfl, hE2⟩
  have HE2 := Lib.hid (hE0.trans hE2)
  clear hE0 hE2 hnew
  go_wp2_with fail
  exact ⟨_, results_tmp3 rfl _ _ _, rfl, HE2.out⟩

theorem IL_map (N : Nat) (g : Nat → Nat) (j : Nat) (hj : j < N) : IL ((List.range N).map g) j = g j := by
  unfold IL
  rw [List.getD_eq_getElem?_getD, List.getElem?_map, List.getElem?_range hj]
  rfl

/-- symb.Counts tells what the document's counts tell. -/
theorem scounts_all (p : Option Addr) (n cap : Nat) (K : Int) (f : Nat → Cls) (hcap : n ≤ cap) (hn : n ≤ 1099511627776) (s : ByteArray) (hs : s.size ≤ 1099511627776) (size : Int) (hcls : ∀ j, (f j).ok) (w : World) (hr : RdC w p n f) :
    Calls Try.prog 22 #[leafVal p n cap K, .string s, .int .i64 size] w fun e w' =>
      ∃ v, e = .returned (.tuple #[v, .int .i64 (cntsN f n s.size size (checkV f n K s.size size)), .int .i64 (checkV f n K s.size size)]) ∧ Sl w' v (cntsL f s n K (checkV f n K s.size size)).length (I (IL (cntsL f s n K (checkV f n K s.size size)))) ∧ Ext w w' := by
  by_cases hz : checkV f n K s.size size = 0
  · obtain ⟨h1, h2⟩ := checkV_zero hz
    obtain ⟨h3, h4, _, _⟩ := rightB_true h1
    refine (scounts_any p n cap K f hcap hn s hs size hcls w hr hz h3 h4 h2).mono ?_
    rintro e w' ⟨g, rfl, hg, hrow, hE⟩
    rw [hz]
    have hL : cntsL f s n K 0 = (List.range (sumsN n s.size)).map (missV f s n) := (if_pos rfl).trans (countsL_eq f s n K h1)
    refine ⟨_, rfl, ?_, hE⟩
    rw [hL, List.length_map, List.length_range]
    refine (Sl.of_row hrow).congr fun j hj => ?_
    unfold I
    rw [outV_miss, IL_map _ _ _ hj]
  · refine (scounts_err p n cap K f hcap hn s hs size w hr hz).mono ?_
    rintro e w' ⟨rfl, hE⟩
    have hN : cntsN f n s.size size (checkV f n K s.size size) = 0 := if_neg hz
    have hL : cntsL f s n K (checkV f n K s.size size) = [] := if_neg hz
    rw [hN, hL]
    exact ⟨_, rfl, Sl.nil _ _, hE⟩

set_option maxRecDepth 100000 in
set_option maxHeartbeats 4000000 in
theorem sfind_all (p : Option Addr) (n cap : Nat) (K : Int) (f : Nat → Cls) (hcap : n ≤ cap) (hn : n ≤ 1099511627776) (s : ByteArray) (hs : s.size ≤ 1099511627776) (size : Int) (hcls : ∀ j, (f j).ok) (w : World) (hr : RdC w p n f) :
    Calls Try.prog 25 #[leafVal p n cap K, .string s, .int .i64 size] w fun e w' =>
      ∃ v, e = .returned (.tuple #[v, .int .i64 (cntsN f n s.size size (checkV f n K s.size size)), .int .i64 (checkV f n K s.size size)]) ∧ Sl w' v (fndL f s n K (checkV f n K s.size size)).length (I (IL (fndL f s n K (checkV f n K s.size size)))) ∧ Ext w w' := by
  have hnew := heap_alloc_new w (.cells #[.slice p n cap, .int .i64 K] 24)
  have hE0 := (Ext.refl w).alloc (.cells #[.slice p n cap, .int .i64 K] 24)
  have Hco := Lib.hid (fun W (hW : Ext w W) => scounts_all p n cap K f hcap hn s hs size hcls W (hr.ext hW))
  have hlen : (cntsL f s n K (checkV f n K s.size size)).length ≤ s.size + 1 := by
    unfold cntsL
    split
    · exact countsL_len f s n K _
    · simp
  have hN : checkV f n K s.size size ≠ 0 → cntsN f n s.size size (checkV f n K s.size size) = 0 ∧ cntsL f s n K (checkV f n K s.size size) = [] := fun h => ⟨if_neg h, if_neg h⟩
  unfold fndL
  generalize cntsL f s n K (checkV f n K s.size size) = L at *
  generalize cntsN f n s.size size (checkV f n K s.size size) = N at *
  generalize checkV f n K s.size size = z at *
  clear hr hcls
  unfold leafVal at *
  by_cases hz : z = 0
  · subst hz
    clear hN
    go_enter Try.func25, Try.ntmps25
    go_wp2_with fail
    generalize w.alloc (.cells #[.slice p n cap, .int .i64 K] 24) = W at *
    refine (Hco.out _ hE0).mono ?_
    rintro e w2 ⟨v, rfl, hv, hE2⟩
    have c1 : w2.cell? ⟨w.heap.size, 1, none⟩ = some (.int .i64 K) := hE2.cell (cell_of_row _ _ _ _ _ _ hnew)
    have HE2 := Lib.hid (hE0.trans hE2)
    have Hv := Lib.hid hv
    clear hnew hE2 hv
    go_wp2_with fail
    refine (nhits_any L.length (IL L) K (by omega) v _ Hv.out).mono ?_
    rintro e w3 ⟨v2, rfl, hv2, hE3⟩
    have Hv2 := Lib.hid hv2
    have HE3 := Lib.hid hE3
    clear hv2 hE3
    go_wp2_with fail
    go_ret3
    exact ⟨_, rfl, Sl.of_list Hv2.out, HE2.out.trans HE3.out⟩
  · obtain ⟨rfl, rfl⟩ := hN hz
    go_enter Try.func25, Try.ntmps25
    go_wp2_with fail
    generalize w.alloc (.cells #[.slice p n cap, .int .i64 K] 24) = W at *
    refine (Hco.out _ hE0).mono ?_
    rintro e w2 ⟨v, rfl, hv, hE2⟩
    have HE2 := Lib.hid (hE0.trans hE2)
    clear hnew hE2 hv
    go_wp2_with fail
    go_ret3
    exact ⟨_, rfl, Sl.nil _ _, HE2.out⟩
end Go.Proofs.Ytmadelflnjhibaa
