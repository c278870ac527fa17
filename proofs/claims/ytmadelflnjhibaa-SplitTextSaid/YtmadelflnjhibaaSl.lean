import Derived.Test.YtmadelflnjhibaaCounts
namespace Go.Proofs.Ytmadelflnjhibaa
open Go.RowKit
attribute [local go_sem] Cls.val clsNone clsAll

/-- A slice of N cells F 0, .. F (N-1), to read. -/
def Sl (w : World) (v : Value) (N : Nat) (F : Nat → Value) : Prop := ∃ p cap, v = .slice p N cap ∧ N ≤ cap ∧ Rd w p N F
theorem Sl.ext {w w' : World} {v : Value} {N : Nat} {F : Nat → Value} (h : Sl w v N F) (he : Ext w w') : Sl w' v N F := by
  obtain ⟨p, cap, h1, h2, h3⟩ := h
  exact ⟨p, cap, h1, h2, h3.ext he⟩
theorem Sl.congr {w : World} {v : Value} {N : Nat} {F G : Nat → Value} (hs : Sl w v N F) (hg : ∀ j, j < N → F j = G j) : Sl w v N G := by
  obtain ⟨p, cap, h1, h2, h3⟩ := hs
  exact ⟨p, cap, h1, h2, h3.congr hg⟩
theorem Sl.of_row {w : World} {T : TypeId} {b N : Nat} {F : Nat → Value} (h : Row w T b N F) : Sl w (.slice (some ⟨b, 0, none⟩) N N) N F := ⟨_, _, rfl, Nat.le_refl _, h.rd⟩
theorem Sl.of_owns {w : World} {T : TypeId} {base N : Nat} {v : Value} {xs : List Value} (h : w.ownsRow base T 1 v N xs) (F : Nat → Value) (hx : ∀ j, j < N → xs.getD j undef = F j) : Sl w v N F := by
  obtain ⟨p, cap, rfl, hc⟩ := ownsRow_form h
  by_cases h0 : N = 0
  · exact ⟨p, cap, rfl, hc, .inl h0⟩
  · obtain ⟨b, cap', h5, _, _, hrow⟩ := Row.owns h (by omega)
    injection h5 with h5 _ _
    subst h5
    rw [Nat.mul_one] at hrow
    exact ⟨_, _, rfl, hc, (hrow.congr fun j hj => hx j hj).rd⟩
theorem Sl.nil (w : World) (F : Nat → Value) : Sl w (.slice none 0 0) 0 F := ⟨none, 0, rfl, Nat.le_refl _, .inl rfl⟩
theorem getD_map {α : Type} (l : List α) (F : α → Value) (d : α) (j : Nat) (h : j < l.length) : (l.map F).getD j undef = F (l.getD j d) := by
  rw [List.getD_eq_getElem?_getD, List.getD_eq_getElem?_getD, List.getElem?_map, List.getElem?_eq_getElem h]; rfl

/-- Are two rows the same? -/
def sameB (N M : Nat) (g h : Nat → Int) : Bool := decide (N = M) && (List.range N).all fun j => g j == h j
theorem sameB_iff {N M : Nat} {g h : Nat → Int} : sameB N M g h = true ↔ N = M ∧ ∀ j, j < N → g j = h j := by
  simp [sameB]

def EqRel (N : Nat) (g h : Nat → Int) (w : World) (i : Value) (wr : World) : Prop :=
  ∃ k : Nat, k ≤ N ∧ i = .int .i64 k ∧ (∀ j, j < k → g j = h j) ∧ Ext w wr

set_option maxRecDepth 100000 in
set_option maxHeartbeats 1000000 in
theorem places_same (N M : Nat) (g h : Nat → Int) (hN : N ≤ 1099511627777) (hM : M ≤ 1099511627777) (va vb : Value) (w : World) (ha : Sl w va N (I g)) (hb : Sl w vb M (I h)) :
    Calls Try.prog 24 #[va, vb] w fun e w' => e = .returned (.bool (sameB N M g h)) ∧ Ext w w' := by
  obtain ⟨pa, ca, rfl, hca, ra⟩ := ha
  obtain ⟨pb, cb, rfl, hcb, rb⟩ := hb
  have Ra := Lib.hid ra
  have Rb := Lib.hid rb
  clear ra rb
  go_enter Try.func24, Try.ntmps24
  by_cases hnm : N = M
  · subst hnm
    go_wp2_with fail
    go_loopw [5] (fun i wr => EqRel N g h w i wr) (fun i _ => N - (intOf i).toNat)
    case atStart => exact ⟨0, by omega, rfl, (fun j hj => by omega), Ext.refl _⟩
    case round =>
      obtain ⟨k, hk, rfl, hall, hE⟩ := hrel
      have HE := Lib.hid hE
      have Hall := Lib.hid hall
      clear hE hall
      by_cases hlt : k < N
      · obtain ⟨ba, oa, rfl, c1⟩ := (Ra.out.ext HE.out).at hlt
        obtain ⟨bb, ob, rfl, c2⟩ := (Rb.out.ext HE.out).at hlt
        unfold I at c1 c2
        have b1 : (0 : Int) ≤ (k : Int) := by omega
        have b2 : (k : Int) < (N : Int) := by omega
        by_cases hx : g k = h k
        · have Hall2 : Hid (∀ j, j < k + 1 → g j = h j) := fun j hj => by
            by_cases e : j = k
            · subst e; exact hx
            · exact Hall.out j (by omega)
          rw [← hx] at c2
          generalize g k = x at *
          clear hx
          go_wp2_with fail
          go_quiet (fail)
          go_wp2_with fail
          go_roundw
          case rel => exact ⟨k + 1, by omega, by go_num, Hall2.out, HE.out.drewN _⟩
          case measure => simp [intOf]; omega
        · have Hno : Hid (sameB N N g h = false) := by
            rw [Bool.eq_false_iff]
            exact fun hh => hx ((sameB_iff.1 hh).2 k hlt)
          generalize g k = x at *
          generalize h k = y at *
          go_wp2_with fail
          go_quiet (fail)
          go_wp2_with fail
          go_ret
          exact ⟨by rw [Hno.out]; rfl, HE.out.drewN _⟩
      · have e : k = N := by omega
        subst e
        go_wp2_with fail
        go_ret
        exact ⟨by rw [sameB_iff.2 ⟨rfl, Hall.out⟩]; rfl, HE.out⟩
  · have Hno : Hid (sameB N M g h = false) := by
      rw [Bool.eq_false_iff]
      exact fun hh => hnm (sameB_iff.1 hh).1
    have hne : (N : Int) ≠ (M : Int) := by omega
    go_wp2_with fail
    go_ret
    exact ⟨by rw [Hno.out]; rfl, Ext.refl _⟩

set_option maxRecDepth 100000 in
set_option maxHeartbeats 1000000 in
theorem same_u64 (N M : Nat) (g h : Nat → Int) (hN : N ≤ 1099511627777) (hM : M ≤ 1099511627777) (va vb : Value) (w : World) (ha : Sl w va N (U g)) (hb : Sl w vb M (U h)) :
    Calls Try.prog 17 #[va, vb] w fun e w' => e = .returned (.bool (sameB N M g h)) ∧ Ext w w' := by
  obtain ⟨pa, ca, rfl, hca, ra⟩ := ha
  obtain ⟨pb, cb, rfl, hcb, rb⟩ := hb
  have Ra := Lib.hid ra
  have Rb := Lib.hid rb
  clear ra rb
  go_enter Try.func17, Try.ntmps17
  by_cases hnm : N = M
  · subst hnm
    go_wp2_with fail
    go_loopw [5] (fun i wr => EqRel N g h w i wr) (fun i _ => N - (intOf i).toNat)
    case atStart => exact ⟨0, by omega, rfl, (fun j hj => by omega), Ext.refl _⟩
    case round =>
      obtain ⟨k, hk, rfl, hall, hE⟩ := hrel
      have HE := Lib.hid hE
      have Hall := Lib.hid hall
      clear hE hall
      by_cases hlt : k < N
      · obtain ⟨ba, oa, rfl, c1⟩ := (Ra.out.ext HE.out).at hlt
        obtain ⟨bb, ob, rfl, c2⟩ := (Rb.out.ext HE.out).at hlt
        unfold U at c1 c2
        have b1 : (0 : Int) ≤ (k : Int) := by omega
        have b2 : (k : Int) < (N : Int) := by omega
        by_cases hx : g k = h k
        · have Hall2 : Hid (∀ j, j < k + 1 → g j = h j) := fun j hj => by
            by_cases e : j = k
            · subst e; exact hx
            · exact Hall.out j (by omega)
          rw [← hx] at c2
          generalize g k = x at *
          clear hx
          go_wp2_with fail
          go_quiet (fail)
          go_wp2_with fail
          go_roundw
          case rel => exact ⟨k + 1, by omega, by go_num, Hall2.out, HE.out.drewN _⟩
          case measure => simp [intOf]; omega
        · have Hno : Hid (sameB N N g h = false) := by
            rw [Bool.eq_false_iff]
            exact fun hh => hx ((sameB_iff.1 hh).2 k hlt)
          generalize g k = x at *
          generalize h k = y at *
          go_wp2_with fail
          go_quiet (fail)
          go_wp2_with fail
          go_ret
          exact ⟨by rw [Hno.out]; rfl, HE.out.drewN _⟩
      · have e : k = N := by omega
        subst e
        go_wp2_with fail
        go_ret
        exact ⟨by rw [sameB_iff.2 ⟨rfl, Hall.out⟩]; rfl, HE.out⟩
  · have Hno : Hid (sameB N M g h = false) := by
      rw [Bool.eq_false_iff]
      exact fun hh => hnm (sameB_iff.1 hh).1
    have hne : (N : Int) ≠ (M : Int) := by omega
    go_wp2_with fail
    go_ret
    exact ⟨by rw [Hno.out]; rfl, Ext.refl _⟩

/-- The places of few. -/
def hitsL (g : Nat → Int) (K : Int) (k : Nat) : List Nat := (List.range k).filter fun j => decide (g j ≤ K)
theorem hitsL_len (g : Nat → Int) (K : Int) (k : Nat) : (hitsL g K k).length ≤ k := by
  unfold hitsL
  exact Nat.le_trans (List.length_filter_le _ _) (by simp)
theorem hitsL_succ (g : Nat → Int) (K : Int) (k : Nat) : hitsL g K (k + 1) = hitsL g K k ++ if g k ≤ K then [k] else [] := by
  unfold hitsL
  rw [List.range_succ, List.filter_append]
  congr 1
  by_cases e : g k ≤ K <;> simp [e]
def IL (L : List Nat) (j : Nat) : Int := (L.getD j 0 : Nat)
theorem Sl.of_list {w : World} {base : Nat} {v : Value} {L : List Nat} (h : w.ownsRow base 3 1 v L.length (L.map In)) : Sl w v L.length (I (IL L)) :=
  Sl.of_owns h _ fun j hj => getD_map L In 0 j hj

def HitsRel (g : Nat → Int) (K : Int) (N : Nat) (w0 : World) (v i : Value) (wr : World) : Prop :=
  ∃ k : Nat, k ≤ N ∧ i = .int .i64 k ∧ wr.ownsRow w0.heap.size 3 1 v (hitsL g K k).length ((hitsL g K k).map In) ∧ Ext w0 wr

set_option maxRecDepth 100000 in
set_option maxHeartbeats 1000000 in
theorem nhits_any (N : Nat) (g : Nat → Int) (K : Int) (hN : N ≤ 1099511627777) (va : Value) (w : World) (ha : Sl w va N (I g)) :
    Calls Try.prog 56 #[va, .int .i64 K] w fun e w' => ∃ v, e = .returned v ∧ w'.ownsRow w.heap.size 3 1 v (hitsL g K N).length ((hitsL g K N).map In) ∧ Ext w w' := by
  obtain ⟨i0, hi, hz0, hz1, hz2⟩ := info_parts info_int
  obtain ⟨pa, ca, rfl, hca, ra⟩ := ha
  have Ra := Lib.hid ra
  clear ra
  go_enter Try.func56, Try.ntmps56
  go_wp2_with fail
  go_loopw [5, 6, 7, 10] (fun v _ _ i wr => HitsRel g K N w v i wr) (fun _ _ _ i _ => N - (intOf i).toNat)
  case atStart => exact ⟨0, by omega, rfl, by simp [World.ownsRow, hitsL], Ext.refl _⟩
  case round =>
    obtain ⟨k, hk, rfl, hown, hE⟩ := hrel
    have hlen := hitsL_len g K k
    have Hown := Lib.hid hown
    have HE := Lib.hid hE
    have hsz := hE.size
    clear hown hE
    by_cases hlt : k < N
    · obtain ⟨b, off, rfl, c1⟩ := (Ra.out.ext HE.out).at hlt
      unfold I at c1
      have hstep := hitsL_succ g K k
      have b1 : (0 : Int) ≤ (k : Int) := by omega
      have b2 : (k : Int) < (N : Int) := by omega
      by_cases hx : g k ≤ K
      · rw [if_pos hx] at hstep
        have Hs := Lib.hid hstep
        generalize g k = x at *
        clear hstep
        go_wp2_with (at_builtin; refine wpList_append_own _ rfl (.tmp 18) (.tmp 20) 35 rfl w.heap.size 3 i0 (.int .i64 0) 1 8 Try.underlying35 hi hz0 hz1 hz2 rfl (by decide) _ _ _ rfl (Hown.out.alloc _) ⟨wr.heap.size, 0, none⟩ 1 1 [.int .i64 k] rfl rfl ?c1 ?c2 ?c3 ?c4 ?c5 ?_)
        case c1 => exact one_new _ _ _
        case c2 => intro u hu; rw [List.mem_singleton.1 hu]; rfl
        case c3 => unfold maxLen; omega
        case c4 => omega
        case c5 => simp; omega
        intro v' w3 hown3 hgrow _
        have hE3 : Ext w w3 := (HE.out.alloc _).grown hgrow (fun q hq => (Hown.out.lt q hq).1)
        have Hown3 := Lib.hid hown3
        clear hown3 hgrow
        go_wp2
        go_roundw
        case rel => exact ⟨k + 1, by omega, by go_num, by rw [Hs.out, List.length_append, List.map_append]; exact Hown3.out, hE3⟩
        case measure => simp [intOf]; omega
      · rw [if_neg hx, List.append_nil] at hstep
        have Hs := Lib.hid hstep
        generalize g k = x at *
        clear hstep
        go_wp2_with fail
        go_roundw
        case rel => exact ⟨k + 1, by omega, by go_num, by rw [Hs.out]; exact Hown.out, HE.out⟩
        case measure => simp [intOf]; omega
    · have e : k = N := by omega
      subst e
      go_wp2_with fail
      go_ret
      exact ⟨_, rfl, Hown.out, HE.out⟩

set_option maxRecDepth 100000 in
set_option maxHeartbeats 1000000 in
theorem rhits_any (N : Nat) (g : Nat → Int) (K : Int) (hN : N ≤ 1099511627777) (va : Value) (w : World) (ha : Sl w va N (I g)) :
    Calls Try.prog 57 #[va, .int .i64 K] w fun e w' => ∃ v, e = .returned v ∧ w'.ownsRow w.heap.size 3 1 v (hitsL g K N).length ((hitsL g K N).map In) ∧ Ext w w' := by
  obtain ⟨i0, hi, hz0, hz1, hz2⟩ := info_parts info_int
  obtain ⟨pa, ca, rfl, hca, ra⟩ := ha
  have Ra := Lib.hid ra
  clear ra
  go_enter Try.func57, Try.ntmps57
  go_wp2_with fail
  go_loopw [5, 6] (fun v i wr => HitsRel g K N w v i wr) (fun _ i _ => N - (intOf i).toNat)
  case atStart => exact ⟨0, by omega, rfl, by simp [World.ownsRow, hitsL], Ext.refl _⟩
  case round =>
    obtain ⟨k, hk, rfl, hown, hE⟩ := hrel
    have hlen := hitsL_len g K k
    have Hown := Lib.hid hown
    have HE := Lib.hid hE
    have hsz := hE.size
    clear hown hE
    by_cases hlt : k < N
    · obtain ⟨b, off, rfl, c1⟩ := (Ra.out.ext HE.out).at hlt
      unfold I at c1
      have hstep := hitsL_succ g K k
      have b1 : (0 : Int) ≤ (k : Int) := by omega
      have b2 : (k : Int) < (N : Int) := by omega
      by_cases hx : g k ≤ K
      · rw [if_pos hx] at hstep
        have Hs := Lib.hid hstep
        generalize g k = x at *
        clear hstep
        go_wp2_with (at_builtin; refine wpList_append_own _ rfl (.tmp 19) (.tmp 21) 35 rfl w.heap.size 3 i0 (.int .i64 0) 1 8 Try.underlying35 hi hz0 hz1 hz2 rfl (by decide) _ _ _ rfl (Hown.out.alloc _) ⟨wr.heap.size, 0, none⟩ 1 1 [.int .i64 k] rfl rfl ?c1 ?c2 ?c3 ?c4 ?c5 ?_)
        case c1 => exact one_new _ _ _
        case c2 => intro u hu; rw [List.mem_singleton.1 hu]; rfl
        case c3 => unfold maxLen; omega
        case c4 => omega
        case c5 => simp; omega
        intro v' w3 hown3 hgrow _
        have hE3 : Ext w w3 := (HE.out.alloc _).grown hgrow (fun q hq => (Hown.out.lt q hq).1)
        have Hown3 := Lib.hid hown3
        clear hown3 hgrow
        go_wp2
        go_roundw
        case rel => exact ⟨k + 1, by omega, by go_num, by rw [Hs.out, List.length_append, List.map_append]; exact Hown3.out, hE3⟩
        case measure => simp [intOf]; omega
      · rw [if_neg hx, List.append_nil] at hstep
        have Hs := Lib.hid hstep
        generalize g k = x at *
        clear hstep
        go_wp2_with fail
        go_roundw
        case rel => exact ⟨k + 1, by omega, by go_num, by rw [Hs.out]; exact Hown.out, HE.out⟩
        case measure => simp [intOf]; omega
    · have e : k = N := by omega
      subst e
      go_wp2_with fail
      go_ret
      exact ⟨_, rfl, Hown.out, HE.out⟩
end Go.Proofs.Ytmadelflnjhibaa
