import Derived.Test.YtmadelflnjhibaaRefA
namespace Go.Proofs.Ytmadelflnjhibaa
open Go.RowKit
attribute [local go_sem] Cls.val clsNone clsAll

def RightRel (f : Nat → Cls) (n : Nat) (w : World) (i : Value) (wr : World) : Prop :=
  ∃ k : Nat, k ≤ n ∧ i = .int .i64 k ∧ (∀ j, j < k → sizeV (f j) ≠ 0) ∧ Ext w wr

set_option maxRecDepth 100000 in
set_option maxHeartbeats 1000000 in
theorem refright_any (p : Option Addr) (n cap : Nat) (K : Int) (f : Nat → Cls) (hcap : n ≤ cap) (hn : n ≤ 1099511627776) (hcls : ∀ j, (f j).ok) (w : World) (hr : RdC w p n f) :
    Calls Try.prog 28 #[leafVal p n cap K] w fun e w' => e = .returned (.bool (rightB f n K)) ∧ Ext w w' := by
  have hE0 := (Ext.refl w).alloc (.cells #[.slice p n cap, .int .i64 K] 24)
  have hnew := heap_alloc_new w (.cells #[.slice p n cap, .int .i64 K] 24)
  rw [rightB_sizes hcls]
  have Hr := Lib.hid hr
  have Hcls := Lib.hid hcls
  clear hr hcls
  generalize hall : ((List.range n).all fun j => !decide (sizeV (f j) = 0)) = b at *
  have Hall := Lib.hid hall
  clear hall
  unfold leafVal
  by_cases h1 : (1 : Int) ≤ (n : Int)
  · by_cases h2 : (n : Int) ≤ 64
    · by_cases h3 : (0 : Int) ≤ K
      · by_cases h4 : K ≤ 64
        · rw [show decide (1 ≤ n) = true from decide_eq_true (by omega), show decide (n ≤ 64) = true from decide_eq_true (by omega), decide_eq_true h3, decide_eq_true h4]
          go_enter Try.func28, Try.ntmps28
          go_wp2_with fail
          generalize w.alloc (.cells #[.slice p n cap, .int .i64 K] 24) = W at *
          have HE0 := Lib.hid hE0
          have Hnew := Lib.hid hnew
          clear hE0 hnew
          go_loopw [3] (fun i wr => RightRel f n W i wr) (fun i _ => n - (intOf i).toNat)
          case atStart => exact ⟨0, by omega, rfl, (fun j hj => by omega), Ext.refl _⟩
          case round =>
            obtain ⟨k, hk, rfl, hno, hE⟩ := hrel
            have HE := Lib.hid hE
            have Hno := Lib.hid hno
            have c0 : wr.cell? ⟨w.heap.size, 0, none⟩ = some (.slice p n cap) := hE.cell (cell_of_row _ _ _ _ _ _ Hnew.out)
            clear hE hno
            by_cases hlt : k < n
            · obtain ⟨bb, off, rfl, d0, d1, d2, d3⟩ := (Hr.out.ext (HE0.out.trans HE.out)).at hlt
              have b1 : (0 : Int) ≤ (k : Int) := by omega
              have b2 : (k : Int) < (n : Int) := by omega
              have Hsz := Lib.hid (fun W => size_any (f k) (Hcls.out k) W)
              have Hz : Hid (b = true → sizeV (f k) ≠ 0) := fun hb => by
                have h5 := Hall.out
                rw [hb, List.all_eq_true] at h5
                simpa using h5 k (List.mem_range.2 hlt)
              have Hstep : Hid (sizeV (f k) ≠ 0 → ∀ j, j < k + 1 → sizeV (f j) ≠ 0) := fun hx j hj => by
                by_cases e : j = k
                · rw [e]; exact hx
                · exact Hno.out j (by omega)
              generalize f k = d at *
              generalize sizeV d = z at *
              go_wp2_with fail
              refine (Hsz.out _).mono ?_
              rintro e w2 ⟨rfl, hE2⟩
              by_cases hx : z = 0
              · subst hx
                have hb : b = false := by
                  cases b
                  · rfl
                  · exact absurd rfl (Hz.out rfl)
                go_wp2_with fail
                go_ret
                exact ⟨by rw [hb]; rfl, HE0.out.trans (HE.out.trans hE2)⟩
              · have hx2 : (z : Int) ≠ 0 := by omega
                have Hall2 := Lib.hid (Hstep.out hx)
                go_wp2_with fail
                go_roundw
                case rel => exact ⟨k + 1, by omega, by go_num, Hall2.out, HE.out.trans hE2⟩
                case measure => simp [intOf]; omega
            · have e : k = n := by omega
              subst e
              have hb : b = true := by
                rw [← Hall.out, List.all_eq_true]
                intro j hj
                simpa using Hno.out j (List.mem_range.1 hj)
              go_wp2_with fail
              go_ret
              exact ⟨by rw [hb]; rfl, HE0.out.trans HE.out⟩
        · rw [decide_eq_false h4, Bool.and_false, Bool.false_and]
          go_enter Try.func28, Try.ntmps28
          go_wp2_with fail
          go_ret
          exact ⟨rfl, hE0⟩
      · rw [decide_eq_false h3, Bool.and_false, Bool.false_and, Bool.false_and]
        go_enter Try.func28, Try.ntmps28
        go_wp2_with fail
        go_ret
        exact ⟨rfl, hE0⟩
    · rw [show decide (n ≤ 64) = false from decide_eq_false (by omega), Bool.and_false, Bool.false_and, Bool.false_and, Bool.false_and]
      go_enter Try.func28, Try.ntmps28
      go_wp2_with fail
      go_ret
      exact ⟨rfl, hE0⟩
  · rw [show decide (1 ≤ n) = false from decide_eq_false (by omega), Bool.false_and, Bool.false_and, Bool.false_and, Bool.false_and]
    go_enter Try.func28, Try.ntmps28
    go_wp2_with fail
    go_ret
    exact ⟨rfl, hE0⟩

/-- Is an element free, or among the first kinds? -/
def metB (ks : List Cls) (c : Cls) (t : Nat) : Bool := decide (c = clsAll) || (ks.take t).any fun d => decide (d = c)
theorem metB_succ (ks : List Cls) (c : Cls) (t : Nat) (ht : t < ks.length) : metB ks c (t + 1) = (metB ks c t || decide (ks.getD t clsNone = c)) := by
  unfold metB
  rw [List.take_add_one, List.any_append, List.getElem?_eq_getElem ht, Bool.or_assoc, List.getD_eq_getElem?_getD, List.getElem?_eq_getElem ht]
  simp
theorem metB_all (ks : List Cls) (c : Cls) : metB ks c ks.length = decide (c ∈ clsAll :: ks) := by
  unfold metB
  rw [List.take_length, Bool.eq_iff_iff]
  simp only [Bool.or_eq_true, decide_eq_true_eq, List.any_eq_true, List.mem_cons]
  constructor
  · rintro (h | ⟨d, hd, rfl⟩)
    · exact .inl h
    · exact .inr hd
  · rintro (h | h)
    · exact .inl h
    · exact .inr ⟨c, h, rfl⟩

def RKindsRel (f : Nat → Cls) (n : Nat) (w0 : World) (v i : Value) (wr : World) : Prop :=
  ∃ k : Nat, k ≤ n ∧ i = .int .i64 k ∧ ClsRow wr w0.heap.size v (kindsV f k) ∧ Ext w0 wr
def MetRel (ks : List Cls) (c : Cls) (w0 : World) (m i : Value) (wr : World) : Prop :=
  ∃ t : Nat, t ≤ ks.length ∧ i = .int .i64 t ∧ m = .bool (metB ks c t) ∧ Ext w0 wr

set_option maxRecDepth 100000 in
set_option maxHeartbeats 2000000 in
theorem refkinds_any (p : Option Addr) (n cap : Nat) (K : Int) (f : Nat → Cls) (hcap : n ≤ cap) (hn : n ≤ 1099511627776) (hcls : ∀ j, (f j).ok) (w : World) (hr : RdC w p n f) :
    Calls Try.prog 54 #[leafVal p n cap K] w fun e w' => ∃ v, e = .returned v ∧ ClsRow w' w.heap.size v (kindsV f n) ∧ Ext w w' := by
  obtain ⟨i0, hi, hz0, hz1, hz2⟩ := info_parts info_cls
  have hnew := heap_alloc_new w (.cells #[.slice p n cap, .int .i64 K] 24)
  have hE0 := (Ext.refl w).alloc (.cells #[.slice p n cap, .int .i64 K] 24)
  have Hr := Lib.hid hr
  have Hcls := Lib.hid hcls
  clear hr hcls
  unfold leafVal
  go_enter Try.func54, Try.ntmps54
  go_wp2_with fail
  generalize w.alloc (.cells #[.slice p n cap, .int .i64 K] 24) = W at *
  have HE0 := Lib.hid hE0
  have Hnew := Lib.hid hnew
  clear hE0 hnew
  go_loopw [3, 4, 5, 6] (fun v i _ _ wr => RKindsRel f n W v i wr) (fun _ i _ _ _ => n - (intOf i).toNat)
  case atStart => exact ⟨0, by omega, rfl, by simp [ClsRow, World.ownsRow, kindsV], Ext.refl _⟩
  case round =>
    obtain ⟨k, hk, rfl, hrow, hE⟩ := hrel
    have hlen := kindsV_len f k
    have hc0 : wr.cell? ⟨w.heap.size, 0, none⟩ = some (.slice p n cap) := hE.cell (cell_of_row _ _ _ _ _ _ Hnew.out)
    have HRow := Lib.hid hrow
    have HE := Lib.hid hE
    clear hrow hE
    by_cases hlt : k < n
    · obtain ⟨b, off, rfl, hd⟩ := (Hr.out.ext (HE0.out.trans HE.out)).at hlt
      have hstep : kindsV f (k + 1) = if f k ∈ clsAll :: kindsV f k then kindsV f k else kindsV f k ++ [f k] := rfl
      have Hfree := Lib.hid (fun W => reffree_any (f k) (Hcls.out k) W)
      have hfr : decide (sizeV (f k) = 256) = decide (f k = clsAll) := by rw [Bool.eq_iff_iff, decide_eq_true_eq, decide_eq_true_eq]; exact size_full (Hcls.out k)
      rw [hfr] at Hfree
      clear hfr
      generalize hdk : f k = d at *
      generalize hks : kindsV f k = ks at *
      clear hdk hks
      have b1 : (0 : Int) ≤ (k : Int) := by omega
      have b2 : (k : Int) < (n : Int) := by omega
      have hd' := hd
      obtain ⟨d0, d1, d2, d3⟩ := hd'
      obtain ⟨pv, cv, rfl, hcv, hpv, hrd⟩ := HRow.out.rd
      have Hrd := Lib.hid hrd
      clear hrd hpv
      have Hd := Lib.hid hd
      clear hd
      go_wp2_with fail
      refine (Hfree.out _).mono ?_
      rintro e w2 ⟨rfl, hE2⟩
      have HE2 := Lib.hid hE2
      clear hE2 d0 d1 d2 d3 hc0
      go_wp2_with fail
      obtain ⟨wo, rfl⟩ : ∃ wo : World, wo = wr := ⟨_, rfl⟩
      go_loopw [5, 6] (fun m i wr => MetRel ks d w2 m i wr) (fun _ i _ => ks.length - (intOf i).toNat)
      case atStart => exact ⟨0, by omega, rfl, by unfold metB; simp [clsAll], Ext.refl _⟩
      case round =>
        obtain ⟨t, ht, rfl, rfl, hE3⟩ := hrel
        have hc0 : wr.cell? ⟨w.heap.size, 0, none⟩ = some (.slice (some ⟨b, off, none⟩) n cap) := (HE.out.trans (HE2.out.trans hE3)).cell (cell_of_row _ _ _ _ _ _ Hnew.out)
        have HE3 := Lib.hid hE3
        clear hE3
        by_cases htl : t < ks.length
        · obtain ⟨b', off', rfl, e0, e1, e2, e3⟩ := (Hrd.out.ext (HE2.out.trans HE3.out)).at htl
          obtain ⟨d0, d1, d2, d3⟩ := Hd.out.ext (HE2.out.trans HE3.out)
          have hms := metB_succ ks d t htl
          have heq := fun V => eql_cls (ks.getD t clsNone) d V
          have t1 : (0 : Int) ≤ (t : Int) := by omega
          have t2 : (t : Int) < (ks.length : Int) := by omega
          generalize ks.getD t clsNone = g at *
          generalize hm : metB ks d t = m at *
          generalize hx : decide (g = d) = x at *
          have Hms := Lib.hid hms
          clear hms hm hx
          cases m
          · go_wp2_with fail
            go_quiet (fail)
            go_wp2_with fail
            go_roundw
            case rel => exact ⟨t + 1, by omega, by go_num, by rw [Hms.out]; rfl, HE3.out.drewN _⟩
            case measure => simp [intOf]; omega
          · go_wp2_with fail
            go_quiet (fail)
            go_wp2_with fail
            go_roundw
            case rel => exact ⟨t + 1, by omega, by go_num, by rw [Hms.out]; rfl, HE3.out.drewN _⟩
            case measure => simp [intOf]; omega
        · have e : t = ks.length := by omega
          subst e
          have hma := metB_all ks d
          have HE4 := Lib.hid (HE.out.trans (HE2.out.trans HE3.out))
          have hrow4 := (HE2.out.trans HE3.out).owns HRow.out
          by_cases hx : d ∈ clsAll :: ks
          · rw [if_pos hx] at hstep
            rw [decide_eq_true hx] at hma
            have Hrow4 := Lib.hid hrow4
            have Hs := Lib.hid hstep
            generalize metB ks d ks.length = m at *
            subst hma
            clear hstep hx hrow4
            go_wp2_with fail
            go_roundw
            case rel => exact ⟨k + 1, by omega, by go_num, by rw [Hs.out]; exact Hrow4.out, HE4.out⟩
            case measure => simp [intOf]; omega
          · rw [if_neg hx] at hstep
            rw [decide_eq_false hx] at hma
            have Hrow4 := Lib.hid hrow4
            have Hs := Lib.hid hstep
            generalize metB ks d ks.length = m at *
            subst hma
            obtain ⟨d0, d1, d2, d3⟩ := Hd.out.ext (HE2.out.trans HE3.out)
            clear hstep hx hrow4
            have hszw := HE4.out.size
            go_wp2_with (at_builtin; refine wpList_append_own _ rfl (.tmp 41) (.tmp 47) 22 rfl W.heap.size 27 i0 clsNone.val 4 32 Try.underlying22 hi hz0 hz1 hz2 rfl (by decide) _ _ _ rfl (World.ownsRow.alloc Hrow4.out _) ⟨wr.heap.size, 0, none⟩ 1 1 [.int .u64 d.w0, .int .u64 d.w1, .int .u64 d.w2, .int .u64 d.w3] rfl rfl ?c1 ?c2 ?c3 ?c4 ?c5 ?_)
            case c1 => exact cls_new wr (.int .u64 d.w0) (.int .u64 d.w1) (.int .u64 d.w2) (.int .u64 d.w3) 27
            case c2 =>
              intro u hu
              simp only [List.mem_cons, List.not_mem_nil, or_false] at hu
              rcases hu with rfl | rfl | rfl | rfl <;> rfl
            case c3 => unfold maxLen; omega
            case c4 => omega
            case c5 => rw [World.size_alloc]; omega
            intro v' w3 hown3 hgrow _
            have hE3 : Ext W w3 := (HE4.out.alloc _).grown hgrow (fun q hq => (World.ownsRow.lt Hrow4.out q hq).1)
            have Hown3 := Lib.hid hown3
            clear hown3 hgrow
            go_wp2
            go_roundw
            case rel => exact ⟨k + 1, by omega, by go_num, by rw [Hs.out]; unfold ClsRow; rw [List.length_append, List.flatMap_append]; exact Hown3.out, hE3⟩
            case measure => simp [intOf]; omega
    · have e : k = n := by omega
      subst e
      go_wp2_with fail
      go_ret
      exact ⟨_, rfl, ownsRow_lower HRow.out HE0.out.size, HE0.out.trans HE.out⟩
end Go.Proofs.Ytmadelflnjhibaa
