import Derived.Test.YtmadelflnjhibaaRefB
namespace Go.Proofs.Ytmadelflnjhibaa
open Go.RowKit
attribute [local go_sem] Cls.val clsNone clsAll

/-- How many elements miss at a place. -/
def missV (f : Nat → Cls) (s : ByteArray) (n i : Nat) : Nat := cnt (fun j => !has (f j) (byteV s (i + j))) n
/-- May a leaf stand at a place? -/
def atB (f : Nat → Cls) (n : Nat) (K : Int) (tn i : Nat) : Bool := rightB f n K && decide (i + n ≤ tn)

/-- What is told at a place. -/
def atN (f : Nat → Cls) (s : ByteArray) (n : Nat) (K : Int) (i : Nat) : Nat := if atB f n K s.size i then missV f s n i else 0

def AtRel (f : Nat → Cls) (s : ByteArray) (n i : Nat) (w : World) (c j : Value) (wr : World) : Prop :=
  ∃ k : Nat, k ≤ n ∧ j = .int .i64 k ∧ c = .int .i64 (cnt (fun j => !has (f j) (byteV s (i + j))) k) ∧ Ext w wr

def HeldAt (B bb off k : Nat) (sl : Value) (d : Cls) (wr W : World) : Prop :=
  Ext wr W ∧ W.cell? ⟨B, 0, none⟩ = some sl ∧ W.cell? ⟨bb, off + k * 4, none⟩ = some (.int .u64 d.w0) ∧ W.cell? ⟨bb, off + k * 4 + 1, none⟩ = some (.int .u64 d.w1) ∧ W.cell? ⟨bb, off + k * 4 + 2, none⟩ = some (.int .u64 d.w2) ∧ W.cell? ⟨bb, off + k * 4 + 3, none⟩ = some (.int .u64 d.w3)
theorem HeldAt.ext {B bb off k : Nat} {sl : Value} {d : Cls} {wr W W' : World} (h : HeldAt B bb off k sl d wr W) (he : Ext W W') : HeldAt B bb off k sl d wr W' := by
  obtain ⟨a, b1, b2, b3, b4, b5⟩ := h
  exact ⟨a.trans he, he.cell b1, he.cell b2, he.cell b3, he.cell b4, he.cell b5⟩

set_option maxRecDepth 100000 in
set_option maxHeartbeats 2000000 in
theorem refat_any (p : Option Addr) (n cap : Nat) (K : Int) (f : Nat → Cls) (hcap : n ≤ cap) (hn : n ≤ 1099511627776) (hcls : ∀ j, (f j).ok) (s : ByteArray) (hs : s.size ≤ 1099511627776) (i : Nat) (hi : i ≤ 1099511627777) (w : World) (hr : RdC w p n f) :
    Calls Try.prog 70 #[leafVal p n cap K, .string s, .int .i64 i] w fun e w' => e = .returned (.tuple #[.int .i64 (atN f s n K i : Nat), .bool (atB f n K s.size i)]) ∧ Ext w w' := by
  have hE0 := (Ext.refl w).alloc (.cells #[.slice p n cap, .int .i64 K] 24)
  have hnew := heap_alloc_new w (.cells #[.slice p n cap, .int .i64 K] 24)
  have Hrt := Lib.hid (fun W (hW : Ext w W) => refright_any p n cap K f hcap hn hcls W (hr.ext hW))
  have hatn : atN f s n K i = if atB f n K s.size i then missV f s n i else 0 := rfl
  generalize atN f s n K i = m at *
  have hat : atB f n K s.size i = (rightB f n K && decide (i + n ≤ s.size)) := rfl
  generalize rightB f n K = r at *
  generalize atB f n K s.size i = a at *
  have Hat := Lib.hid hat
  have Hatn := Lib.hid hatn
  have Hr := Lib.hid hr
  have Hcls := Lib.hid hcls
  clear hat hatn hr hcls
  unfold leafVal at *
  go_enter Try.func70, Try.ntmps70
  go_wp2_with fail
  generalize w.alloc (.cells #[.slice p n cap, .int .i64 K] 24) = W at *
  refine (Hrt.out _ hE0).mono ?_
  rintro e w2 ⟨rfl, hE2⟩
  have c0 : w2.cell? ⟨w.heap.size, 0, none⟩ = some (.slice p n cap) := hE2.cell (cell_of_row _ _ _ _ _ _ hnew)
  have HE2 := Lib.hid (hE0.trans hE2)
  clear hE0 hnew hE2
  cases r

  · go_wp2_with fail
    go_ret2
    have := Hat.out
    rw [Bool.false_and] at this
    have h5 := Hatn.out
    subst this
    subst h5
    exact ⟨rfl, HE2.out⟩
  · by_cases hfit : (s.size : Int) - (n : Int) < (i : Int)
    · have i1 : IntKind.i64.wrap ((s.size : Int) - n) = (s.size : Int) - n := IntWalk.i64_in _ ⟨by omega, by omega⟩
      have i2 : ¬ ((i : Int) < 0) := by omega
      go_wp2_with fail
      go_ret2
      have := Hat.out
      rw [decide_eq_false (by omega), Bool.and_false] at this
      have h5 := Hatn.out
      subst this
      subst h5
      exact ⟨rfl, HE2.out⟩
    · have i1 : IntKind.i64.wrap ((s.size : Int) - n) = (s.size : Int) - n := IntWalk.i64_in _ ⟨by omega, by omega⟩
      have i2 : ¬ ((i : Int) < 0) := by omega
      have hfit2 : i + n ≤ s.size := by omega
      have ha : a = true := by have := Hat.out; rw [decide_eq_true (by omega)] at this; exact this
      subst ha
      go_wp2_with fail
      have HE2 := Lib.hid HE2.out
      generalize w.heap.size = B at *
      go_loopw [8, 9] (fun c j wr => AtRel f s n i w2 c j wr) (fun _ j _ => n - (intOf j).toNat)
      case atStart => exact ⟨0, by omega, rfl, rfl, Ext.refl _⟩
      case round =>
        obtain ⟨k, hk, rfl, rfl, hE⟩ := hrel
        have hcl := cnt_le (fun j => !has (f j) (byteV s (i + j))) k
        have hc0 := hE.cell c0
        have HE := Lib.hid hE
        clear hE
        by_cases hlt : k < n
        · obtain ⟨bb, off, rfl, hd⟩ := (Hr.out.ext (HE2.out.trans HE.out)).at hlt
          obtain ⟨q, hq⟩ : ∃ q : Nat, q = i + k := ⟨_, rfl⟩
          have hqs : q < s.size := by omega
          have hbv := byteV_eq hqs
          have i3 : IntKind.i64.wrap ((i : Int) + k) = q := by rw [IntWalk.i64_in _ ⟨by omega, by omega⟩]; omega
          have hstep : cnt (fun j => !has (f j) (byteV s (i + j))) (k + 1) = cnt (fun j => !has (f j) (byteV s (i + j))) k + if !has (f k) (byteV s (i + k)) then 1 else 0 := rfl
          rw [← hq] at hstep
          have Hh := Lib.hid (fun W => refhas_any (f k) (Hcls.out k) (byteV s q) (byteV_lt s q) W)
          generalize f k = d at *
          have h8 : Hid (HeldAt B bb off k (.slice (some ⟨bb, off, none⟩) n cap) d wr wr) := ⟨Ext.refl _, hc0, hd.1, hd.2.1, hd.2.2.1, hd.2.2.2⟩
          generalize cnt (fun j => !has (f j) (byteV s (i + j))) k = z at *
          generalize hx : has d (byteV s q) = x at *
          have Hs := Lib.hid hstep
          have b1 : (0 : Int) ≤ (k : Int) := by omega
          have b2 : (k : Int) < (n : Int) := by omega
          have b3 : (0 : Int) ≤ (q : Int) := by omega
          have b4 : (q : Int) < (s.size : Int) := by omega
          clear hstep hd hx hq
          go_wp2_with fail
          go_region_held3 (fun W' => Ext wr W' ∧ W'.cell? ⟨B, 0, none⟩ = some (.slice (some ⟨bb, off, none⟩) n cap) ∧ W'.cell? ⟨bb, off + k * 4, none⟩ = some (.int .u64 d.w0) ∧ W'.cell? ⟨bb, off + k * 4 + 1, none⟩ = some (.int .u64 d.w1) ∧ W'.cell? ⟨bb, off + k * 4 + 2, none⟩ = some (.int .u64 d.w2) ∧ W'.cell? ⟨bb, off + k * 4 + 3, none⟩ = some (.int .u64 d.w3))
            ((first | exact h8.out | exact h8.out.ext (Ext.refl wr).drew | exact (h8.out.ext (Ext.refl wr).drew).ext hb2))
            ((go_at_call 49; refine (Hh.out _).mono ?_; rintro e w3 ⟨rfl, hb2⟩))
          have HE3 := Lib.hid (HE.out.trans ((Ext.refl wr).drew.trans hb2))
          clear h8 hb2
          cases x
          · go_wp2_with fail
            go_roundw
            case rel => exact ⟨k + 1, by omega, by go_num, by rw [Hs.out]; go_num, HE3.out⟩
            case measure => simp [intOf]; omega
          · go_wp2_with fail
            go_roundw
            case rel => exact ⟨k + 1, by omega, by go_num, by rw [Hs.out]; rfl, HE3.out⟩
            case measure => simp [intOf]; omega
        · have e : k = n := by omega
          subst e
          have hm : m = cnt (fun j => !has (f j) (byteV s (i + j))) k := by
            have h5 := Hatn.out
            rw [if_pos True.intro] at h5
            exact h5
          have Hm := Lib.hid hm
          clear hm
          generalize cnt (fun j => !has (f j) (byteV s (i + j))) k = z at *
          go_wp2_with fail
          go_ret2
          exact ⟨by rw [Hm.out]; rfl, HE2.out.trans HE.out⟩

/-- How many miss at each place: the list. -/
def countsL (f : Nat → Cls) (s : ByteArray) (n : Nat) (K : Int) (k : Nat) : List Nat := ((List.range k).filter fun i => atB f n K s.size i).map fun i => missV f s n i
theorem countsL_succ (f : Nat → Cls) (s : ByteArray) (n : Nat) (K : Int) (k : Nat) : countsL f s n K (k + 1) = countsL f s n K k ++ if atB f n K s.size k = true then [missV f s n k] else [] := by
  unfold countsL
  rw [List.range_succ, List.filter_append, List.map_append]
  congr 1
  cases h : atB f n K s.size k <;> simp [h]
theorem countsL_len (f : Nat → Cls) (s : ByteArray) (n : Nat) (K : Int) (k : Nat) : (countsL f s n K k).length ≤ k := by
  unfold countsL
  rw [List.length_map]
  exact Nat.le_trans (List.length_filter_le _ _) (by simp)

def RCountsRel (f : Nat → Cls) (s : ByteArray) (n : Nat) (K : Int) (w0 : World) (v i : Value) (wr : World) : Prop :=
  ∃ k : Nat, k ≤ s.size + 1 ∧ i = .int .i64 k ∧ wr.ownsRow w0.heap.size 3 1 v (countsL f s n K k).length ((countsL f s n K k).map In) ∧ Ext w0 wr

set_option maxRecDepth 100000 in
set_option maxHeartbeats 2000000 in
theorem refcounts8_any (p : Option Addr) (n cap : Nat) (K : Int) (f : Nat → Cls) (hcap : n ≤ cap) (hn : n ≤ 1099511627776) (hcls : ∀ j, (f j).ok) (s : ByteArray) (hs : s.size ≤ 1099511627776) (w : World) (hr : RdC w p n f) :
    Calls Try.prog 31 #[leafVal p n cap K, .string s] w fun e w' => ∃ v, e = .returned v ∧ w'.ownsRow w.heap.size 3 1 v (countsL f s n K (s.size + 1)).length ((countsL f s n K (s.size + 1)).map In) ∧ Ext w w' := by
  obtain ⟨i0, hi, hz0, hz1, hz2⟩ := info_parts info_int
  have hE0 := (Ext.refl w).alloc (.cells #[.slice p n cap, .int .i64 K] 24)
  have hnew := heap_alloc_new w (.cells #[.slice p n cap, .int .i64 K] 24)
  have Hat := Lib.hid (fun i hi W (hW : Ext w W) => refat_any p n cap K f hcap hn hcls s hs i hi W (hr.ext hW))
  clear hr
  unfold leafVal at *
  go_enter Try.func31, Try.ntmps31
  go_wp2_with fail
  generalize w.alloc (.cells #[.slice p n cap, .int .i64 K] 24) = W at *
  have HE0 := Lib.hid hE0
  have Hnew := Lib.hid hnew
  clear hE0 hnew
  generalize hB : w.heap.size = B at *
  go_loopw [5, 6, 7, 8] (fun v i _ _ wr => RCountsRel f s n K W v i wr) (fun _ i _ _ _ => s.size + 1 - (intOf i).toNat)
  case atStart => exact ⟨0, by omega, rfl, by simp [World.ownsRow, countsL], Ext.refl _⟩
  case round =>
    obtain ⟨k, hk, rfl, hown, hE⟩ := hrel
    have hlen := countsL_len f s n K k
    have c0 : wr.cell? ⟨B, 0, none⟩ = some (.slice p n cap) := hE.cell (cell_of_row _ _ _ _ _ _ Hnew.out)
    have c1 : wr.cell? ⟨B, 1, none⟩ = some (.int .i64 K) := hE.cell (cell_of_row _ _ _ _ _ _ Hnew.out)
    have Hown := Lib.hid hown
    have HE := Lib.hid hE
    clear hown hE
    by_cases hlt : k < s.size + 1
    · have hle : (k : Int) ≤ (s.size : Int) := by omega
      have hstep := countsL_succ f s n K k
      have hatn : atN f s n K k = if atB f n K s.size k then missV f s n k else 0 := rfl
      have Hat2 := Lib.hid (Hat.out k (by omega) wr (HE0.out.trans HE.out))
      generalize atN f s n K k = z at *
      cases hx : atB f n K s.size k
      · rw [hx, if_neg (by decide), List.append_nil] at hstep
        rw [hx] at Hat2
        have Hs := Lib.hid hstep
        clear hstep hatn hx
        go_wp2_with fail
        refine Hat2.out.mono ?_
        rintro e w2 ⟨rfl, hE2⟩
        go_wp2_with fail
        go_roundw
        case rel => exact ⟨k + 1, by omega, by go_num, by rw [Hs.out]; exact hE2.owns Hown.out, HE.out.trans hE2⟩
        case measure => simp [intOf]; omega
      · rw [hx, if_pos rfl] at hstep
        rw [hx] at Hat2 hatn
        rw [if_pos rfl] at hatn
        rw [← hatn] at hstep
        have Hs := Lib.hid hstep
        clear hstep hatn hx
        go_wp2_with fail
        refine Hat2.out.mono ?_
        rintro e w2 ⟨rfl, hE2⟩
        have Hown2 := Lib.hid (hE2.owns Hown.out)
        have HE2 := Lib.hid (HE.out.trans hE2)
        have hsz := HE2.out.size
        clear hE2 c0 c1
        go_wp2_with (at_builtin; refine wpList_append_own _ rfl (.tmp 23) (.tmp 25) 35 rfl W.heap.size 3 i0 (.int .i64 0) 1 8 Try.underlying35 hi hz0 hz1 hz2 rfl (by decide) _ _ _ rfl (Hown2.out.alloc _) ⟨w2.heap.size, 0, none⟩ 1 1 [.int .i64 z] rfl rfl ?c1 ?c2 ?c3 ?c4 ?c5 ?_)
        case c1 => exact one_new _ _ _
        case c2 => intro u hu; rw [List.mem_singleton.1 hu]; rfl
        case c3 => unfold maxLen; omega
        case c4 => omega
        case c5 => simp; omega
        intro v' w3 hown3 hgrow _
        have hE3 : Ext W w3 := (HE2.out.alloc _).grown hgrow (fun q hq => (Hown2.out.lt q hq).1)
        have Hown3 := Lib.hid hown3
        clear hown3 hgrow
        go_wp2
        go_roundw
        case rel => exact ⟨k + 1, by omega, by go_num, by rw [Hs.out, List.length_append, List.map_append]; exact Hown3.out, hE3⟩
        case measure => simp [intOf]; omega
    · have e : k = s.size + 1 := by omega
      subst e
      go_wp2_with fail
      go_ret
      exact ⟨_, rfl, ownsRow_lower Hown.out HE0.out.size, HE0.out.trans HE.out⟩

/-- Where a leaf is found, as the document says it. -/
def findL (f : Nat → Cls) (s : ByteArray) (n : Nat) (K : Int) : List Nat := hitsL (IL (countsL f s n K (s.size + 1))) K (countsL f s n K (s.size + 1)).length

set_option maxRecDepth 100000 in
set_option maxHeartbeats 2000000 in
theorem reffind8_any (p : Option Addr) (n cap : Nat) (K : Int) (f : Nat → Cls) (hcap : n ≤ cap) (hn : n ≤ 1099511627776) (hcls : ∀ j, (f j).ok) (s : ByteArray) (hs : s.size ≤ 1099511627776) (w : World) (hr : RdC w p n f) :
    Calls Try.prog 27 #[leafVal p n cap K, .string s] w fun e w' => ∃ v, e = .returned v ∧ w'.ownsRow w.heap.size 3 1 v (findL f s n K).length ((findL f s n K).map In) ∧ Ext w w' := by
  have hE0 := (Ext.refl w).alloc (.cells #[.slice p n cap, .int .i64 K] 24)
  have hnew := heap_alloc_new w (.cells #[.slice p n cap, .int .i64 K] 24)
  have Hc := Lib.hid (fun W (hW : Ext w W) => refcounts8_any p n cap K f hcap hn hcls s hs W (hr.ext hW))
  have hlen := countsL_len f s n K (s.size + 1)
  clear hr
  unfold findL
  generalize countsL f s n K (s.size + 1) = L at *
  unfold leafVal at *
  go_enter Try.func27, Try.ntmps27
  go_wp2_with fail
  generalize w.alloc (.cells #[.slice p n cap, .int .i64 K] 24) = W at *
  have c0 : W.cell? ⟨w.heap.size, 0, none⟩ = some (.slice p n cap) := cell_of_row _ _ _ _ _ _ hnew
  have c1 : W.cell? ⟨w.heap.size, 1, none⟩ = some (.int .i64 K) := cell_of_row _ _ _ _ _ _ hnew
  have HE0 := Lib.hid hE0
  clear hE0 hnew
  generalize hB : w.heap.size = B at *
  go_region_held3 (fun W' => Ext W W' ∧ W'.cell? ⟨B, 0, none⟩ = some (.slice p n cap) ∧ W'.cell? ⟨B, 1, none⟩ = some (.int .i64 K))
    ((first | exact ⟨Ext.refl W, c0, c1⟩ | exact ⟨(Ext.refl W).drew, c0, c1⟩ | exact ⟨(Ext.refl W).drew.trans hb2, hb2.cell c0, hb2.cell c1⟩ | exact ⟨((Ext.refl W).drew.trans hb2).trans hb3, hb3.cell (hb2.cell c0), hb3.cell (hb2.cell c1)⟩))
    (first | (go_at_call 31; refine (Hc.out _ (HE0.out.trans (Ext.refl W).drew)).mono ?_; rintro e w2 ⟨v, rfl, hv, hb2⟩) | (go_at_call 57; refine (rhits_any L.length (IL L) K (by omega) v _ (Sl.of_list hv)).mono ?_; rintro e w3 ⟨v2, rfl, hv2, hb3⟩))
  go_wp2_with fail
  go_ret
  refine ⟨_, rfl, ownsRow_lower hv2 ?_, HE0.out.trans (((Ext.refl W).drew.trans hb2).trans hb3)⟩
  have h1 := HE0.out.size
  have h2 := ((Ext.refl W).drew.trans hb2).size
  omega
end Go.Proofs.Ytmadelflnjhibaa
