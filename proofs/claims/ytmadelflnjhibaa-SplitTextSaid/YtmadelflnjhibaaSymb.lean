import Derived.Test.YtmadelflnjhibaaIndex
namespace Go.Proofs.Ytmadelflnjhibaa
open Go.RowKit
attribute [local go_sem] Cls.val clsNone clsAll

def one (b : Bool) : Int := if b then 1 else 0

def RowRel (g n B : Nat) (is : Nat → Bool) (w : World) (i : Value) (wr : World) : Prop :=
  ∃ k : Nat, k ≤ n ∧ i = .int .i64 k ∧ Ext w wr ∧ Row wr 25 g n (U fun j => if j < k then one (is j) else 0) ∧ B ≤ g

set_option maxRecDepth 100000 in
set_option maxHeartbeats 1000000 in
theorem row_any (gf : FuncId) (eg : ∀ args w, (callFunc gf args).run Try.prog w = .ok (.enter gf args) w) (v1 v2 : Value) (n : Nat) (hn : n ≤ 1099511627776) (is : Nat → Bool) (w : World)
    (hf : ∀ i, i < n → ∀ W, Ext w W → Calls Try.prog gf #[.int .i64 (i : Int), v1, v2] W fun e w' => e = .returned (.bool (is i)) ∧ Ext W w') :
    Calls Try.prog 46 #[.int .i64 n, .func (.func gf) #[] #[v1, v2]] w fun e w' =>
      ∃ g, e = .returned (.slice (some ⟨g, 0, none⟩) n n) ∧ w.heap.size ≤ g ∧ Row w' 25 g n (U fun j => one (is j)) ∧ Ext w w' := by
  obtain ⟨w1, hm, hrow, hE⟩ := make_u64 w n (by omega)
  have Hf := Lib.hid hf
  have HRow := Lib.hid hrow
  have HE := Lib.hid hE
  clear hf hrow hE
  go_enter Try.func46, Try.ntmps46
  go_wp2_with fail
  clear hm
  go_loopw [6, 11] (fun _ i wr => RowRel w.heap.size n w.heap.size is w i wr) (fun _ i _ => n - (intOf i).toNat)
  case atStart => exact ⟨0, by omega, rfl, HE.out, HRow.out.congr fun j _ => by simp [U], Nat.le_refl _⟩
  case round =>
    clear HRow HE
    obtain ⟨k, hk, rfl, hE, hrow, hB⟩ := hrel
    have HE := Lib.hid hE
    have HRow := Lib.hid hrow
    clear hE hrow
    by_cases hlt : k < n
    · go_wp2_with fail
      refine (Hf.out k hlt _ HE.out).mono ?_
      rintro e w2 ⟨rfl, hE2⟩
      have hrow2 := HRow.out.ext hE2
      have hcell := hrow2.cell hlt
      have hfr := hrow2.frozen k
      unfold U at hcell
      have HRow2 := Lib.hid hrow2
      have HE2 := Lib.hid (HE.out.trans hE2)
      have b1 : (0 : Int) ≤ (k : Int) := by omega
      have b2 : (k : Int) < (n : Int) := by omega
      clear hrow2 hE2 HRow HE
      cases hx : is k
      · have hnew : Hid (Row w2 25 w.heap.size n (U fun j => if j < k + 1 then one (is j) else 0)) := HRow2.out.congr fun j hj => by
          unfold U
          dsimp only
          by_cases e : j = k
          · subst e; simp [hx, one]
          · by_cases e2 : j < k
            · rw [if_pos e2, if_pos (by omega)]
            · rw [if_neg e2, if_neg (by omega)]
        clear hcell
        go_wp2_with fail
        go_roundw
        case rel => exact ⟨k + 1, by omega, by go_num, HE2.out, hnew.out, Nat.le_refl _⟩
        case measure => simp [intOf]; omega
      · have hnew : Hid (Row (w2.setCell ⟨w.heap.size, k, none⟩ (.int .u64 1)) 25 w.heap.size n (U fun j => if j < k + 1 then one (is j) else 0)) := (HRow2.out.set k (.int .u64 1)).congr fun j hj => by
          unfold U
          dsimp only
          by_cases e : j = k
          · subst e; simp [hx, one]
          · rw [if_neg e]
            by_cases e2 : j < k
            · rw [if_pos e2, if_pos (by omega)]
            · rw [if_neg e2, if_neg (by omega)]
        go_wp2_with fail
        go_roundw
        case rel => exact ⟨k + 1, by omega, by go_num, HE2.out.setCell (Nat.le_refl _) _, hnew.out, Nat.le_refl _⟩
        case measure => simp [intOf]; omega
    · have e : k = n := by omega
      subst e
      go_wp2_with fail
      go_ret
      exact ⟨_, rfl, Nat.le_refl _, HRow.out.congr fun j hj => by simp [U, hj], HE.out⟩

/-- A text's byte. -/
def byteV (s : ByteArray) (i : Nat) : Nat := if h : i < s.size then (s[i]'h).toNat else 0
theorem byteV_eq {s : ByteArray} {i : Nat} (h : i < s.size) : (s[i]'h).toNat = byteV s i := by unfold byteV; rw [dif_pos h]
theorem byteV_lt (s : ByteArray) (i : Nat) : byteV s i < 256 := by
  unfold byteV
  split
  · exact UInt8.toNat_lt _
  · omega

set_option maxRecDepth 100000 in
theorem marks1_any (s : ByteArray) (c : Cls) (hc : c.ok) (i : Nat) (hi : i < s.size) (Bs Bc : Nat) (w : World) (h1 : w.cell? ⟨Bs, 0, none⟩ = some (.string s)) (h2 : ClsAt w Bc 0 c) :
    Calls Try.prog 47 #[.int .i64 i, .pointer (some ⟨Bc, 0, none⟩), .pointer (some ⟨Bs, 0, none⟩)] w fun e w' => e = .returned (.bool (has c (byteV s i))) ∧ Ext w w' := by
  obtain ⟨c0, c1, c2, c3⟩ := h2
  simp only [Nat.zero_add] at c1 c2 c3
  have Hc := Lib.hid hc
  clear hc
  have b1 : (0 : Int) ≤ (i : Int) := by omega
  have b2 : (i : Int) < (s.size : Int) := by omega
  have hbv := byteV_eq hi
  go_enter Try.func47, Try.ntmps47
  go_wp2_with fail
  go_region_held3 (fun W' => Ext w W' ∧ W'.cell? ⟨Bs, 0, none⟩ = some (.string s) ∧ W'.cell? ⟨Bc, 0, none⟩ = some (.int .u64 c.w0) ∧ W'.cell? ⟨Bc, 1, none⟩ = some (.int .u64 c.w1) ∧ W'.cell? ⟨Bc, 2, none⟩ = some (.int .u64 c.w2) ∧ W'.cell? ⟨Bc, 3, none⟩ = some (.int .u64 c.w3)) ((first | exact ⟨Ext.refl w, h1, c0, c1, c2, c3⟩ | exact ⟨(Ext.refl w).drew, h1, c0, c1, c2, c3⟩ | exact ⟨(Ext.refl w).drew.trans hb2, hb2.cell h1, hb2.cell c0, hb2.cell c1, hb2.cell c2, hb2.cell c3⟩)) ((go_at_call 48; refine (has_any c Hc.out (byteV s i) (byteV_lt s i) _).mono ?_; rintro e w2 ⟨rfl, hb2⟩))
  go_wp2_with fail
  go_ret
  exact ⟨rfl, (Ext.refl w).drew.trans hb2⟩

set_option maxRecDepth 100000 in
theorem marks_any (s : ByteArray) (hs : s.size ≤ 1099511627776) (c : Cls) (hc : c.ok) (w : World) :
    Calls Try.prog 18 #[.string s, c.val] w fun e w' =>
      ∃ g, e = .returned (.slice (some ⟨g, 0, none⟩) s.size s.size) ∧ w.heap.size ≤ g ∧ Row w' 25 g s.size (U fun j => one (has c (byteV s j))) ∧ Ext w w' := by
  obtain ⟨hb1, hb2⟩ := box_cells w (.cells #[.string s] 9) (.cells #[.int .u64 c.w0, .int .u64 c.w1, .int .u64 c.w2, .int .u64 c.w3] 27)
  have hE0 := ((Ext.refl w).alloc (.cells #[.string s] 9)).alloc (.cells #[.int .u64 c.w0, .int .u64 c.w1, .int .u64 c.w2, .int .u64 c.w3] 27)
  have Hc := Lib.hid hc
  clear hc
  unfold Cls.val
  go_enter Try.func18, Try.ntmps18
  go_wp2_with fail
  generalize (w.alloc (.cells #[.string s] 9)).alloc (.cells #[.int .u64 c.w0, .int .u64 c.w1, .int .u64 c.w2, .int .u64 c.w3] 27) = W at *
  refine (row_any 47 (fun _ _ => rfl) _ _ s.size hs (fun j => has c (byteV s j)) W (fun i hi V hV => marks1_any s c Hc.out i hi w.heap.size (w.heap.size + 1) V (hV.cell (cell_of_row _ _ _ _ _ _ hb1)) (by obtain ⟨⟨c0, c1, c2, c3⟩, -⟩ := cls_cells (hV.heap hb2); exact ⟨c0, c1, c2, c3⟩))).mono ?_
  rintro e w2 ⟨g, rfl, hg, hrow, hE2⟩
  have HRow := Lib.hid hrow
  have hsz := hE0.size
  have HE2 := Lib.hid (hE0.trans hE2)
  clear hrow hE0 hE2 hb1 hb2
  go_wp2_with fail
  go_ret
  exact ⟨_, rfl, by omega, HRow.out, HE2.out⟩

set_option maxRecDepth 100000 in
theorem places1_any (p : Option Addr) (n cap : Nat) (_ : Int) (f : Nat → Cls) (c : Cls) (_ : n ≤ cap) (_ : n ≤ 1099511627776) (i : Nat) (hi : i < n) (Bl Bc : Nat) (w : World) (h1 : w.cell? ⟨Bl, 0, none⟩ = some (.slice p n cap)) (hr : RdC w p n f) (h2 : ClsAt w Bc 0 c) :
    Calls Try.prog 50 #[.int .i64 i, .pointer (some ⟨Bl, 0, none⟩), .pointer (some ⟨Bc, 0, none⟩)] w fun e w' => e = .returned (.bool (decide (f i = c))) ∧ Ext w w' := by
  obtain ⟨c0, c1, c2, c3⟩ := h2
  simp only [Nat.zero_add] at c1 c2 c3
  obtain ⟨b, off, rfl, d0, d1, d2, d3⟩ := hr.at hi
  have heq := fun V => eql_cls (f i) c V
  have b1 : (0 : Int) ≤ (i : Int) := by omega
  have b2 : (i : Int) < (n : Int) := by omega
  generalize f i = d at *
  generalize hx : decide (d = c) = x at *
  have Hx := Lib.hid hx
  clear hx hr
  go_enter Try.func50, Try.ntmps50
  go_wp2_with fail
  go_quiet (fail)
  go_wp2_with fail
  go_ret
  exact ⟨rfl, (Ext.refl w).drewN _⟩

set_option maxRecDepth 100000 in
theorem places_any (p : Option Addr) (n cap : Nat) (K : Int) (f : Nat → Cls) (c : Cls) (hcap : n ≤ cap) (hn : n ≤ 1099511627776) (w : World) (hr : RdC w p n f) :
    Calls Try.prog 20 #[leafVal p n cap K, c.val] w fun e w' =>
      ∃ g, e = .returned (.slice (some ⟨g, 0, none⟩) n n) ∧ w.heap.size ≤ g ∧ Row w' 25 g n (U fun j => one (decide (f j = c))) ∧ Ext w w' := by
  obtain ⟨hb1, hb2⟩ := box_cells w (.cells #[.slice p n cap, .int .i64 K] 24) (.cells #[.int .u64 c.w0, .int .u64 c.w1, .int .u64 c.w2, .int .u64 c.w3] 27)
  have hE0 := ((Ext.refl w).alloc (.cells #[.slice p n cap, .int .i64 K] 24)).alloc (.cells #[.int .u64 c.w0, .int .u64 c.w1, .int .u64 c.w2, .int .u64 c.w3] 27)
  have Hr := Lib.hid hr
  clear hr
  unfold Cls.val leafVal
  go_enter Try.func20, Try.ntmps20
  go_wp2_with fail
  generalize (w.alloc (.cells #[.slice p n cap, .int .i64 K] 24)).alloc (.cells #[.int .u64 c.w0, .int .u64 c.w1, .int .u64 c.w2, .int .u64 c.w3] 27) = W at *
  refine (row_any 50 (fun _ _ => rfl) _ _ n hn (fun j => decide (f j = c)) W (fun i hi V hV => places1_any p n cap K f c hcap hn i hi w.heap.size (w.heap.size + 1) V (hV.cell (cell_of_row _ _ _ _ _ _ hb1)) (Hr.out.ext (hE0.trans hV)) (by obtain ⟨⟨c0, c1, c2, c3⟩, -⟩ := cls_cells (hV.heap hb2); exact ⟨c0, c1, c2, c3⟩))).mono ?_
  rintro e w2 ⟨g, rfl, hg, hrow, hE2⟩
  have HRow := Lib.hid hrow
  have hsz := hE0.size
  have HE2 := Lib.hid (hE0.trans hE2)
  clear hrow hE0 hE2 hb1 hb2
  go_wp2_with fail
  go_ret
  exact ⟨_, rfl, by omega, HRow.out, HE2.out⟩
end Go.Proofs.Ytmadelflnjhibaa
