import Derived.Test.YtmadelflnjhibaaClassB
namespace Go.Proofs.Ytmadelflnjhibaa
open Go.RowKit
attribute [local go_sem] Cls.val clsNone clsAll

/-- At p stand n sets. -/
def RdC (w : World) (p : Option Addr) (n : Nat) (f : Nat → Cls) : Prop :=
  n = 0 ∨ ∃ b off, p = some ⟨b, off, none⟩ ∧ ∀ j, j < n → ClsAt w b (off + j * 4) (f j)
theorem RdC.ext {w w' : World} {p : Option Addr} {n : Nat} {f : Nat → Cls} (h : RdC w p n f) (he : Ext w w') : RdC w' p n f := by
  rcases h with h | ⟨b, off, h1, h2⟩
  · exact .inl h
  · exact .inr ⟨b, off, h1, fun j hj => (h2 j hj).ext he⟩
theorem RdC.at {w : World} {p : Option Addr} {n : Nat} {f : Nat → Cls} (h : RdC w p n f) {j : Nat} (hj : j < n) : ∃ b off, p = some ⟨b, off, none⟩ ∧ ClsAt w b (off + j * 4) (f j) := by
  rcases h with h | ⟨b, off, h1, h2⟩
  · omega
  · exact ⟨b, off, h1, h2 j hj⟩

theorem cells4_alloc {W : World} {p0 p1 p2 p3 : Addr} {x0 x1 x2 x3 : Value} (o : Obj) (c0 : W.cell? p0 = some x0) (c1 : W.cell? p1 = some x1) (c2 : W.cell? p2 = some x2) (c3 : W.cell? p3 = some x3) :
    (W.alloc o).cell? p0 = some x0 ∧ (W.alloc o).cell? p1 = some x1 ∧ (W.alloc o).cell? p2 = some x2 ∧ (W.alloc o).cell? p3 = some x3 :=
  ⟨((Ext.refl W).alloc o).cell c0, ((Ext.refl W).alloc o).cell c1, ((Ext.refl W).alloc o).cell c2, ((Ext.refl W).alloc o).cell c3⟩

/-- A leaf as a value. -/
def leafVal (p : Option Addr) (n cap : Nat) (K : Int) : Value := .agg #[.slice p n cap, .int .i64 K]

/-- Where a set stands among the first k. -/
def whereV (f : Nat → Cls) (c : Cls) (k : Nat) : List Nat := (List.range k).filter fun j => f j = c

def In (j : Nat) : Value := .int .i64 j

theorem whereV_len (f : Nat → Cls) (c : Cls) (k : Nat) : (whereV f c k).length ≤ k := by
  unfold whereV
  exact Nat.le_trans (List.length_filter_le _ _) (by simp)

def WhereRel (f : Nat → Cls) (c : Cls) (n : Nat) (w0 : World) (v i : Value) (wr : World) : Prop :=
  ∃ k : Nat, k ≤ n ∧ i = .int .i64 k ∧ wr.ownsRow w0.heap.size 3 1 v (whereV f c k).length ((whereV f c k).map In) ∧ Ext w0 wr

set_option maxRecDepth 100000 in
set_option maxHeartbeats 1000000 in
theorem where_any (p : Option Addr) (n cap : Nat) (K : Int) (f : Nat → Cls) (c : Cls) (hn : n ≤ 1099511627776) (hcap : n ≤ cap) (w : World) (hr : RdC w p n f) :
    Calls Try.prog 71 #[leafVal p n cap K, c.val] w fun e w' => ∃ v, e = .returned v ∧ w'.ownsRow w.heap.size 3 1 v (whereV f c n).length ((whereV f c n).map In) ∧ Ext w w' := by
  obtain ⟨i0, hi, hz0, hz1, hz2⟩ := info_parts info_int
  have Hr := Lib.hid hr
  clear hr
  unfold Cls.val leafVal
  go_enter Try.func71, Try.ntmps71
  go_wp2_with fail
  obtain ⟨hb1, hb2⟩ := box_cells w (.cells #[.slice p n cap, .int .i64 K] 24) (.cells #[.int .u64 c.w0, .int .u64 c.w1, .int .u64 c.w2, .int .u64 c.w3] 27)
  have hE0 := ((Ext.refl w).alloc (.cells #[.slice p n cap, .int .i64 K] 24)).alloc (.cells #[.int .u64 c.w0, .int .u64 c.w1, .int .u64 c.w2, .int .u64 c.w3] 27)
  generalize (w.alloc (.cells #[.slice p n cap, .int .i64 K] 24)).alloc (.cells #[.int .u64 c.w0, .int .u64 c.w1, .int .u64 c.w2, .int .u64 c.w3] 27) = W at *
  have HE0 := Lib.hid hE0
  have Hb2 := Lib.hid hb2
  clear hE0 hb1 hb2
  generalize hB : w.heap.size = B at *
  go_loopw [5, 6, 7, 11] (fun v _ _ i wr => WhereRel f c n W v i wr) (fun _ _ _ i _ => n - (intOf i).toNat)
  case atStart => exact ⟨0, by omega, rfl, by simp [World.ownsRow, whereV], Ext.refl _⟩
  case round =>
    obtain ⟨k, hk, rfl, hown, hE⟩ := hrel
    have hlen := whereV_len f c k
    have Hown := Lib.hid hown
    have HE := Lib.hid hE
    obtain ⟨⟨c0, c1, c2, c3⟩, -⟩ := cls_cells (hE.heap Hb2.out)
    have hsz := hE.size
    clear hown hE
    by_cases hlt : k < n
    · obtain ⟨b, off, rfl, d0, d1, d2, d3⟩ := (Hr.out.ext (HE0.out.trans HE.out)).at hlt
      have hstep : whereV f c (k + 1) = whereV f c k ++ if f k = c then [k] else [] := by
        unfold whereV
        rw [List.range_succ, List.filter_append]
        congr 1
        by_cases e : f k = c <;> simp [e]
      have heq := fun V => eql_cls (f k) c V
      by_cases hx : f k = c
      · rw [if_pos hx] at hstep
        rw [decide_eq_true hx] at heq
        have Hs := Lib.hid hstep
        generalize hd : f k = d at *
        have Hd := Lib.hid hd
        clear hstep hd hx
        obtain ⟨a0, a1, a2, a3⟩ := cells4_alloc (.cells #[.int .u64 d.w0, .int .u64 d.w1, .int .u64 d.w2, .int .u64 d.w3] 27) c0 c1 c2 c3
        have HEa := Lib.hid (HE.out.alloc (.cells #[.int .u64 d.w0, .int .u64 d.w1, .int .u64 d.w2, .int .u64 d.w3] 27))
        have Howna := Lib.hid (((Ext.refl wr).alloc (.cells #[.int .u64 d.w0, .int .u64 d.w1, .int .u64 d.w2, .int .u64 d.w3] 27)).owns Hown.out)
        go_wp2_with (at_builtin; refine wpList_append_own _ rfl (.tmp 19) (.tmp 21) 35 rfl W.heap.size 3 i0 (.int .i64 0) 1 8 Try.underlying35 hi hz0 hz1 hz2 rfl (by decide) _ _ _ rfl (Howna.out.alloc _) ⟨wr.heap.size + 1, 0, none⟩ 1 1 [.int .i64 k] rfl rfl ?c1 ?c2 ?c3 ?c4 ?c5 ?_)
        case c1 => have h := one_new (wr.alloc (.cells #[.int .u64 d.w0, .int .u64 d.w1, .int .u64 d.w2, .int .u64 d.w3] 27)) (.int .i64 k) 3; rwa [World.size_alloc] at h
        case c2 => intro u hu; rw [List.mem_singleton.1 hu]; rfl
        case c3 => unfold maxLen; omega
        case c4 => omega
        case c5 => simp; omega
        intro v' w3 hown3 hgrow _
        have hE3 : Ext W w3 := (HEa.out.alloc _).grown hgrow (fun q hq => (Howna.out.lt q hq).1)
        have Hown3 := Lib.hid hown3
        clear hown3 hgrow
        go_wp2
        go_roundw
        case rel => exact ⟨k + 1, by omega, by go_num, by rw [Hs.out, List.length_append, List.map_append]; exact Hown3.out, hE3⟩
        case measure => simp [intOf]; omega
      · rw [if_neg hx, List.append_nil] at hstep
        rw [decide_eq_false hx] at heq
        have Hs := Lib.hid hstep
        generalize hd : f k = d at *
        have Hd := Lib.hid hd
        clear hstep hd hx
        obtain ⟨a0, a1, a2, a3⟩ := cells4_alloc (.cells #[.int .u64 d.w0, .int .u64 d.w1, .int .u64 d.w2, .int .u64 d.w3] 27) c0 c1 c2 c3
        go_wp2_with fail
        go_roundw
        case rel => exact ⟨k + 1, by omega, by go_num, by rw [Hs.out]; exact (((Ext.refl wr).alloc _).owns Hown.out), HE.out.alloc _⟩
        case measure => simp [intOf]; omega
    · have e : k = n := by omega
      subst e
      go_wp2_with fail
      go_ret
      exact ⟨_, rfl, ownsRow_lower Hown.out HE0.out.size, HE0.out.trans HE.out⟩

theorem ownsRow_form {w : World} {base : Nat} {e : TypeId} {size : Nat} {v : Value} {n : Nat} {xs : List Value} (h : w.ownsRow base e size v n xs) : ∃ p cap, v = .slice p n cap ∧ n ≤ cap := by
  rcases h.2 with ⟨rfl, rfl⟩ | ⟨g, cap, cur, rfl, _, _, hn, _⟩
  · exact ⟨none, 0, rfl, Nat.le_refl _⟩
  · exact ⟨_, cap, rfl, hn⟩

/-- How many elements are bound. -/
def boundV (f : Nat → Cls) (n : Nat) : Nat := n - (whereV f clsAll n).length

set_option maxRecDepth 100000 in
set_option maxHeartbeats 1000000 in
theorem bound_any (p : Option Addr) (n cap : Nat) (K : Int) (f : Nat → Cls) (hn : n ≤ 1099511627776) (hcap : n ≤ cap) (w : World) (hr : RdC w p n f) :
    Calls Try.prog 32 #[leafVal p n cap K] w fun e w' => e = .returned (.int .i64 (boundV f n)) ∧ Ext w w' := by
  have hE0 := (Ext.refl w).alloc (.cells #[.slice p n cap, .int .i64 K] 24)
  have hnew := heap_alloc_new w (.cells #[.slice p n cap, .int .i64 K] 24)
  have hlen := whereV_len f clsAll n
  unfold boundV
  have Hr := Lib.hid hr
  clear hr
  unfold leafVal
  go_enter Try.func32, Try.ntmps32
  go_wp2_with fail
  generalize hW : w.alloc (.cells #[.slice p n cap, .int .i64 K] 24) = W at *
  have c0 : W.cell? ⟨w.heap.size, 0, none⟩ = some (.slice p n cap) := cell_of_row _ _ _ _ _ _ hnew
  have c1 : W.cell? ⟨w.heap.size, 1, none⟩ = some (.int .i64 K) := cell_of_row _ _ _ _ _ _ hnew
  have HE0 := Lib.hid hE0
  clear hnew hE0 hW
  generalize w.heap.size = B at *
  have hw : Hid (∀ W', Ext W W' → Calls Try.prog 71 #[.agg #[.slice p n cap, .int .i64 K], clsAll.val] W' fun e w' => ∃ v, e = .returned v ∧ w'.ownsRow W'.heap.size 3 1 v (whereV f clsAll n).length ((whereV f clsAll n).map In) ∧ Ext W' w') := fun W' h => where_any p n cap K f clsAll hn hcap W' (Hr.out.ext (HE0.out.trans h))
  generalize hq : (whereV f clsAll n).length = q at *
  have hsub : ((n - q : Nat) : Int) = (n : Int) - (q : Int) := by omega
  have Hsub := Lib.hid hsub
  have Hq := Lib.hid hq
  have i1 : IntKind.i64.wrap ((n : Int) - (q : Int)) = (n : Int) - (q : Int) := IntWalk.i64_in _ ⟨by omega, by omega⟩
  clear hsub hq
  go_region_held3 (fun W' => Ext W W' ∧ W'.cell? ⟨B, 0, none⟩ = some (.slice p n cap) ∧ W'.cell? ⟨B, 1, none⟩ = some (.int .i64 K)) ((first | exact ⟨Ext.refl W, c0, c1⟩ | exact ⟨(Ext.refl W).drew, c0, c1⟩ | exact ⟨(Ext.refl W).drew.trans hb2, hb2.cell c0, hb2.cell c1⟩ | exact ⟨((Ext.refl W).drew.trans hb2).trans hb3, hb3.cell (hb2.cell c0), hb3.cell (hb2.cell c1)⟩)) (first | (go_at_call 59; refine (full_any _).mono ?_; rintro e w2 ⟨rfl, hb2⟩) | (go_at_call 71; refine (hw.out _ ((Ext.refl W).drew.trans hb2)).mono ?_; rintro e w3 ⟨v, rfl, hv, hb3⟩; obtain ⟨pv, cv, rfl, hcv⟩ := ownsRow_form hv))
  go_wp2_with fail
  go_ret
  exact ⟨by rw [Hq.out, Hsub.out]; rfl, HE0.out.trans (((Ext.refl W).drew.trans hb2).trans hb3)⟩
end Go.Proofs.Ytmadelflnjhibaa
