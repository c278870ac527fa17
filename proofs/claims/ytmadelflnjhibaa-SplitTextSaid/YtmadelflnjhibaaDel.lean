import Derived.Test.YtmadelflnjhibaaPlain
import Derived.Laws.CopyRow
namespace Go.Proofs.Ytmadelflnjhibaa
open Go.RowKit
attribute [local go_sem] Cls.val clsNone clsAll

/-- A predicate on sets that is handed over: it reads old memory alone. -/
def Pred (w0 : World) (gf : FuncId) (lb : Array Value) (pr : Cls → Bool) : Prop :=
  ∀ c : Cls, c.ok → ∀ W, Ext w0 W → Calls Try.prog gf (#[c.val] ++ lb) W fun e w' => e = .returned (.bool (pr c)) ∧ Ext W w'

def IxRel (h : Nat → Cls) (pr : Cls → Bool) (m : Nat) (w : World) (i : Value) (wr : World) : Prop :=
  ∃ k : Nat, k ≤ m ∧ i = .int .i64 k ∧ (∀ j, j < k → pr (h j) = false) ∧ Ext w wr

set_option maxRecDepth 100000 in
set_option maxHeartbeats 2000000 in
theorem indexfunc_any (gf : FuncId) (eg : ∀ args w, (callFunc gf args).run Try.prog w = .ok (.enter gf args) w) (lb : Array Value) (pr : Cls → Bool) (w0 : World) (hp : Pred w0 gf lb pr)
    (p : Option Addr) (m cap : Nat) (h : Nat → Cls) (hcap : m ≤ cap) (hm : m ≤ 1099511627776) (hok : ∀ j, j < m → (h j).ok) (w : World) (hw : Ext w0 w) (hr : RdC w p m h) :
    Calls Try.prog 102 #[.slice p m cap, .func (.func gf) #[] lb] w fun e w' =>
      ∃ r : Int, e = .returned (.int .i64 r) ∧ ((r = -1 ∧ ∀ j, j < m → pr (h j) = false) ∨ ∃ i : Nat, r = i ∧ i < m ∧ pr (h i) = true ∧ ∀ j, j < i → pr (h j) = false) ∧ Ext w w' := by
  have Hr := Lib.hid hr
  have Hw := Lib.hid hw
  have Hp := Lib.hid hp
  have Hok := Lib.hid hok
  clear hr hw hp hok
  go_enter Try.func102, Try.ntmps102
  go_wp2_with fail
  go_loopw [5, 8] (fun _ i wr => IxRel h pr m w i wr) (fun _ i _ => m - (intOf i).toNat)
  case atStart => exact ⟨0, by omega, rfl, (fun j hj => by omega), Ext.refl _⟩
  case round =>
    obtain ⟨k, hk, rfl, hno, hE⟩ := hrel
    have HE := Lib.hid hE
    have Hno := Lib.hid hno
    clear hE hno
    by_cases hlt : k < m
    · obtain ⟨b, off, rfl, d0, d1, d2, d3⟩ := (Hr.out.ext HE.out).at hlt
      have b1 : (0 : Int) ≤ (k : Int) := by omega
      have b2 : (k : Int) < (m : Int) := by omega
      have Hcall := Lib.hid (Hp.out (h k) (Hok.out k hlt) wr (Hw.out.trans HE.out))
      have Hstep : Hid (pr (h k) = false → ∀ j, j < k + 1 → pr (h j) = false) := fun hx j hj => by
        by_cases e : j = k
        · rw [e]; exact hx
        · exact Hno.out j (by omega)
      have Hyes : Hid (pr (h k) = true → ∃ i : Nat, (k : Int) = i ∧ i < m ∧ pr (h i) = true ∧ ∀ j, j < i → pr (h j) = false) := fun hx => ⟨k, rfl, hlt, hx, Hno.out⟩
      generalize h k = d at *
      generalize pr d = x at *
      cases x
      · go_wp2_with fail
        refine Hcall.out.mono ?_
        rintro e w2 ⟨rfl, hE2⟩
        go_wp2_with fail
        go_roundw
        case rel => exact ⟨k + 1, by omega, by go_num, Hstep.out True.intro, HE.out.trans hE2⟩
        case measure => simp [intOf]; omega
      · go_wp2_with fail
        refine Hcall.out.mono ?_
        rintro e w2 ⟨rfl, hE2⟩
        go_wp2_with fail
        go_ret
        exact ⟨_, rfl, .inr (Hyes.out True.intro), HE.out.trans hE2⟩
    · have e : k = m := by omega
      subst e
      go_wp2_with fail
      go_ret
      exact ⟨-1, rfl, .inl ⟨rfl, Hno.out⟩, HE.out⟩

theorem eql_nil_some (g : Addr) (n cap : Nat) (V : World) : (binOp .eql 22 (.slice (some g) n cap) (.slice none 0 0)).run Try.prog V = .ok (.bool false) V := by
  have h : (Op.equal 22 (.slice (some g) n cap) (.slice none 0 0)).run Try.prog V = .ok false V := by
    show (Op.equalIn (9999 + 1) 22 _ _).run Try.prog V = _
    rw [Op.equalIn]
    simp only [Sem.run_bind, run_underlying Try.underlying22, Result.andThen_ok]
    rfl
  simp only [binOp, Sem.run_bind, h, Result.andThen_ok]
  rfl
theorem eql_nil_nil (V : World) : (binOp .eql 22 (.slice none 0 0) (.slice none 0 0)).run Try.prog V = .ok (.bool true) V := by
  have h : (Op.equal 22 (.slice none 0 0) (.slice none 0 0)).run Try.prog V = .ok true V := by
    show (Op.equalIn (9999 + 1) 22 _ _).run Try.prog V = _
    rw [Op.equalIn]
    simp only [Sem.run_bind, run_underlying Try.underlying22, Result.andThen_ok]
    rfl
  simp only [binOp, Sem.run_bind, h, Result.andThen_ok]
  rfl

set_option maxRecDepth 100000 in
set_option maxHeartbeats 2000000 in
theorem clone_any (base0 : Nat) (v : Value) (ks : List Cls) (hk : ks.length ≤ 1099511627776) (w : World) (hv : ClsRow w base0 v ks) :
    Calls Try.prog 75 #[v] w fun e w' => ∃ v', e = .returned v' ∧ ClsRow w' w.heap.size v' ks ∧ Ext w w' := by
  obtain ⟨i0, hi, hz0, hz1, hz2⟩ := info_parts info_cls
  have Hv := Lib.hid hv
  rcases hv.2 with ⟨rfl, h0⟩ | ⟨g, cap, cur, rfl, hb, hg, hn, hm, hsz, ht⟩
  · have h1 : ks = [] := List.eq_nil_of_length_eq_zero h0
    subst h1
    clear hv Hv
    have heqn := eql_nil_nil
    go_enter Try.func75, Try.ntmps75
    go_wp2_with fail
    go_ret
    exact ⟨_, rfl, by simp [ClsRow, World.ownsRow], Ext.refl _⟩
  · have hlen : (ks.flatMap cells4).length = ks.length * 4 := hv.1
    have hcells : ∀ (j : Nat) (u : Value), (ks.flatMap cells4)[j]? = some u → w.cell? ((⟨g, 0, none⟩ : Addr).add j) = some u := by
      intro j u hu
      have hj := (List.getElem?_eq_some_iff.1 hu).1
      have e : (⟨g, 0, none⟩ : Addr).add j = ⟨g, j, none⟩ := by unfold Addr.add; split <;> simp_all
      rw [e, cell_of_row _ _ _ _ _ _ hg]
      rw [← ht, List.getElem?_take] at hu
      split at hu
      · simpa using hu
      · cases hu
    have hone : ∀ u ∈ ks.flatMap cells4, u.oneCell' = true := by
      intro u hu
      obtain ⟨c, _, hc⟩ := List.mem_flatMap.1 hu
      simp only [cells4, List.mem_cons, List.not_mem_nil, or_false] at hc
      rcases hc with rfl | rfl | rfl | rfl <;> rfl
    have Hcells := Lib.hid hcells
    have Hone := Lib.hid hone
    have Hlen := Lib.hid hlen
    clear hv Hv hg ht hcells hone hlen hb hsz hm
    have heqn := eql_nil_some ⟨g, 0, none⟩ ks.length cap
    go_enter Try.func75, Try.ntmps75
    have hem : (w.alloc (.cells #[] 27)).ownsRow w.heap.size 27 4 (.slice (some ⟨w.heap.size, 0, none⟩) 0 0) 0 [] := ⟨rfl, .inr ⟨w.heap.size, 0, #[], rfl, Nat.le_refl _, heap_alloc_new _ _, Nat.le_refl _, Nat.zero_le _, rfl, rfl⟩⟩
    have hE0 := (Ext.refl w).alloc (.cells #[] 27)
    have Hcells2 : Hid (∀ (j : Nat) (u : Value), (ks.flatMap cells4)[j]? = some u → (w.alloc (.cells #[] 27)).cell? ((⟨g, 0, none⟩ : Addr).add j) = some u) := fun j u hu => hE0.cell (Hcells.out j u hu)
    have Hem := Lib.hid hem
    have HE0 := Lib.hid hE0
    have hs0 := hE0.size
    clear hem hE0
    go_wp2_with (at_builtin; refine wpList_append_own _ rfl (.tmp 5) (.tmp 6) 22 rfl w.heap.size 27 i0 clsNone.val 4 32 Try.underlying22 hi hz0 hz1 hz2 rfl (by decide) _ 0 [] rfl Hem.out ⟨g, 0, none⟩ ks.length cap (ks.flatMap cells4) rfl Hlen.out Hcells2.out Hone.out ?c3 ?c4 ?c5 ?_)
    case c3 => unfold maxLen; omega
    case c4 => omega
    case c5 => omega
    intro v' w3 hown3 hgrow _
    have hE3 : Ext w w3 := HE0.out.grown hgrow (fun q hq => (World.ownsRow.lt Hem.out q hq).1)
    have Hown3 := Lib.hid hown3
    clear hown3 hgrow
    go_wp2
    go_ret
    exact ⟨_, rfl, Hown3.out, hE3⟩

/-- Block g begins with m sets, and may be written. -/
def CRow (w : World) (g m : Nat) (h : Nat → Cls) : Prop := ∃ cur, w.heap[g]? = some (.cells cur 27 (0, 0)) ∧ m * 4 ≤ cur.size ∧ ∀ t, t < m → ∀ k, k < 4 → cur[t * 4 + k]? = (cells4 (h t))[k]?
theorem CRow.at {w : World} {g m : Nat} {h : Nat → Cls} (hr : CRow w g m h) {t : Nat} (ht : t < m) : ClsAt w g (t * 4) (h t) := by
  obtain ⟨cur, h1, _, h2⟩ := hr
  refine ⟨?_, ?_, ?_, ?_⟩
  · rw [cell_of_row _ _ _ _ _ _ h1]; exact h2 t ht 0 (by decide)
  · rw [cell_of_row _ _ _ _ _ _ h1]; exact h2 t ht 1 (by decide)
  · rw [cell_of_row _ _ _ _ _ _ h1]; exact h2 t ht 2 (by decide)
  · rw [cell_of_row _ _ _ _ _ _ h1]; exact h2 t ht 3 (by decide)
theorem CRow.rd {w : World} {g m : Nat} {h : Nat → Cls} (hr : CRow w g m h) : RdC w (some ⟨g, 0, none⟩) m h := .inr ⟨g, 0, rfl, fun j hj => by rw [Nat.zero_add]; exact hr.at hj⟩
theorem CRow.frozen {w : World} {g m : Nat} {h : Nat → Cls} (hr : CRow w g m h) (i : Nat) : w.frozen? ⟨g, i, none⟩ = false := by
  obtain ⟨cur, h1, _⟩ := hr
  exact frozen_of_row w g i _ _ h1
theorem CRow.ext {w w' : World} {g m : Nat} {h : Nat → Cls} (hr : CRow w g m h) (he : Ext w w') : CRow w' g m h := by
  obtain ⟨cur, h1, h2⟩ := hr
  exact ⟨cur, he.heap h1, h2⟩
theorem CRow.congr {w : World} {g m : Nat} {h h' : Nat → Cls} (hr : CRow w g m h) (hh : ∀ t, t < m → h t = h' t) : CRow w g m h' := by
  obtain ⟨cur, h1, h2, h3⟩ := hr
  exact ⟨cur, h1, h2, fun t ht k hk => by rw [h3 t ht k hk, hh t ht]⟩
theorem CRow.of_owns {w : World} {base g m cap : Nat} {ks : List Cls} (hv : ClsRow w base (.slice (some ⟨g, 0, none⟩) m cap) ks) (hm : ks.length = m) : CRow w g m (fun j => ks.getD j clsNone) ∧ base ≤ g ∧ m ≤ cap := by
  subst hm
  rcases hv.2 with ⟨h0, _⟩ | ⟨g', cap', cur, h0, hb, hg, hn, hm, hsz, ht⟩
  · cases h0
  · injection h0 with h1 _ h3
    injection h1 with h1
    injection h1 with h1
    subst h1
    subst h3
    refine ⟨⟨cur, hg, by rw [hsz]; omega, fun t htl k hk => ?_⟩, hb, hn⟩
    rw [← flat_get ks t k htl hk, ← ht, List.getElem?_take, if_pos (by omega), Array.getElem?_toList]
theorem CRow.set {w : World} {g m : Nat} {h : Nat → Cls} (hr : CRow w g m h) (i : Nat) (c : Cls) :
    CRow ((((w.setCell ⟨g, i * 4, none⟩ (.int .u64 c.w0)).setCell ⟨g, i * 4 + 1, none⟩ (.int .u64 c.w1)).setCell ⟨g, i * 4 + 2, none⟩ (.int .u64 c.w2)).setCell ⟨g, i * 4 + 3, none⟩ (.int .u64 c.w3)) g m (fun t => if t = i then c else h t) := by
  obtain ⟨cur, h1, h2, h3⟩ := hr
  refine ⟨_, heap_setCell_same _ _ _ _ _ _ (heap_setCell_same _ _ _ _ _ _ (heap_setCell_same _ _ _ _ _ _ (heap_setCell_same _ _ _ _ _ _ h1))), by simpa using h2, fun t ht k hk => ?_⟩
  have h4 := h3 t ht k hk
  have hlt : t * 4 + k < cur.size := by omega
  simp only [Array.getElem?_setIfInBounds, Array.size_setIfInBounds]
  by_cases e : t = i
  · subst e
    simp only [if_true]
    match k, hk with
    | 0, _ => simp [cells4]; omega
    | 1, _ => simp [cells4]; omega
    | 2, _ => simp [cells4]; omega
    | 3, _ => simp [cells4]; omega
  · rw [if_neg e, if_neg (by omega), if_neg (by omega), if_neg (by omega), if_neg (by omega)]
    exact h4

theorem clear_run (w : World) (g o l c : Nat) (cur : Array Value) (hg : w.heap[g]? = some (.cells cur 27 (0, 0))) (hl : o + l * 4 ≤ cur.size) (ty : TypeId) :
    ∃ w' cur', (Builtin.clear_ #[22] ty #[.slice (some ⟨g, o, none⟩) l c]).run Try.prog w = .ok (.tuple #[]) w' ∧ w.grownBy w' (some g) ∧ w'.heap[g]? = some (.cells cur' 27 (0, 0)) ∧ o ≤ cur'.size ∧ ∀ j, j < o → cur'[j]? = cur[j]? := by
  by_cases h0 : l = 0
  · subst h0
    refine ⟨w, cur, ?_, ⟨rfl, rfl, rfl, Nat.le_refl _, fun _ _ _ => rfl⟩, hg, by omega, fun _ _ => rfl⟩
    simp [Builtin.clear_, run_underlying Try.underlying22]
  · have hz : (zeroValue 27).run Try.prog w = .ok clsNone.val w := by kernel_rfl
    have hlen : (Builtin.zeroCells clsNone.val.cells l).toList.length = l * 4 := by simp [Builtin.zeroCells, Cls.val, Value.cells]
    have hst := run_storeCells_at (P := Try.prog) g o 27 (Builtin.zeroCells clsNone.val.cells l).toList 0 cur w hg (by rw [hlen]; omega) (by
      intro v hv
      simp only [Builtin.zeroCells, Array.toList_map, List.mem_map] at hv
      obtain ⟨i, _, rfl⟩ := hv
      have hi : i % 4 < 4 := Nat.mod_lt _ (by decide)
      show Value.oneCell' ((#[.int .u64 0, .int .u64 0, .int .u64 0, .int .u64 0] : Array Value)[i % 4]!) = true
      generalize i % 4 = k at *
      match k, hi with
      | 0, _ => rfl
      | 1, _ => rfl
      | 2, _ => rfl
      | 3, _ => rfl)
    refine ⟨w.setRow g (cur.toList.take (o + 0) ++ (Builtin.zeroCells clsNone.val.cells l).toList ++ cur.toList.drop (o + 0 + (Builtin.zeroCells clsNone.val.cells l).toList.length)).toArray, _, ?_, ⟨rfl, rfl, rfl, by simp, fun k _ hk => setRow_other w g k _ (fun e => hk (by rw [e]))⟩, setRow_heap w g cur _ 27 _ hg, ?_, ?_⟩
    · obtain ⟨l', rfl⟩ : ∃ l', l = l' + 1 := ⟨l - 1, by omega⟩
      unfold Builtin.clear_
      simp [Sem.run_bind, run_underlying Try.underlying22, hz]
      rw [hst]
      simp
    · rw [hlen]; simp; omega
    · intro j hj
      rw [List.getElem?_toArray, List.getElem?_append_left (by simp; omega), List.getElem?_append_left (by simp; omega), List.getElem?_take, if_pos (by omega), Array.getElem?_toList]

/-- What is kept of the first sets. -/
def keptL (pr : Cls → Bool) (ks : List Cls) (j : Nat) : List Cls := (ks.take j).filter fun c => !pr c
theorem keptL_len (pr : Cls → Bool) (ks : List Cls) (j : Nat) : (keptL pr ks j).length ≤ j := by
  unfold keptL
  exact Nat.le_trans (List.length_filter_le _ _) (by rw [List.length_take]; omega)
theorem keptL_succ (pr : Cls → Bool) (ks : List Cls) (j : Nat) (hj : j < ks.length) : keptL pr ks (j + 1) = keptL pr ks j ++ if pr (ks.getD j clsNone) = true then [] else [ks.getD j clsNone] := by
  unfold keptL
  rw [List.take_add_one, List.filter_append, List.getElem?_eq_getElem hj, List.getD_eq_getElem?_getD, List.getElem?_eq_getElem hj]
  congr 1
  cases h : pr ks[j] <;> simp [h]
theorem keptL_first (pr : Cls → Bool) (ks : List Cls) (i : Nat) (hi : i ≤ ks.length) (h : ∀ j, j < i → pr (ks.getD j clsNone) = false) : keptL pr ks i = ks.take i := by
  unfold keptL
  rw [List.filter_eq_self]
  intro c hc
  obtain ⟨j, hj, rfl⟩ := List.mem_iff_getElem.1 hc
  have hj2 : j < i := by rw [List.length_take] at hj; omega
  have := h j hj2
  rw [List.getD_eq_getElem?_getD, List.getElem?_eq_getElem (by omega)] at this
  rw [List.getElem_take]
  simpa using this

def DelRel (pr : Cls → Bool) (ks : List Cls) (g : Nat) (w0 : World) (w : World) (u5 u6 : Value) (wr : World) : Prop :=
  ∃ (i j : Nat) (h : Nat → Cls), i < j ∧ j ≤ ks.length ∧ u5 = .int .i64 i ∧ u6 = .int .i64 j ∧ w.grownBy wr (some g) ∧ Ext w0 wr ∧ CRow wr g ks.length h ∧ (keptL pr ks j).length = i ∧
    (∀ t, t < i → h t = (keptL pr ks j).getD t clsNone) ∧ (∀ t, j ≤ t → t < ks.length → h t = ks.getD t clsNone)

set_option maxRecDepth 100000 in
set_option maxHeartbeats 4000000 in
theorem deletefunc_any (gf : FuncId) (eg : ∀ args w, (callFunc gf args).run Try.prog w = .ok (.enter gf args) w) (lb : Array Value) (pr : Cls → Bool) (w0 : World) (hp : Pred w0 gf lb pr)
    (base : Nat) (hbase : w0.heap.size ≤ base) (v : Value) (ks : List Cls) (hk : ks.length ≤ 1099511627776) (hok : ∀ c ∈ ks, c.ok) (w : World) (hw : Ext w0 w) (hv : ClsRow w base v ks) :
    Calls Try.prog 74 #[v, .func (.func gf) #[] lb] w fun e w' =>
      ∃ p cap, e = .returned (.slice p (keptL pr ks ks.length).length cap) ∧ (keptL pr ks ks.length).length ≤ cap ∧ RdC w' p (keptL pr ks ks.length).length (fun j => (keptL pr ks ks.length).getD j clsNone) ∧ Ext w0 w' := by
  obtain ⟨pv, cv, rfl, hcv, hpv, hrd⟩ := hv.rd
  have Hp := Lib.hid hp
  have Hw := Lib.hid hw
  have hokj : ∀ j, j < ks.length → (ks.getD j clsNone).ok := fun j hj => hok _ (by rw [List.getD_eq_getElem?_getD, List.getElem?_eq_getElem hj]; exact List.getElem_mem hj)
  have Hokj := Lib.hid hokj
  have Hix := Lib.hid (indexfunc_any gf eg lb pr w0 hp pv ks.length cv (fun j => ks.getD j clsNone) hcv hk hokj w hw hrd)
  have Hrd := Lib.hid hrd
  have Hv := Lib.hid hv
  have Hpv := Lib.hid hpv
  clear hp hw hokj hrd hv hpv hok
  go_enter Try.func74, Try.ntmps74
  go_wp2_with fail
  refine Hix.out.mono ?_
  rintro e w2 ⟨r, rfl, hcase, hE2⟩
  rcases hcase with ⟨rfl, hno⟩ | ⟨i, rfl, hi, hyes, hno⟩
  · have hkl : keptL pr ks ks.length = ks := by rw [keptL_first pr ks ks.length (Nat.le_refl _) hno, List.take_length]
    have Hkl := Lib.hid hkl
    have HE2 := Lib.hid hE2
    clear hno hkl hE2
    go_wp2_with fail
    go_ret
    refine ⟨pv, cv, ?_, by rw [Hkl.out]; exact hcv, by rw [Hkl.out]; exact Hrd.out.ext HE2.out, Hw.out.trans HE2.out⟩
    rw [Hkl.out]
    rfl
  · obtain ⟨ag, rfl⟩ : ∃ ag, pv = some ag := by
      cases pv with
      | none =>
        rcases Hrd.out with h | ⟨b, o, h, _⟩
        · omega
        · cases h
      | some ag => exact ⟨ag, rfl⟩
    have hagf : ∃ g, ag = ⟨g, 0, none⟩ := by
      rcases Hv.out.2 with ⟨h, _⟩ | ⟨g, cap, cur, h, _⟩
      · cases h
      · injection h with h _ _
        injection h with h
        exact ⟨g, h⟩
    obtain ⟨g, rfl⟩ := hagf
    obtain ⟨hrow, hbg, _⟩ := CRow.of_owns Hv.out rfl
    have HRow2 := Lib.hid (hrow.ext hE2)
    have HE2 := Lib.hid (Hw.out.trans hE2)
    have Hg2 := Lib.hid (hE2.grownBy (some g))
    have hkf := keptL_first pr ks i (by omega) hno
    have hk1 : keptL pr ks (i + 1) = ks.take i := by rw [keptL_succ pr ks i hi, if_pos hyes, List.append_nil, hkf]
    have Hk1 := Lib.hid hk1
    clear hrow hE2 hno hyes hkf hk1 Hix Hrd Hv Hpv
    have b1 : ((i : Int) == -1) = false := by rw [beq_eq_false_iff_ne]; omega
    have i1 : IntKind.i64.wrap ((i : Int) + 1) = (i : Int) + 1 := IntWalk.i64_in _ ⟨by omega, by omega⟩
    go_wp2_with fail
    go_loopw [5, 6, 7] (fun a b _ wr => DelRel pr ks g w0 w a b wr) (fun _ b _ _ => ks.length - (intOf b).toNat)
    case atStart =>
      refine ⟨i, i + 1, fun j => ks.getD j clsNone, by omega, by omega, rfl, by go_num, Hg2.out, HE2.out, HRow2.out, ?_, ?_, fun t _ _ => rfl⟩
      · rw [Hk1.out, List.length_take]; omega
      · intro t ht
        dsimp only
        rw [Hk1.out, List.getD_eq_getElem?_getD, List.getD_eq_getElem?_getD, List.getElem?_take, if_pos ht]
    case round =>
      obtain ⟨i2, j, h, hij, hj, rfl, rfl, hgr, hE, hrow, hlen, hlo, hhi⟩ := hrel
      have HGr := Lib.hid hgr
      have HE := Lib.hid hE
      have HRow := Lib.hid hrow
      have Hlen := Lib.hid hlen
      have Hlo := Lib.hid hlo
      have Hhi := Lib.hid hhi
      have hgw : g < wr.heap.size := by
        obtain ⟨cur, h1, _⟩ := hrow
        exact (Array.getElem?_eq_some_iff.1 h1).1
      clear hgr hE hrow hlen hlo hhi HRow2 HE2 Hg2
      by_cases hlt : j < ks.length
      · have hd := HRow.out.at hlt
        rw [Hhi.out j (Nat.le_refl _) hlt] at hd
        have hks := keptL_succ pr ks j hlt
        have hdok := Hokj.out j hlt
        have Hhj := Lib.hid (Hhi.out j (Nat.le_refl _) hlt)
        generalize ks.getD j clsNone = d at *
        obtain ⟨d0, d1, d2, d3⟩ := hd
        have hnb := heap_alloc_new wr (.cells #[.int .u64 d.w0, .int .u64 d.w1, .int .u64 d.w2, .int .u64 d.w3] 27)
        have Hwa := Lib.hid ((Ext.refl wr).alloc (.cells #[.int .u64 d.w0, .int .u64 d.w1, .int .u64 d.w2, .int .u64 d.w3] 27))
        have Hcall := Lib.hid (Hp.out d hdok (wr.alloc (.cells #[.int .u64 d.w0, .int .u64 d.w1, .int .u64 d.w2, .int .u64 d.w3] 27)) (HE.out.trans Hwa.out))
        have k1 : (0 : Int) ≤ (j : Int) := by omega
        have k2 : (j : Int) < (ks.length : Int) := by omega
        have k3 : (0 : Int) ≤ (i2 : Int) := by omega
        have k4 : (i2 : Int) < (ks.length : Int) := by omega
        have i3 : IntKind.i64.wrap ((j : Int) + 1) = (j : Int) + 1 := IntWalk.i64_in _ ⟨by omega, by omega⟩
        have i4 : IntKind.i64.wrap ((i2 : Int) + 1) = (i2 : Int) + 1 := IntWalk.i64_in _ ⟨by omega, by omega⟩
        have Hks := Lib.hid hks
        generalize hx : pr d = x at *
        clear hks hx hdok
        go_wp2_with fail
        clear d0 d1 d2 d3
        generalize wr.alloc (.cells #[.int .u64 d.w0, .int .u64 d.w1, .int .u64 d.w2, .int .u64 d.w3] 27) = wa at *
        generalize wr.heap.size = Y at *
        obtain ⟨⟨c0, c1, c2, c3⟩, -⟩ := cls_cells hnb
        refine Hcall.out.mono ?_
        rintro e w3 ⟨rfl, hE3⟩
        have hEw := Hwa.out.trans hE3
        cases x
        · have hrow3 := HRow.out.ext hEw
          have hi2 : i2 < ks.length := by omega
          obtain ⟨e0, e1, e2, e3⟩ := hrow3.at hi2
          have f0 := hrow3.frozen (i2 * 4)
          have f1 := hrow3.frozen (i2 * 4 + 1)
          have f2 := hrow3.frozen (i2 * 4 + 2)
          have f3 := hrow3.frozen (i2 * 4 + 3)
          have c0 := hE3.cell c0
          have c1 := hE3.cell c1
          have c2 := hE3.cell c2
          have c3 := hE3.cell c3
          have hset := hrow3.set i2 d
          have hgs : w.grownBy ((((w3.setCell ⟨g, i2 * 4, none⟩ (.int .u64 d.w0)).setCell ⟨g, i2 * 4 + 1, none⟩ (.int .u64 d.w1)).setCell ⟨g, i2 * 4 + 2, none⟩ (.int .u64 d.w2)).setCell ⟨g, i2 * 4 + 3, none⟩ (.int .u64 d.w3)) (some g) :=
            grownBy_trans (grownBy_trans (grownBy_trans (grownBy_trans (grownBy_trans HGr.out (hEw.grownBy _)) (grownBy_setCell _ _ _ _)) (grownBy_setCell _ _ _ _)) (grownBy_setCell _ _ _ _)) (grownBy_setCell _ _ _ _)
          have hes : Ext w0 ((((w3.setCell ⟨g, i2 * 4, none⟩ (.int .u64 d.w0)).setCell ⟨g, i2 * 4 + 1, none⟩ (.int .u64 d.w1)).setCell ⟨g, i2 * 4 + 2, none⟩ (.int .u64 d.w2)).setCell ⟨g, i2 * 4 + 3, none⟩ (.int .u64 d.w3)) :=
            ((((HE.out.trans hEw).setCell (show w0.heap.size ≤ g by omega) _).setCell (show w0.heap.size ≤ g by omega) _).setCell (show w0.heap.size ≤ g by omega) _).setCell (show w0.heap.size ≤ g by omega) _
          have Hset := Lib.hid hset
          have Hgs := Lib.hid hgs
          have Hes := Lib.hid hes
          clear hset hgs hes hrow3 hE3 hEw hnb Hwa HRow
          go_wp2_with fail
          go_roundw
          case rel =>
            have hk2 := Hks.out
            rw [if_neg (by simp)] at hk2
            refine ⟨i2 + 1, j + 1, _, by omega, by omega, by go_num, by go_num, Hgs.out, Hes.out, Hset.out, ?_, ?_, ?_⟩
            · rw [hk2, List.length_append, Hlen.out]; rfl
            · intro t ht
              rw [hk2]
              by_cases e : t = i2
              · subst e
                rw [if_pos rfl, List.getD_eq_getElem?_getD, List.getElem?_append_right (by rw [Hlen.out]; exact Nat.le_refl _), Hlen.out]
                simp
              · rw [if_neg e, List.getD_eq_getElem?_getD, List.getElem?_append_left (by rw [Hlen.out]; omega), ← List.getD_eq_getElem?_getD]
                exact Hlo.out t (by omega)
            · intro t ht htl
              rw [if_neg (by omega)]
              exact Hhi.out t (by omega) htl
          case measure => simp [intOf]; omega
        · have HE3 := Lib.hid hEw
          clear hE3 hEw hnb Hwa c0 c1 c2 c3
          go_wp2_with fail
          go_roundw
          case rel =>
            have hk2 := Hks.out
            rw [if_pos (by simp), List.append_nil] at hk2
            refine ⟨i2, j + 1, h, by omega, by omega, rfl, by go_num, grownBy_trans HGr.out (HE3.out.grownBy _), HE.out.trans HE3.out, HRow.out.ext HE3.out, by rw [hk2]; exact Hlen.out, by rw [hk2]; exact Hlo.out, fun t ht htl => Hhi.out t (by omega) htl⟩
          case measure => simp [intOf]; omega
      · have e : j = ks.length := by omega
        subst e
        obtain ⟨cur, hg1, hsz, hcells⟩ := HRow.out
        obtain ⟨w4, cur4, hclr, hg4, hh4, ho4, hc4⟩ := clear_run wr g (i2 * 4) (ks.length - i2) (cv - i2) cur hg1 (by omega) 0
        have k1 : (0 : Int) ≤ (i2 : Int) := by omega
        have k2 : (i2 : Int) ≤ (ks.length : Int) := by omega
        have k3 : (i2 : Int) ≤ (cv : Int) := by omega
        have k4 : ¬ (cv - i2 = 0) := by omega
        have k5 : (ks.length : Int) ≤ (cv : Int) := by omega
        have HG4 := Lib.hid hg4
        have Hh4 := Lib.hid hh4
        have Hc4 := Lib.hid hc4
        have Hcells := Lib.hid hcells
        clear hg4 hh4 hc4 hcells hg1
        go_wp2_with fail
        go_ret
        have hrd : RdC w4 (some ⟨g, 0, none⟩) i2 (fun j => (keptL pr ks ks.length).getD j clsNone) := by
          have hr : CRow w4 g i2 h := ⟨cur4, Hh4.out, ho4, fun t ht k hk => by rw [Hc4.out _ (by omega)]; exact Hcells.out t (by omega) k hk⟩
          exact (hr.congr fun t ht => Hlo.out t ht).rd
        refine ⟨some ⟨g, 0, none⟩, cv, by rw [Hlen.out]; rfl, by rw [Hlen.out]; omega, by rw [Hlen.out]; exact hrd, HE.out.grown HG4.out (fun q hq => by injection hq with hq; omega)⟩
end Go.Proofs.Ytmadelflnjhibaa
