import Derived.Test.YtmadelflnjhibaaCheck
import Derived.Test.YtmadelflnjhibaaCorrC
namespace Go.Proofs.Ytmadelflnjhibaa
open Go.RowKit Go.Shelf
attribute [local go_sem] Cls.val clsNone clsAll

theorem skinds_any (p : Option Addr) (n cap : Nat) (K : Int) (s : ByteArray) (size : Int) (w : World) :
    Calls Try.prog 52 #[leafVal p n cap K, .string s, .int .i64 size] w fun e w' =>
      e = .returned (.func (.func 87) #[] #[.pointer (some ⟨w.heap.size, 0, none⟩), .pointer (some ⟨w.heap.size + 1, 0, none⟩), .pointer (some ⟨w.heap.size + 1 + 1, 0, none⟩)]) ∧
      ((w.alloc (.cells #[.slice p n cap, .int .i64 K] 24)).alloc (.cells #[.string s] 9)).alloc (.cells #[.int .i64 size] 3) = w' := by
  unfold leafVal
  go_enter Try.func52, Try.ntmps52
  go_wp2_with fail
  go_ret
  exact ⟨rfl, rfl⟩

/-- How many sums there are. -/
def sumsN (m n : Nat) : Nat := n + 1 - m

/-- What a kind tells. -/
def hitV (f : Nat → Cls) (s : ByteArray) (m : Nat) (c : Cls) (i : Nat) : Int := slideV (fun j => one (decide (f j = c))) (fun j => one (has c (byteV s j))) m i

def HitsAt (W : World) (v : Value) (N : Nat) (g : Nat → Int) : Prop := W.ownsRow 0 25 1 v N ((List.range N).map (U g))

theorem flat_get : ∀ (ks : List Cls) (j i : Nat), j < ks.length → i < 4 → (ks.flatMap cells4)[j * 4 + i]? = (cells4 (ks.getD j clsNone))[i]?
  | [], j, i, h, _ => absurd h (Nat.not_lt_zero _)
  | k :: ks, 0, i, _, hi => by
    rw [List.flatMap_cons, List.getElem?_append_left (by simp [cells4]; omega)]
    simp
  | k :: ks, j + 1, i, h, hi => by
    rw [List.flatMap_cons, List.getElem?_append_right (by simp [cells4]; omega)]
    have e : (j + 1) * 4 + i - (cells4 k).length = j * 4 + i := by simp [cells4]; omega
    rw [e, flat_get ks j i (by simpa using h) hi]
    simp

theorem ClsRow.rd {w : World} {base : Nat} {v : Value} {ks : List Cls} (h : ClsRow w base v ks) :
    ∃ p cap, v = .slice p ks.length cap ∧ ks.length ≤ cap ∧ (∀ a, p = some a → base ≤ a.block) ∧ RdC w p ks.length (fun j => ks.getD j clsNone) := by
  rcases h.2 with ⟨rfl, h0⟩ | ⟨g, cap, cur, rfl, hb, hg, hn, hm, hsz, ht⟩
  · refine ⟨none, 0, by rw [h0], by omega, (fun a h => by cases h), .inl h0⟩
  · refine ⟨some ⟨g, 0, none⟩, cap, rfl, hn, fun a h => by injection h with h; subst h; exact hb, .inr ⟨g, 0, rfl, fun j hj => ?_⟩⟩
    have hx : ∀ i, i < 4 → ∀ x, (cells4 (ks.getD j clsNone))[i]? = some x → w.cell? ⟨g, j * 4 + i, none⟩ = some x := by
      intro i hi x hx
      refine cell_of_row _ _ _ _ _ _ hg |>.trans ?_
      have h2 : (cur.toList.take (ks.length * 4))[j * 4 + i]? = some x := by rw [ht, flat_get ks j i hj hi]; exact hx
      rw [List.getElem?_take] at h2
      split at h2
      · simpa using h2
      · cases h2
    unfold ClsAt
    rw [Nat.zero_add]
    exact ⟨hx 0 (by decide) _ rfl, hx 1 (by decide) _ rfl, hx 2 (by decide) _ rfl, hx 3 (by decide) _ rfl⟩

def encsK (x : Value × Int) : Array Value := #[x.1, .int .i64 x.2]
def kcount (n tn : Nat) (size : Int) : Int := if n ≤ tn then countV n tn size.toNat else 0
def KZ (f : Nat → Cls) (s : ByteArray) (n : Nat) (size : Int) (pre : List (Value × Int)) (x : Value × Int) (W : World) : Prop :=
  ∃ c, (kindsV f n)[pre.length]? = some c ∧ HitsAt W x.1 (sumsN n s.size) (hitV f s n c) ∧ x.2 = kcount n s.size size
def KS (f : Nat → Cls) (n : Nat) (xs : List (Value × Int)) : Prop := xs.length = (kindsV f n).length

def KRel (f : Nat → Cls) (n : Nat) (C : Nat → Prop) (Wk : World) (J : List (Value × Int) → World → Prop) (i : Value) (wr : World) : Prop :=
  ∃ (pre : List (Value × Int)), i = .int .i64 (pre.length : Nat) ∧ pre.length ≤ (kindsV f n).length ∧ J pre wr ∧ Wk.heap.size ≤ wr.heap.size ∧ ∀ k, C k → k < Wk.heap.size → wr.heap[k]? = Wk.heap[k]?

theorem kept_cell {C : Nat → Prop} {A B : World} (h : ∀ k, C k → k < A.heap.size → B.heap[k]? = A.heap[k]?) {a : Addr} {v : Value} (hc : A.cell? a = some v) (ha : C a.block) : B.cell? a = some v := by
  rw [World.cell?_of_block (h _ ha (World.block_lt_of_cell? _ _ hc))]
  exact hc

theorem kept_cls {C : Nat → Prop} {A B : World} (h : ∀ k, C k → k < A.heap.size → B.heap[k]? = A.heap[k]?) {b o : Nat} {c : Cls} (hc : ClsAt A b o c) (ha : C b) : ClsAt B b o c :=
  ⟨kept_cell h hc.1 ha, kept_cell h hc.2.1 ha, kept_cell h hc.2.2.1 ha, kept_cell h hc.2.2.2 ha⟩

theorem kinds_from (f : Nat → Cls) (n : Nat) : ∀ c ∈ kindsV f n, ∃ j, f j = c := by
  induction n with
  | zero => intro c h; cases h
  | succ n ih =>
    intro c h
    unfold kindsV at h
    split at h
    · exact ih c h
    · rcases List.mem_append.1 h with h | h
      · exact ih c h
      · exact ⟨n, (List.mem_singleton.1 h).symm⟩

def Held8 (Bl Bs Bz X : Nat) (p : Option Addr) (n cap : Nat) (K : Int) (s : ByteArray) (size : Int) (c : Cls) (wa W : World) : Prop :=
  Ext wa W ∧ W.cell? ⟨Bl, 0, none⟩ = some (.slice p n cap) ∧ W.cell? ⟨Bl, 1, none⟩ = some (.int .i64 K) ∧ W.cell? ⟨Bs, 0, none⟩ = some (.string s) ∧ W.cell? ⟨Bz, 0, none⟩ = some (.int .i64 size) ∧
    W.cell? ⟨X, 0, none⟩ = some (.int .u64 c.w0) ∧ W.cell? ⟨X, 1, none⟩ = some (.int .u64 c.w1) ∧ W.cell? ⟨X, 2, none⟩ = some (.int .u64 c.w2) ∧ W.cell? ⟨X, 3, none⟩ = some (.int .u64 c.w3)
theorem Held8.ext {Bl Bs Bz X : Nat} {p : Option Addr} {n cap : Nat} {K : Int} {s : ByteArray} {size : Int} {c : Cls} {wa W W' : World} (h : Held8 Bl Bs Bz X p n cap K s size c wa W) (he : Ext W W') : Held8 Bl Bs Bz X p n cap K s size c wa W' := by
  obtain ⟨a, b1, b2, b3, b4, b5, b6, b7, b8⟩ := h
  exact ⟨a.trans he, he.cell b1, he.cell b2, he.cell b3, he.cell b4, he.cell b5, he.cell b6, he.cell b7, he.cell b8⟩

/-- block.Correlate over marks, whatever the lengths. -/
theorem corr_marks (f : Nat → Cls) (s : ByteArray) (n : Nat) (c : Cls) (size : Int) (h1 : 1 ≤ n) (h64 : n ≤ 64) (hs : s.size ≤ 1099511627776) (hok : n ≤ s.size → szOk n size = true) (g1 g2 : Nat) (w : World)
    (hr1 : Row w 25 g1 n (U fun j => one (decide (f j = c)))) (hr2 : Row w 25 g2 s.size (U fun j => one (has c (byteV s j)))) :
    Calls Try.prog 30 #[.slice (some ⟨g1, 0, none⟩) n n, .slice (some ⟨g2, 0, none⟩) s.size s.size, .int .i64 size] w fun e w' =>
      ∃ v, e = .returned (.tuple #[v, .int .i64 (kcount n s.size size), .int .i64 0]) ∧ HitsAt w' v (sumsN n s.size) (hitV f s n c) ∧ Ext w w' := by
  have hone : ∀ b, 0 ≤ one b ∧ one b ≤ 1 := by intro b; cases b <;> simp [one]
  by_cases h : n ≤ s.size
  · obtain ⟨L, hL, hsz, hm⟩ := szOk_true (hok h)
    subst hsz
    refine (corr_yes n s.size L (2 ^ L) h1 h hL rfl hm g1 0 n g2 0 s.size (Nat.le_refl _) _ _ 1 1 (by decide) (by decide) (fun j => (hone _).1) (fun j => (hone _).2) (fun j => (hone _).1) (fun j => (hone _).2) (by omega) hs w (fun j hj => by rw [Nat.zero_add]; exact hr1.cell hj) (fun j hj => by rw [Nat.zero_add]; exact hr2.cell hj)).mono ?_
    rintro e w' ⟨v, rfl, hown, hE⟩
    refine ⟨v, ?_, ?_, hE⟩
    · unfold kcount
      rw [if_pos h]
      rfl
    · have e1 : sumsN n s.size = s.size - n + 1 := by unfold sumsN; omega
      unfold HitsAt
      rw [e1]
      exact ownsRow_lower hown (Nat.zero_le _)
  · refine (corr_no n s.size size h1 (by omega) _ _ _ _ w).mono ?_
    rintro e w' ⟨rfl, hE⟩
    have e1 : sumsN n s.size = 0 := by unfold sumsN; omega
    refine ⟨.slice none 0 0, ?_, ?_, hE⟩
    · unfold kcount
      rw [if_neg h]
    · unfold HitsAt
      rw [e1]
      simp [World.ownsRow]

set_option maxRecDepth 100000 in
set_option maxHeartbeats 2000000 in
theorem kinds_iter (p : Option Addr) (n cap : Nat) (K : Int) (f : Nat → Cls) (hcap : n ≤ cap) (s : ByteArray) (hs : s.size ≤ 1099511627776) (size : Int) (h1 : 1 ≤ n) (h64 : n ≤ 64) (hok : n ≤ s.size → szOk n size = true) (hcls : ∀ j, (f j).ok)
    (Bl Bs Bz : Nat) (C : Nat → Prop) (w : World) (hCr : ∀ k, w.heap.size + 2 ≤ k → C k) (hCl : C Bl) (hCs : C Bs) (hCz : C Bz) (hCp : ∀ a, p = some a → C a.block)
    (hl : w.heap[Bl]? = some (.cells #[.slice p n cap, .int .i64 K] 24 (0, 0))) (hst : w.cell? ⟨Bs, 0, none⟩ = some (.string s)) (hz : w.cell? ⟨Bz, 0, none⟩ = some (.int .i64 size)) (hr : RdC w p n f) :
    Iter Try.prog 87 #[.pointer (some ⟨Bl, 0, none⟩), .pointer (some ⟨Bs, 0, none⟩), .pointer (some ⟨Bz, 0, none⟩)] encsK C (KZ f s n size) (KS f n) w := by
  intro l J W hE hsz hJe hY h0
  have l0 : W.cell? ⟨Bl, 0, none⟩ = some (.slice p n cap) := hE.cell (cell_of_row _ _ _ _ _ _ hl)
  have l1 : W.cell? ⟨Bl, 1, none⟩ = some (.int .i64 K) := hE.cell (cell_of_row _ _ _ _ _ _ hl)
  have HY := Lib.hid hY
  have HJe := Lib.hid hJe
  clear hY hJe
  refine callsIn_of_wp Try.func87 rfl trivial ?_ rfl
  simp only [Try.ntmps87, List.size_toArray, List.length_cons, List.length_nil, Nat.reduceAdd, Nat.reduceSub, Array.replicate_succ, Array.replicate_zero, List.push_toArray, List.append_toArray, List.nil_append, List.cons_append]
  gi_wp2
  refine ⟨trivial, rfl, (callsIn_wide.2 (kinds_any p n cap K f hcap (by omega) W (hr.ext hE))).mono ?_⟩
  rintro e w1 ⟨v, rfl, hrow, hE1⟩
  obtain ⟨pv, cv, rfl, hcv, hpv, hrd⟩ := hrow.rd
  have hlen := kindsV_len f n
  have hsz1 := hE1.size
  have HE1 := Lib.hid (hE.trans hE1)
  have HJ0 := Lib.hid (HJe.out _ _ _ h0 hE1)
  have Hrd := Lib.hid hrd
  have HCr := Lib.hid hCr
  have HCp := Lib.hid hCp
  have Hr := Lib.hid hr
  have Hl := Lib.hid hl
  have Hst := Lib.hid hst
  have Hz := Lib.hid hz
  have Hcls := Lib.hid hcls
  have Hok := Lib.hid hok
  have Hpv := Lib.hid hpv
  clear hE hE1 h0 hrd hCr hCp hr hl hst hz l0 l1 hcls hok hrow hpv
  gi_wp2
  gi_loopw [6, 7, 8, 9, 13] (fun _ _ _ _ i wr => KRel f n C w1 J i wr) (fun _ _ _ _ i _ => (kindsV f n).length - (intOf i).toNat)
  case atStart => exact ⟨[], rfl, by simp, HJ0.out, Nat.le_refl _, fun _ _ _ => rfl⟩
  case round =>
    obtain ⟨pre, rfl, hk, hJ, hszr, hkept⟩ := hrel
    have HJ := Lib.hid hJ
    have Hkept := Lib.hid hkept
    have Hszr := Lib.hid hszr
    clear hJ hkept HJ0
    by_cases hlt : pre.length < (kindsV f n).length
    · have hck : (kindsV f n)[pre.length]? = some ((kindsV f n).getD pre.length clsNone) := by rw [List.getD_eq_getElem?_getD, List.getElem?_eq_getElem hlt]; rfl
      have hcok : ((kindsV f n).getD pre.length clsNone).ok := by
        obtain ⟨j, hj⟩ := kinds_from f n _ (List.mem_of_getElem? hck)
        rw [← hj]
        exact Hcls.out j
      have l0 : wr.cell? ⟨Bl, 0, none⟩ = some (.slice p n cap) := kept_cell Hkept.out (HE1.out.cell (cell_of_row _ _ _ _ _ _ Hl.out)) hCl
      have l1 : wr.cell? ⟨Bl, 1, none⟩ = some (.int .i64 K) := kept_cell Hkept.out (HE1.out.cell (cell_of_row _ _ _ _ _ _ Hl.out)) hCl
      have ls : wr.cell? ⟨Bs, 0, none⟩ = some (.string s) := kept_cell Hkept.out (HE1.out.cell Hst.out) hCs
      have lz : wr.cell? ⟨Bz, 0, none⟩ = some (.int .i64 size) := kept_cell Hkept.out (HE1.out.cell Hz.out) hCz
      have hrp : Hid (RdC wr p n f) := by
        rcases Hr.out with h | ⟨b, o, h2, h3⟩
        · exact .inl h
        · exact .inr ⟨b, o, h2, fun j hj => kept_cls Hkept.out ((h3 j hj).ext HE1.out) (HCp.out _ h2)⟩
      obtain ⟨g, off, rfl, hd⟩ := Hrd.out.at hlt
      have hgC : C g := HCr.out g (by have := Hpv.out _ rfl; simp only [] at this; omega)
      obtain ⟨d0, d1, d2, d3⟩ := kept_cls Hkept.out hd hgC
      have Hck := Lib.hid hck
      have Hcok := Lib.hid hcok
      generalize (kindsV f n).getD pre.length clsNone = c at *
      clear hck hcok hd
      have hnb := heap_alloc_new wr (.cells #[.int .u64 c.w0, .int .u64 c.w1, .int .u64 c.w2, .int .u64 c.w3] 27)
      obtain ⟨⟨x0, x1, x2, x3⟩, -⟩ := cls_cells hnb
      have hwa : Ext wr (wr.alloc (.cells #[.int .u64 c.w0, .int .u64 c.w1, .int .u64 c.w2, .int .u64 c.w3] 27)) := (Ext.refl wr).alloc _
      have h8 : Hid (Held8 Bl Bs Bz wr.heap.size p n cap K s size c (wr.alloc (.cells #[.int .u64 c.w0, .int .u64 c.w1, .int .u64 c.w2, .int .u64 c.w3] 27)) (wr.alloc (.cells #[.int .u64 c.w0, .int .u64 c.w1, .int .u64 c.w2, .int .u64 c.w3] 27))) :=
        ⟨Ext.refl _, hwa.cell l0, hwa.cell l1, hwa.cell ls, hwa.cell lz, x0, x1, x2, x3⟩
      clear x0 x1 x2 x3 hnb
      have b1 : (0 : Int) ≤ (pre.length : Int) := by omega
      have b2 : (pre.length : Int) < ((kindsV f n).length : Int) := by omega
      gi_wp2
      refine wpIn_wide.2 ?_
      generalize wr.alloc (.cells #[.int .u64 c.w0, .int .u64 c.w1, .int .u64 c.w2, .int .u64 c.w3] 27) = wa at *
      generalize hX : wr.heap.size = X at *
      have HX := Lib.hid hX
      clear hX
      have Hpl := Lib.hid (fun W (hW : Ext wa W) => places_any p n cap K f c hcap (by omega) W ((hrp.out.ext hwa).ext hW))
      have Hmk := Lib.hid (fun W => marks_any s hs c Hcok.out W)
      have Hco := Lib.hid (fun g1 g2 W => corr_marks f s n c size h1 h64 hs Hok.out g1 g2 W)
      clear l0 l1 ls lz d0 d1 d2 d3 b1 b2 hszr
      go_region_held3 (fun W' => Ext wa W' ∧ W'.cell? ⟨Bl, 0, none⟩ = some (.slice p n cap) ∧ W'.cell? ⟨Bl, 1, none⟩ = some (.int .i64 K) ∧ W'.cell? ⟨Bs, 0, none⟩ = some (.string s) ∧ W'.cell? ⟨Bz, 0, none⟩ = some (.int .i64 size) ∧
          W'.cell? ⟨X, 0, none⟩ = some (.int .u64 c.w0) ∧ W'.cell? ⟨X, 1, none⟩ = some (.int .u64 c.w1) ∧ W'.cell? ⟨X, 2, none⟩ = some (.int .u64 c.w2) ∧ W'.cell? ⟨X, 3, none⟩ = some (.int .u64 c.w3))
        ((first | exact h8.out | exact h8.out.ext (Ext.refl wa).drew | exact (h8.out.ext (Ext.refl wa).drew).ext hb2 | exact (h8.out.ext (Ext.refl wa).drew).ext hb3 | exact ((h8.out.ext (Ext.refl wa).drew).ext hb2).ext hb3 | exact ((h8.out.ext (Ext.refl wa).drew).ext hb3).ext hb2 | exact (((h8.out.ext (Ext.refl wa).drew).ext hb2).ext hb3).ext hb4 | exact (((h8.out.ext (Ext.refl wa).drew).ext hb3).ext hb2).ext hb4))
        (first
          | (go_at_call 20; refine (Hpl.out _ (by first | exact (Ext.refl wa).drew | exact (Ext.refl wa).drew.trans hb3)).mono ?_; rintro e w2 ⟨g1, rfl, hg1, hrow1, hb2⟩)
          | (go_at_call 18; refine (Hmk.out _).mono ?_; rintro e w3 ⟨g2, rfl, hg2, hrow2, hb3⟩)
          | (go_at_call 30; refine (Hco.out g1 g2 _ (by first | exact hrow1 | exact hrow1.ext hb3) (by first | exact hrow2 | exact hrow2.ext hb2)).mono ?_; rintro e w4 ⟨v, rfl, hhit, hb4⟩))
      have hE4 : Ext wr w4 := by
        first
          | exact hwa.trans (((Ext.refl wa).drew.trans hb2).trans (hb3.trans hb4))
          | exact hwa.trans (((Ext.refl wa).drew.trans hb3).trans (hb2.trans hb4))
      have HJ4 := HJe.out _ _ _ HJ.out hE4
      have HZ4 : KZ f s n size pre (v, kcount n s.size size) w4 := ⟨c, Hck.out, hhit, rfl⟩
      obtain ⟨fn, tmps, assign, body, hy, hR⟩ := HY.out pre (v, kcount n s.size size) w4 HJ4 HZ4
      dsimp only [encsK] at hy
      have HR := Lib.hid hR
      have HE4 := Lib.hid hE4
      clear hR hE4 HJ4 HZ4 hhit
      gi_wp2
      refine ⟨rfl, HR.out.mono ?_⟩
      rintro e W2 ⟨rfl, hJ2, hsz2, hC2⟩
      have hkept2 : ∀ k, C k → k < w1.heap.size → W2.heap[k]? = w1.heap[k]? := by
        intro k hkC hkl
        have e1 := Hszr.out
        have e2 := HE4.out.size
        have e3 := HX.out
        rw [hC2 k hkC (by omega), Below.block HE4.out k (by omega), Hkept.out k hkC hkl]
      have hs2 : Hid (w1.heap.size ≤ W2.heap.size) := by
        show _ ≤ _
        have e1 := Hszr.out
        have e2 := HE4.out.size
        have e3 := HX.out
        omega
      have HJ2 := Lib.hid hJ2
      have Hkept2 := Lib.hid hkept2
      clear hJ2 hkept2 hC2 hsz2
      gi_wp2
      go_roundw
      case rel => exact ⟨pre ++ [(v, kcount n s.size size)], by rw [List.length_append, List.length_singleton]; go_num, by rw [List.length_append, List.length_singleton]; omega, HJ2.out, hs2.out, Hkept2.out⟩
      case measure => simp [intOf]; omega
    · have e : pre.length = (kindsV f n).length := by omega
      have hS : Hid (KS f n pre) := e
      gi_wp2
      go_end0
      exact ⟨⟨_, rfl⟩, pre, hS.out, HJ.out⟩
end Go.Proofs.Ytmadelflnjhibaa
