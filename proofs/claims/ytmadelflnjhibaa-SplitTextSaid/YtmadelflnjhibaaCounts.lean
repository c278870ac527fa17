import Derived.Test.YtmadelflnjhibaaKindsI
import Derived.Lib.MinMax
namespace Go.Proofs.Ytmadelflnjhibaa
open Go.RowKit Go.Shelf
attribute [local go_sem] Cls.val clsNone clsAll
attribute [local go_sem] Oper.semAt_some

/-- The hits of the first kinds, summed. -/
def hitSum (f : Nat → Cls) (s : ByteArray) (n : Nat) : List Cls → Nat → Int
  | [], _ => 0
  | c :: cs, i => hitV f s n c i + hitSum f s n cs i

theorem hitV_bd (f : Nat → Cls) (s : ByteArray) (n : Nat) (c : Cls) (i : Nat) : 0 ≤ hitV f s n c i ∧ hitV f s n c i ≤ n := by
  have hone : ∀ b, 0 ≤ one b ∧ one b ≤ 1 := by intro b; cases b <;> simp [one]
  have hp : ∀ a b, 0 ≤ one a * one b ∧ one a * one b ≤ 1 := by intro a b; cases a <;> cases b <;> simp [one]
  unfold hitV slideV
  refine ⟨sm_nn fun u _ => (hp _ _).1, ?_⟩
  refine Int.le_trans (sm_le (c := 1) fun u _ => (hp _ _).2) (by omega)

theorem hitSum_bd (f : Nat → Cls) (s : ByteArray) (n : Nat) (i : Nat) : ∀ ks : List Cls, 0 ≤ hitSum f s n ks i ∧ hitSum f s n ks i ≤ ks.length * n
  | [] => by simp [hitSum]
  | c :: cs => by
    have h1 := hitV_bd f s n c i
    have h2 := hitSum_bd f s n i cs
    have h3 : ((c :: cs).length : Int) * n = cs.length * n + n := by rw [List.length_cons, Int.natCast_add, Int.add_mul]; simp
    unfold hitSum
    omega

theorem hitSum_snoc (f : Nat → Cls) (s : ByteArray) (n : Nat) (i : Nat) (c : Cls) : ∀ ks : List Cls, hitSum f s n (ks ++ [c]) i = hitSum f s n ks i + hitV f s n c i
  | [] => by simp [hitSum]
  | k :: ks => by
    show hitV f s n k i + hitSum f s n (ks ++ [c]) i = hitV f s n k i + hitSum f s n ks i + hitV f s n c i
    rw [hitSum_snoc f s n i c ks]; omega

def outV (f : Nat → Cls) (s : ByteArray) (n : Nat) (ks : List Cls) (i : Nat) : Int := boundV f n - hitSum f s n ks i

theorem fold2v (p q : Tmp) (x : Value × Int) (t : Array Value) : ((#[p, q] : Array Tmp).zip (encsK x)).foldl (fun t (p, v) => t.setIfInBounds p v) t = (t.setIfInBounds p x.1).setIfInBounds q (.int .i64 x.2) := by simp [encsK]

/-- A frame with two slots drawn and moved. -/
def put4v (p q r s : Nat) (x : Value × Int) (a : Act) : Act := { tmps := (((a.tmps.setIfInBounds p x.1).setIfInBounds q (.int .i64 x.2)).setIfInBounds r x.1).setIfInBounds s (.int .i64 x.2), defers := [] }

theorem kcount_bd (n tn : Nat) (size : Int) (h64 : n ≤ 64) (hs : tn ≤ 1099511627776) : 0 ≤ kcount n tn size ∧ kcount n tn size ≤ 6597069766671 := by
  unfold kcount
  split
  · unfold countV
    have := Nat.div_le_self (tn - n) (size.toNat - n + 1)
    omega
  · omega

/-- All but two blocks stay. -/
structure Grown2 (w W : World) (a b : Nat) : Prop where
  os : W.os = w.os
  tape : W.tape = w.tape
  output : W.output = w.output
  size : w.heap.size ≤ W.heap.size
  block : ∀ k, k < w.heap.size → k ≠ a → k ≠ b → W.heap[k]? = w.heap[k]?

theorem Grown2.ext {w A B : World} {a b : Nat} (h : Grown2 w A a b) (he : Ext A B) : Grown2 w B a b :=
  ⟨(Below.os he).trans h.os, (Below.tape he).trans h.tape, (Below.output he).trans h.output, Nat.le_trans h.size he.size, fun k hk h1 h2 => by
    have := h.size
    rw [Below.block he k (by omega), h.block k hk h1 h2]⟩

/-- What holds between two kinds. -/
def CntI (f : Nat → Cls) (s : ByteArray) (n N q g a : Nat) (size : Int) (w0 : World) (pre : List (Value × Int)) (W : World) : Prop :=
  Grown2 w0 W g a ∧ Row W 3 g N (I fun i => q - hitSum f s n ((kindsV f n).take pre.length) i) ∧ W.heap[a]? = some (.cells #[.int .i64 (pre.length * kcount n s.size size)] 3 (0, 0))

theorem CntI.ext {f : Nat → Cls} {s : ByteArray} {n N q g a : Nat} {size : Int} {w0 A B : World} {pre : List (Value × Int)} (h : CntI f s n N q g a size w0 pre A) (he : Ext A B) : CntI f s n N q g a size w0 pre B :=
  ⟨h.1.ext he, h.2.1.ext he, he.heap h.2.2⟩

theorem CntI.put {f : Nat → Cls} {s : ByteArray} {n N q g a : Nat} {size : Int} {w0 A : World} {pre : List (Value × Int)} {l : Nat} (h : CntI f s n N q g a size w0 pre A) (hl : w0.heap.size ≤ l) (hg : g < w0.heap.size) (ha : a < w0.heap.size) (o : Obj) : CntI f s n N q g a size w0 pre (A.putObj l o) := by
  obtain ⟨h1, ⟨cur, h2, h3⟩, h4⟩ := h
  exact ⟨⟨h1.os, h1.tape, h1.output, by rw [World.putObj_size]; exact h1.size, fun k hk e1 e2 => (World.putObj_heap_other (by omega)).trans (h1.block k hk e1 e2)⟩, ⟨cur, (World.putObj_heap_other (by omega)).trans h2, h3⟩, (World.putObj_heap_other (by omega)).trans h4⟩

theorem KZ.put {f : Nat → Cls} {s : ByteArray} {n : Nat} {size : Int} {pre : List (Value × Int)} {x : Value × Int} {A : World} {l : Nat} {o : Obj} (h : KZ f s n size pre x A) (_ : True) (ho : A.heap[l]? = some o) (hc : o.isCells = false) (o' : Obj) : KZ f s n size pre x (A.putObj l o') := by
  obtain ⟨c, h1, h2, h3⟩ := h
  exact ⟨c, h1, ownsRow_putObj h2 o' ho hc, h3⟩

def InnRel (W1 : World) (g k : Nat) (base hit : Nat → Int) (i : Value) (wr : World) : Prop :=
  ∃ t : Nat, t ≤ k ∧ i = .int .i64 t ∧ W1.grownBy wr (some g) ∧ Row wr 3 g k (I fun j => if j < t then base j - hit j else base j)

theorem box3 (w : World) (o1 o2 o3 : Obj) : (((w.alloc o1).alloc o2).alloc o3).heap[w.heap.size]? = some o1 ∧ (((w.alloc o1).alloc o2).alloc o3).heap[w.heap.size + 1]? = some o2 ∧ (((w.alloc o1).alloc o2).alloc o3).heap[w.heap.size + 1 + 1]? = some o3 ∧ Ext w (((w.alloc o1).alloc o2).alloc o3) ∧ (((w.alloc o1).alloc o2).alloc o3).heap.size = w.heap.size + 1 + 1 + 1 := by
  have s1 := World.size_alloc w o1
  have s2 := World.size_alloc (w.alloc o1) o2
  refine ⟨?_, ?_, ?_, (((Ext.refl w).alloc _).alloc _).alloc _, by simp⟩
  · exact (((Ext.refl (w.alloc o1)).alloc o2).alloc o3).heap (World.alloc_heap_new w o1)
  · have h := ((Ext.refl ((w.alloc o1).alloc o2)).alloc o3).heap (World.alloc_heap_new (w.alloc o1) o2)
    rwa [s1] at h
  · have h := World.alloc_heap_new ((w.alloc o1).alloc o2) o3
    rwa [s2, s1] at h

def FillRel (g N _ : Nat) (z : Int) (w : World) (i : Value) (wr : World) : Prop :=
  ∃ k : Nat, k ≤ N ∧ i = .int .i64 k ∧ w.grownBy wr (some g) ∧ Row wr 3 g N (I fun j => if j < k then z else 0)

set_option maxRecDepth 100000 in
set_option maxHeartbeats 4000000 in
theorem scounts_any (p : Option Addr) (n cap : Nat) (K : Int) (f : Nat → Cls) (hcap : n ≤ cap) (hn : n ≤ 1099511627776) (s : ByteArray) (hs : s.size ≤ 1099511627776) (size : Int) (hcls : ∀ j, (f j).ok) (w : World) (hr : RdC w p n f) (hck : checkV f n K s.size size = 0) (h1 : 1 ≤ n) (h64 : n ≤ 64) (hok : n ≤ s.size → szOk n size = true) :
    Calls Try.prog 22 #[leafVal p n cap K, .string s, .int .i64 size] w fun e w' =>
      ∃ g, e = .returned (.tuple #[.slice (some ⟨g, 0, none⟩) (sumsN n s.size) (sumsN n s.size), .int .i64 ((kindsV f n).length * kcount n s.size size), .int .i64 0]) ∧ w.heap.size ≤ g ∧ Row w' 3 g (sumsN n s.size) (I (outV f s n (kindsV f n))) ∧ Ext w w' := by
  have hnew := heap_alloc_new w (.cells #[.slice p n cap, .int .i64 K] 24)
  have hE0 := (Ext.refl w).alloc (.cells #[.slice p n cap, .int .i64 K] 24)
  have Hr := Lib.hid hr
  have Hcls := Lib.hid hcls
  have Hok := Lib.hid hok
  have Hsc := Lib.hid (fun W (hW : Ext w W) => scheck_any p n cap K f hcap hn s hs size W (hr.ext hW))
  rw [hck] at Hsc
  unfold leafVal at *
  clear hr hcls hok hck
  have hN : ∃ N : Nat, N = sumsN n s.size := ⟨_, rfl⟩
  obtain ⟨N, hN⟩ := hN
  have HN := Lib.hid hN
  have hNv : max (0 : Int) ((s.size : Int) - n + 1) = N := by rw [hN]; unfold sumsN; omega
  have hNb : N ≤ 1099511627777 := by rw [hN]; unfold sumsN; omega
  clear hN
  refine calls_marks Try.func22 rfl ?_
  simp only [Try.ntmps22, List.size_toArray, List.length_cons, List.length_nil, Nat.reduceAdd, Nat.reduceSub, Array.replicate_succ, Array.replicate_zero, List.push_toArray, List.append_toArray, List.nil_append, List.cons_append]
  go_wp2_with fail
  generalize w.alloc (.cells #[.slice p n cap, .int .i64 K] 24) = W at *
  refine (Hsc.out W hE0).mono ?_
  rintro e w2 ⟨rfl, hE2⟩
  have c0 : w2.cell? ⟨w.heap.size, 0, none⟩ = some (.slice p n cap) := hE2.cell (cell_of_row _ _ _ _ _ _ hnew)
  have c1 : w2.cell? ⟨w.heap.size, 1, none⟩ = some (.int .i64 K) := hE2.cell (cell_of_row _ _ _ _ _ _ hnew)
  have i1 : IntKind.i64.wrap ((s.size : Int) - n) = (s.size : Int) - n := IntWalk.i64_in _ ⟨by omega, by omega⟩
  have i2 : IntKind.i64.wrap ((s.size : Int) - n + 1) = (s.size : Int) - n + 1 := IntWalk.i64_in _ ⟨by omega, by omega⟩
  obtain ⟨w3, hm, hrow3, hE3⟩ := make_int w2 N (by omega)
  have hs3 : w2.heap.size < w3.heap.size := hrow3.lt
  have a0 := ((hE3).alloc (.cells #[.slice (some ⟨w2.heap.size, 0, none⟩) N N] 35)).cell c0
  have a1 := ((hE3).alloc (.cells #[.slice (some ⟨w2.heap.size, 0, none⟩) N N] 35)).cell c1
  have HRow3 := Lib.hid hrow3
  have HE3 := Lib.hid ((hE0.trans hE2).trans hE3)
  have Hs2 := Lib.hid (hE0.trans hE2).size
  clear hrow3 hE3 hE0 hE2 hnew
  go_wp2_with fail
  have hlow2 := Hs2.out
  have hlw : w.heap.size < w2.heap.size := World.block_lt_of_cell? _ _ c0
  generalize hg : w2.heap.size = g at *
  have hXn := heap_alloc_new w3 (.cells #[.slice (some ⟨g, 0, none⟩) N N] 35)
  have hRowW := HRow3.out.ext ((Ext.refl w3).alloc (.cells #[.slice (some ⟨g, 0, none⟩) N N] 35))
  have HE4 := Lib.hid (HE3.out.alloc (.cells #[.slice (some ⟨g, 0, none⟩) N N] 35))
  have Hsz4 := Lib.hid (World.size_alloc w3 (.cells #[.slice (some ⟨g, 0, none⟩) N N] 35))
  generalize w3.alloc (.cells #[.slice (some ⟨g, 0, none⟩) N N] 35) = W4 at *
  generalize hX : w3.heap.size = X at *
  have cX : W4.cell? ⟨X, 0, none⟩ = some (.slice (some ⟨g, 0, none⟩) N N) := cell_of_row _ _ _ _ _ _ hXn
  have HRowW := Lib.hid hRowW
  have HXn := Lib.hid hXn
  clear hRowW hXn HRow3 HE3 hm c0 c1
  have hBd := Lib.hid (fun V (hV : Ext w V) => bound_any p n cap K f hn hcap V (Hr.out.ext hV))
  generalize hbv : boundV f n = q at *
  have Hbv := Lib.hid hbv
  clear hbv
  unfold leafVal at hBd
  go_loopw [11, 35] (fun _ i wr => FillRel g N q q W4 i wr) (fun _ i _ => N - (intOf i).toNat)
  case atStart => exact ⟨0, by omega, rfl, ⟨rfl, rfl, rfl, Nat.le_refl _, fun _ _ _ => rfl⟩, HRowW.out.congr fun j _ => by simp [I]⟩
  case round =>
    obtain ⟨k, hk, rfl, hgr, hrow⟩ := hrel
    have hl0 : wr.cell? ⟨w.heap.size, 0, none⟩ = some (.slice p n cap) := hgr.cell a0 (ne_some (show w.heap.size ≠ g by omega))
    have hl1 : wr.cell? ⟨w.heap.size, 1, none⟩ = some (.int .i64 K) := hgr.cell a1 (ne_some (show w.heap.size ≠ g by omega))
    have hx0 : wr.cell? ⟨X, 0, none⟩ = some (.slice (some ⟨g, 0, none⟩) N N) := hgr.cell cX (ne_some (show X ≠ g by omega))
    by_cases hlt : k < N
    · have hcell := hrow.cell hlt
      have hfr := hrow.frozen k
      rw [show (I fun j => if j < k then (q : Int) else 0) k = .int .i64 0 from by simp [I]] at hcell
      have HRow := Lib.hid hrow
      have Hgr := Lib.hid hgr
      have b1 : (0 : Int) ≤ (k : Int) := by omega
      have b2 : (k : Int) < (N : Int) := by omega
      have hBd2 := Lib.hid (fun V (hV : Ext wr V) => (hBd.out V ((HE4.out.grown Hgr.out (fun q hq => by injection hq with hq; omega)).trans hV)))
      clear hrow hgr
      go_wp2_with fail
      go_region_held3 (fun W' => wr.grownBy W' (some g) ∧ W'.cell? ⟨X, 0, none⟩ = some (.slice (some ⟨g, 0, none⟩) N N) ∧ W'.cell? ⟨w.heap.size, 0, none⟩ = some (.slice p n cap) ∧ W'.cell? ⟨w.heap.size, 1, none⟩ = some (.int .i64 K))
        ((first | exact ⟨(Ext.refl wr).grownBy _, hx0, hl0, hl1⟩ | exact ⟨(Ext.refl wr).drew.grownBy _, hx0, hl0, hl1⟩ | exact ⟨((Ext.refl wr).drew.trans hb2).grownBy _, hb2.cell hx0, hb2.cell hl0, hb2.cell hl1⟩ | exact ⟨g5, g5.cell hx0 (ne_some (show X ≠ g by omega)), g5.cell hl0 (ne_some (show w.heap.size ≠ g by omega)), g5.cell hl1 (ne_some (show w.heap.size ≠ g by omega))⟩))
        ((go_at_call 32; refine (hBd2.out _ (Ext.refl wr).drew).mono ?_; rintro e w5 ⟨rfl, hb2⟩; have hc5 := hb2.cell hcell; have hf5 := (hb2.frozen hcell).trans hfr; have g5 := grownBy_trans (((Ext.refl wr).drew.trans hb2).grownBy (some g)) (grownBy_setCell w5 g k (.int .i64 q))))
      have hrow5 : Hid (Row (w5.setCell ⟨g, k, none⟩ (.int .i64 q)) 3 g N (I fun j => if j < k + 1 then (q : Int) else 0)) := ((HRow.out.ext ((Ext.refl wr).drew.trans hb2)).set k _).congr fun j hj => by
        unfold I
        by_cases e : j = k
        · subst e; simp
        · by_cases e2 : j < k
          · simp [e, e2, show j < k + 1 by omega]
          · simp [e, e2, show ¬ j < k + 1 by omega]
      have hg5 := Lib.hid (grownBy_trans Hgr.out g5)
      clear g5 hc5 hf5
      go_wp2_with fail
      go_roundw
      case rel => exact ⟨k + 1, by omega, by go_num, hg5.out, hrow5.out⟩
      case measure => simp [intOf]; omega
    · have e : k = N := by omega
      subst e
      have hrowN : Hid (Row wr 3 g k (I fun _ => (q : Int))) := hrow.congr fun j hj => by simp [I, hj]
      have hEwr : Hid (Ext w wr) := HE4.out.grown hgr (fun q hq => by injection hq with hq; omega)
      have hszX : W4.heap.size ≤ wr.heap.size := hgr.size
      have hs4 := Hsz4.out
      have z0 := ((Ext.refl wr).alloc (.cells #[.int .i64 0] 3)).cell hl0
      have z1 := ((Ext.refl wr).alloc (.cells #[.int .i64 0] 3)).cell hl1
      clear hrow hgr
      go_wp2_with fail
      refine gen_world (fun V => Ext wr V ∧ V.heap[wr.heap.size]? = some (.cells #[.int .i64 0] 3 (0, 0))) ⟨(by repeat (first | exact Ext.refl _ | refine Ext.drew ?_ | refine Ext.alloc ?_ _ | refine Ext.setCell ?_ (by simp; done) _ | refine Ext.setCell ?_ (by simp; omega) _)), heap_alloc_new _ _⟩ ?_
      rintro V ⟨hEV, hVn⟩
      have hAV : wr.heap.size < V.heap.size := (Array.getElem?_eq_some_iff.1 hVn).1
      refine (skinds_any p n cap K s size V).mono ?_
      rintro e w7 ⟨rfl, hw7⟩
      obtain ⟨y1, y2, y3, hE7, hs7⟩ := box3 V (.cells #[.slice p n cap, .int .i64 K] 24) (.cells #[.string s] 9) (.cells #[.int .i64 size] 3)
      rw [hw7] at y1 y2 y3 hE7 hs7
      have Y1 := Lib.hid y1
      have Y2 := Lib.hid y2
      have Y3 := Lib.hid y3
      have HE7 := Lib.hid hE7
      have HEV := Lib.hid hEV
      have HVn := Lib.hid hVn
      clear y1 y2 y3 hE7 hEV hVn hw7
      go_wp2_with fail
      have HIt := Lib.hid (kinds_iter p n cap K f hcap s hs size h1 h64 Hok.out Hcls.out V.heap.size (V.heap.size + 1) (V.heap.size + 1 + 1) (fun j => (j < w7.heap.size ∧ j ≠ g ∧ j ≠ wr.heap.size) ∨ w7.heap.size + 2 ≤ j) w7 (fun j hj => .inr hj)
        (.inl ⟨by omega, by omega, by omega⟩) (.inl ⟨by omega, by omega, by omega⟩) (.inl ⟨by omega, by omega, by omega⟩)
        (fun a ha => by
          obtain ⟨b, off, hp, h0, _⟩ := Hr.out.at (show 0 < n by omega)
          have h5 := World.block_lt_of_cell? _ _ h0
          rw [ha] at hp
          injection hp with hp
          subst hp
          simp only [] at h5 ⊢
          have := hEwr.out.size
          exact .inl ⟨by omega, by omega, by omega⟩) Y1.out (cell_of_row _ _ _ _ _ _ Y2.out) (cell_of_row _ _ _ _ _ _ Y3.out) (Hr.out.ext ((hEwr.out.trans HEV.out).trans HE7.out)))
      refine wp_range_at (put4v 48 49 13 14) rfl (fun _ _ => rfl) (encs := encsK) (fun _ => rfl) _ (KZ f s n size) (KS f n) HIt.out
        (by rintro j (⟨h, _, _⟩ | h)
            · exact .inl h
            · exact .inr h) (fun pre x A l o o' hl ho hc h => KZ.put h trivial ho hc o')
        (CntI f s n k q g wr.heap.size size w7) (fun _ _ _ h he => h.ext he) (fun _ _ _ _ o' hl ho hc h => h.put hl (by omega) (by omega) o')
        ⟨⟨rfl, rfl, rfl, Nat.le_refl _, fun _ _ _ _ => rfl⟩, (hrowN.out.ext (HEV.out.trans HE7.out)).congr fun j _ => by simp [I, hitSum], by simpa using HE7.out.heap HVn.out⟩ ?assign ?body ?done
      case assign =>
        intro l x W K hK
        rw [fold2v]
        gi_wp2
        exact hK
      case body =>
        intro l pre x W hsz hI hZ
        obtain ⟨hgr2, hrowF, hA⟩ := hI
        obtain ⟨c, hc, hhit, hx2⟩ := hZ
        obtain ⟨hv, cnt'⟩ := x
        simp only [] at hhit hx2
        subst hx2
        have hX7 : w7.cell? ⟨X, 0, none⟩ = some (.slice (some ⟨g, 0, none⟩) k k) := HE7.out.cell (HEV.out.cell hx0)
        have hXW : W.cell? ⟨X, 0, none⟩ = some (.slice (some ⟨g, 0, none⟩) k k) := by
          rw [World.cell?_of_block (hgr2.block X (by omega) (by omega) (by omega))]
          exact hX7
        have cA : W.cell? ⟨wr.heap.size, 0, none⟩ = some (.int .i64 (pre.length * kcount n s.size size)) := cell_of_row _ _ _ _ _ _ hA
        have fA : W.frozen? ⟨wr.heap.size, 0, none⟩ = false := frozen_of_row _ _ _ _ _ hA
        have hpl : pre.length < 64 := by
          have h5 := (List.getElem?_eq_some_iff.1 hc).1
          have h6 := kindsV_len f n
          omega
        have hkc := kcount_bd n s.size size h64 hs
        have hprod : (0 : Int) ≤ pre.length * kcount n s.size size ∧ (pre.length : Int) * kcount n s.size size ≤ 64 * 6597069766671 := by
          refine ⟨Int.mul_nonneg (by omega) hkc.1, Int.le_trans (Int.mul_le_mul_of_nonneg_right (show (pre.length : Int) ≤ 64 by omega) hkc.1) (Int.mul_le_mul_of_nonneg_left hkc.2 (by omega))⟩
        have hnext : (pre.length : Int) * kcount n s.size size + kcount n s.size size = ((pre ++ [((hv : Value), kcount n s.size size)]).length : Int) * kcount n s.size size := by
          rw [List.length_append, List.length_singleton, Int.natCast_add, Int.add_mul]; simp
        generalize hkcE : kcount n s.size size = kc at *
        have HkcE := Lib.hid hkcE
        clear hkcE
        generalize hz0 : (pre.length : Int) * kc = z0 at *
        have i3 : IntKind.i64.wrap (z0 + kc) = z0 + kc := IntWalk.i64_in _ ⟨by omega, by omega⟩
        have Hnext := Lib.hid hnext
        clear hnext
        unfold HitsAt at hhit
        rw [← HN.out] at hhit
        obtain ⟨pv, cv, rfl, hcv⟩ := ownsRow_form hhit
        have Hhit := Lib.hid hhit
        have HRowF := Lib.hid hrowF
        have HG2 := Lib.hid hgr2
        have HA := Lib.hid hA
        clear hhit hrowF hgr2 hA
        unfold put4v
        gi_wp2
        have hb1 : ∀ i, 0 ≤ hitV f s n c i ∧ hitV f s n c i ≤ 64 := fun i => ⟨(hitV_bd f s n c i).1, Int.le_trans (hitV_bd f s n c i).2 (by omega)⟩
        have Hb1 := Lib.hid hb1
        clear hb1
        have hAg : wr.heap.size ≠ g := by omega
        have hW1 : W.grownBy (W.setCell ⟨wr.heap.size, 0, none⟩ (.int .i64 (z0 + kc))) (some wr.heap.size) := grownBy_setCell _ _ _ _
        have hrow1 : Hid (Row (W.setCell ⟨wr.heap.size, 0, none⟩ (.int .i64 (z0 + kc))) 3 g k (I fun i => q - hitSum f s n ((kindsV f n).take pre.length) i)) := HRowF.out.kept hW1 (ne_some (fun h => hAg h.symm))
        have hX1 : (W.setCell ⟨wr.heap.size, 0, none⟩ (.int .i64 (z0 + kc))).cell? ⟨X, 0, none⟩ = some (.slice (some ⟨g, 0, none⟩) k k) := hW1.cell hXW (ne_some (show X ≠ wr.heap.size by omega))
        have HW1 := Lib.hid hW1
        clear hW1 hXW cA fA
        generalize hW1g : W.setCell ⟨wr.heap.size, 0, none⟩ (.int .i64 (z0 + kc)) = W1 at *
        obtain ⟨wo, rfl⟩ : ∃ wo : World, wo = wr := ⟨_, rfl⟩
        gi_loopw [15, 16, 55] (fun _ _ i wr2 => InnRel W1 g k (fun i => q - hitSum f s n ((kindsV f n).take pre.length) i) (hitV f s n c) i wr2) (fun _ _ i _ => k - (intOf i).toNat)
        case atStart => exact ⟨0, by omega, rfl, (Ext.refl _).grownBy _, hrow1.out.congr fun j _ => by simp [I]⟩
        case round =>
          obtain ⟨t, ht, rfl, hgr, hrow⟩ := hrel
          have Hgr := Lib.hid hgr
          have HRow := Lib.hid hrow
          clear hgr hrow
          by_cases hlt : t < k
          · obtain ⟨gh, ch, h5, _, _, hrowH⟩ := Row.owns Hhit.out (by omega)
            injection h5 with h5 _ _
            subst h5
            have hne : gh ≠ g := by
              rintro rfl
              obtain ⟨cu, e1, _⟩ := hrowH
              obtain ⟨cu', e2, _⟩ := HRowF.out
              rw [e1] at e2
              injection e2 with e2
              injection e2 with _ e2
              exact absurd e2 (by decide)
            have hneA : gh ≠ wo.heap.size := by
              rintro rfl
              obtain ⟨cu, e1, _⟩ := hrowH
              rw [HA.out] at e1
              injection e1 with e1
              injection e1 with _ e2
              exact absurd e2 (by decide)
            have hhc : W.cell? ⟨gh, t, none⟩ = some (.int .u64 (hitV f s n c t)) := by
              have h6 := hrowH.cell (show t < k * 1 by omega)
              rw [h6]
              show some ((List.map (U (hitV f s n c)) (List.range k)).getD t undef) = _
              rw [List.getD_eq_getElem?_getD, List.getElem?_map, List.getElem?_range hlt]
              rfl
            have hhc2 : wr.cell? ⟨gh, t, none⟩ = some (.int .u64 (hitV f s n c t)) := Hgr.out.cell (HW1.out.cell hhc (ne_some hneA)) (ne_some hne)
            have hX2 : wr.cell? ⟨X, 0, none⟩ = some (.slice (some ⟨g, 0, none⟩) k k) := Hgr.out.cell hX1 (ne_some (show X ≠ g by omega))
            have hgc : wr.cell? ⟨g, t, none⟩ = some (.int .i64 (q - hitSum f s n ((kindsV f n).take pre.length) t)) := by
              rw [HRow.out.cell hlt]
              simp [I]
            have hgf := HRow.out.frozen t
            have v1 := Hb1.out t
            have v2 := hitSum_bd f s n t ((kindsV f n).take pre.length)
            have v3 : ((kindsV f n).take pre.length).length * n ≤ 64 * 64 := Nat.mul_le_mul (by rw [List.length_take]; omega) h64
            have v4 : (((kindsV f n).take pre.length).length : Int) * n ≤ 4096 := by exact_mod_cast v3
            have hq : (q : Int) ≤ 64 := by have := Hbv.out; unfold boundV at this; omega
            have hr5 : Hid (Row (wr.setCell ⟨g, t, none⟩ (.int .i64 (q - hitSum f s n ((kindsV f n).take pre.length) t - hitV f s n c t))) 3 g k (I fun j => if j < t + 1 then (q - hitSum f s n ((kindsV f n).take pre.length) j) - hitV f s n c j else q - hitSum f s n ((kindsV f n).take pre.length) j)) := (HRow.out.set t _).congr fun j hj => by
              unfold I
              by_cases e : j = t
              · subst e; simp
              · by_cases e2 : j < t
                · simp [e, e2, show j < t + 1 by omega]
                · simp [e, e2, show ¬ j < t + 1 by omega]
            generalize hitSum f s n ((kindsV f n).take pre.length) t = y at *
            generalize hitV f s n c t = x at *
            have j1 : IntKind.i64.wrap x = x := IntWalk.i64_in _ ⟨by omega, by omega⟩
            have j2 : IntKind.i64.wrap (q - y - x) = q - y - x := IntWalk.i64_in _ ⟨by omega, by omega⟩
            have m1 : (0 : Int) ≤ (t : Int) := by omega
            have m2 : (t : Int) < (k : Int) := by omega
            gi_wp2
            go_roundw
            case rel => exact ⟨t + 1, by omega, by go_num, grownBy_trans Hgr.out (grownBy_setCell _ _ _ _), hr5.out⟩
            case measure => simp [intOf]; omega
          · have e : t = k := by omega
            subst e
            gi_wp2
            have hs1 := HW1.out.size
            have hs2 := Hgr.out.size
            have hstay : ∀ j, j < W.heap.size → j ≠ g → j ≠ wo.heap.size → wr.heap[j]? = W.heap[j]? := by
              intro j hj e1 e2
              rw [Hgr.out.block j (by omega) (ne_some e1), HW1.out.block j hj (ne_some e2)]
            have hGs := HG2.out.size
            refine ⟨by omega, fun j o hj ho _ => ?_, fun j hj hjW => ?_, ?_, ?_, ?_⟩
            · have := (Array.getElem?_eq_some_iff.1 ho).1
              rw [hstay j this (by omega) (by omega)]; exact ho
            · exact hstay j hjW (by omega) (by omega)
            · exact ⟨(Hgr.out.os.trans HW1.out.os).trans HG2.out.os, (Hgr.out.tape.trans HW1.out.tape).trans HG2.out.tape, (Hgr.out.output.trans HW1.out.output).trans HG2.out.output, by omega, fun j hj e1 e2 => (hstay j (by omega) e1 e2).trans (HG2.out.block j hj e1 e2)⟩
            · refine HRow.out.congr fun j hj => ?_
              unfold I
              rw [List.length_append, List.length_singleton, List.take_add_one, hc]
              simp only [Option.toList]
              rw [hitSum_snoc, if_pos hj]
              congr 1
              omega
            · rw [Hgr.out.block _ (by omega) (ne_some hAg), ← hW1g, HkcE.out, ← Hnext.out]
              exact heap_setCell_same _ _ 0 _ _ _ HA.out
      case done =>
        intro D xs W hD hS hI hK
        obtain ⟨hgr2, hrowF, hA⟩ := hI
        have hlen : xs.length = (kindsV f n).length := hS
        rw [hlen, List.take_length] at hrowF
        rw [hlen] at hA
        have hX7 : w7.cell? ⟨X, 0, none⟩ = some (.slice (some ⟨g, 0, none⟩) k k) := HE7.out.cell (HEV.out.cell hx0)
        have hXW : W.cell? ⟨X, 0, none⟩ = some (.slice (some ⟨g, 0, none⟩) k k) := by
          rw [World.cell?_of_block (hgr2.block X (by omega) (by omega) (by omega))]
          exact hX7
        have hAW : W.cell? ⟨wr.heap.size, 0, none⟩ = some (.int .i64 ((kindsV f n).length * kcount n s.size size)) := cell_of_row _ _ _ _ _ _ hA
        generalize hz : ((kindsV f n).length : Int) * kcount n s.size size = z at *
        have Hz := Lib.hid hz
        have HRowF := Lib.hid hrowF
        have HK := Lib.hid hK
        have HD := Lib.hid hD
        have HG2 := Lib.hid hgr2
        have hw7 : Hid (Ext w w7) := (hEwr.out.trans HEV.out).trans HE7.out
        clear hrowF hK hD hgr2 hz hA hlen hS
        go_wp2_with fail
        go_quiet (fail)
        go_wp2_with fail
        have hK' : (W.drewN nq).heap[D]? = some (.deferred (some [])) := HK.out
        refine ⟨by simp, .inl ⟨_, _, rfl, run_takeDeferred hK', ?_⟩⟩
        have hwl := hw7.out.size
        refine ⟨_, results_tmp3 rfl _ _ _, g, ?_, by omega, ?_, ?_⟩
        · rw [← HN.out, Hz.out]; rfl
        · obtain ⟨cur, h2, h3⟩ := HRowF.out
          have hgD : g ≠ D := by have := HD.out; have := (Array.getElem?_eq_some_iff.1 h2).1; omega
          rw [← HN.out]
          refine ⟨cur, (World.putObj_heap_other hgD).trans h2, fun j hj => ?_⟩
          rw [h3 j hj]
          unfold I outV
          rw [Hbv.out]
        · have hD' := HD.out
          have hG := HG2.out
          refine ⟨hG.os.trans hw7.out.os, hG.tape.trans hw7.out.tape, hG.output.trans hw7.out.output, ?_, fun j hj => ?_⟩
          · rw [World.putObj_size]
            exact Nat.le_trans hwl hG.size
          · have := hG.size
            refine (World.putObj_heap_other (by omega)).trans ((hG.block j (by omega) (by omega) (by have := hEwr.out.size; omega)).trans (Below.block hw7.out j hj))
end Go.Proofs.Ytmadelflnjhibaa
