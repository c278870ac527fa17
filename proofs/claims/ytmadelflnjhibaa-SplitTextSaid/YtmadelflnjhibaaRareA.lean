import Derived.Test.YtmadelflnjhibaaSplitA
namespace Go.Proofs.Ytmadelflnjhibaa
set_option maxRecDepth 100000
open Go.RowKit

/-- A slice to read whose block is not among the first. -/
def SlB (w : World) (base : Nat) (v : Value) (N : Nat) (F : Nat → Value) : Prop := Sl w v N F ∧ ∀ a n c, v = .slice (some a) n c → base ≤ a.block
theorem SlB.ext {w w' : World} {base : Nat} {v : Value} {N : Nat} {F : Nat → Value} (h : SlB w base v N F) (he : Ext w w') : SlB w' base v N F := ⟨h.1.ext he, h.2⟩
theorem SlB.of_list {w : World} {base base' : Nat} {v : Value} {L : List Nat} (h : w.ownsRow base' 3 1 v L.length (L.map In)) (hb : base ≤ base') : SlB w base v L.length (I (IL L)) := by
  refine ⟨Sl.of_list h, ?_⟩
  rintro a n c rfl
  obtain ⟨_, h2⟩ := h
  rcases h2 with ⟨h2, _⟩ | ⟨g, cap, cur, h3, h4, _⟩
  · cases h2
  · injection h3 with h3
    injection h3 with h3
    subst h3
    exact Nat.le_trans hb h4

/-- The block r is a table whose keys are bytes, each with the row of its places. -/
def MapP (w : World) (r base : Nat) (pl : Nat → List Nat) : Prop :=
  ∃ es clock, w.heap[r]? = some (.map es clock) ∧ ∀ e ∈ es.toList, ∃ b : Nat, e.key = .int .u8 b ∧ SlB w base e.val (pl b).length (I (IL (pl b)))
def NoKey (w : World) (r b : Nat) : Prop := ∃ es clock, w.heap[r]? = some (.map es clock) ∧ ∀ e ∈ es.toList, e.key ≠ .int .u8 (b : Nat)
theorem MapP.ext {w w' : World} {r base : Nat} {pl : Nat → List Nat} (h : MapP w r base pl) (he : Ext w w') : MapP w' r base pl := by
  obtain ⟨es, clock, h1, h2⟩ := h
  exact ⟨es, clock, he.heap h1, fun e h => by obtain ⟨b, h3, h4⟩ := h2 e h; exact ⟨b, h3, h4.ext he⟩⟩
theorem NoKey.ext {w w' : World} {r b : Nat} (h : NoKey w r b) (he : Ext w w') : NoKey w' r b := by
  obtain ⟨es, clock, h1, h2⟩ := h
  exact ⟨es, clock, he.heap h1, h2⟩

theorem Sl.putMap {w : World} {r : Nat} {es : Array MapEntry} {clock : Nat} (hm : w.heap[r]? = some (.map es clock)) {v : Value} {N : Nat} {F : Nat → Value} (h : Sl w v N F) (o : Obj) : Sl (w.putObj r o) v N F := by
  obtain ⟨p, cap, h1, h2, h3⟩ := h
  refine ⟨p, cap, h1, h2, ?_⟩
  rcases h3 with h3 | ⟨b, off, h4, h5⟩
  · exact .inl h3
  · refine .inr ⟨b, off, h4, fun j hj => ?_⟩
    have h6 := h5 j hj
    have hne : b ≠ r := by
      rintro rfl
      unfold World.cell? at h6
      simp only [hm] at h6
      cases h6
    rw [World.cell?_of_block (w := w) (World.putObj_heap_other hne)]
    exact h6

theorem SlB.putMap {w : World} {r base : Nat} {es : Array MapEntry} {clock : Nat} (hm : w.heap[r]? = some (.map es clock)) {v : Value} {N : Nat} {F : Nat → Value} (h : SlB w base v N F) (o : Obj) : SlB (w.putObj r o) base v N F := ⟨h.1.putMap hm o, h.2⟩
theorem Sl.set {w : World} {g i : Nat} {x : Value} {v : Value} {N : Nat} {F : Nat → Value} (h : Sl w v N F) (hv : ∀ a n c, v = .slice (some a) n c → a.block ≠ g) : Sl (w.setCell ⟨g, i, none⟩ x) v N F := by
  obtain ⟨p, cap, rfl, h2, h3⟩ := h
  refine ⟨p, cap, rfl, h2, ?_⟩
  rcases h3 with h3 | ⟨b, off, rfl, h5⟩
  · exact .inl h3
  · refine .inr ⟨b, off, rfl, fun j hj => ?_⟩
    have hne : b ≠ g := hv _ _ _ rfl
    rw [World.cell?_of_block (heap_setCell_other w ⟨g, i, none⟩ b x (fun e => hne e))]
    exact h5 j hj
theorem SlB.set {w : World} {g i base : Nat} {x : Value} {v : Value} {N : Nat} {F : Nat → Value} (h : SlB w base v N F) (hg : g < base) : SlB (w.setCell ⟨g, i, none⟩ x) base v N F :=
  ⟨h.1.set fun a n c e => by have := h.2 a n c e; omega, h.2⟩
theorem MapP.set {w : World} {r base g i : Nat} {x : Value} {pl : Nat → List Nat} (h : MapP w r base pl) (hg : g < base) (hr : r ≠ g) : MapP (w.setCell ⟨g, i, none⟩ x) r base pl := by
  obtain ⟨es, clock, h1, h2⟩ := h
  exact ⟨es, clock, (heap_setCell_other w ⟨g, i, none⟩ r x (fun e => hr e)).trans h1, fun e h => by obtain ⟨b, h3, h4⟩ := h2 e h; exact ⟨b, h3, h4.set hg⟩⟩

theorem findNow_u8 (b : Nat) : ∀ (es : List MapEntry) (i : Nat), (∀ e ∈ es, ∃ c : Nat, e.key = .int .u8 c) →
    ∃ res, Instr.findNow (.int .u8) (.int .u8 (b : Nat)) es i = some res ∧ ((res = none ∧ ∀ e ∈ es, e.key ≠ .int .u8 (b : Nat)) ∨ ∃ j e, e ∈ es ∧ e.key = .int .u8 (b : Nat) ∧ res = some (j, e.val))
  | [], i, _ => ⟨none, rfl, .inl ⟨rfl, fun e he => by cases he⟩⟩
  | e :: es, i, h => by
    obtain ⟨c, hc⟩ := h e (List.mem_cons_self ..)
    by_cases hx : b = c
    · subst hx
      refine ⟨some (i, e.val), ?_, .inr ⟨i, e, List.mem_cons_self .., hc, rfl⟩⟩
      simp [Instr.findNow, Instr.sameNow, hc]
    · obtain ⟨res, h1, h2⟩ := findNow_u8 b es (i + 1) (fun e' he' => h e' (List.mem_cons_of_mem _ he'))
      have hne : ((b : Int) == (c : Int)) = false := by rw [beq_eq_false_iff_ne]; omega
      refine ⟨res, by simp [Instr.findNow, Instr.sameNow, hc, hne, h1], ?_⟩
      rcases h2 with ⟨rfl, h3⟩ | ⟨j, e', h3, h4, h5⟩
      · refine .inl ⟨rfl, fun e' he' => ?_⟩
        rcases List.mem_cons.1 he' with rfl | he'
        · rw [hc]; intro h; injection h with _ h; omega
        · exact h3 e' he'
      · exact .inr ⟨j, e', List.mem_cons_of_mem _ h3, h4, h5⟩

theorem run_checkKey_u8 (em : Bool) (b : Int) (w : World) : (Instr.checkKey em 10000 5 (.int .u8 b)).run Try.prog w = .ok () w := by kernel_rfl

theorem run_findKey_u8 {b : Int} {es : List MapEntry} {res : Option (Nat × Value)} (w : World) (h : Instr.findNow (.int .u8) (.int .u8 b) es 0 = some res) : (Instr.findKey 5 (.int .u8 b) es).run Try.prog w = .ok res w := by
  unfold Instr.findKey
  simp only [Sem.run_bind, run_underlying Try.underlying5, Result.andThen_ok]
  rw [h]
  rfl

theorem lookB (w : World) (r base : Nat) (pl : Nat → List Nat) (b : Nat) (h : MapP w r base pl) :
    ∃ v ok, (Instr.lookup 94 (.map (some r)) (.int .u8 (b : Nat)) true).run Try.prog w = .ok (.tuple #[v, .bool ok]) w ∧ (ok = true → SlB w base v (pl b).length (I (IL (pl b)))) ∧ (ok = false → v = .slice none 0 0 ∧ NoKey w r b) := by
  obtain ⟨es, clock, h1, h2⟩ := h
  obtain ⟨res, h3, h4⟩ := findNow_u8 b es.toList 0 (fun e he => by obtain ⟨c, h5, _⟩ := h2 e he; exact ⟨c, h5⟩)
  have hz : (zeroValue 35).run Try.prog w = .ok (.slice none 0 0) w := by kernel_rfl
  rcases h4 with ⟨rfl, h5⟩ | ⟨j, e, h5, h6, rfl⟩
  · refine ⟨.slice none 0 0, false, ?_, (fun h => by cases h), fun _ => ⟨rfl, es, clock, h1, h5⟩⟩
    have hfk := run_findKey_u8 w h3
    simp only [Instr.lookup, Sem.run_bind, run_underlying Try.underlying94, MapKept.run_getObj_map h1, run_checkKey_u8, Result.andThen_ok]
    simp [hfk, hz]
  · obtain ⟨c, h7, h8⟩ := h2 e h5
    have hcb : c = b := by rw [h6] at h7; injection h7 with _ h7; omega
    subst hcb
    refine ⟨e.val, true, ?_, (fun _ => h8), fun h => by cases h⟩
    have hfk := run_findKey_u8 w h3
    simp only [Instr.lookup, Sem.run_bind, run_underlying Try.underlying94, MapKept.run_getObj_map h1, run_checkKey_u8, Result.andThen_ok]
    simp [hfk]

theorem updB (w : World) (r base : Nat) (pl : Nat → List Nat) (b : Nat) (v : Value) (h : MapP w r base pl) (hno : NoKey w r b) (hv : SlB w base v (pl b).length (I (IL (pl b)))) :
    ∃ o, (Instr.mapUpdate 94 (.map (some r)) (.int .u8 (b : Nat)) v).run Try.prog w = .ok () (w.putObj r o) ∧ MapP (w.putObj r o) r base pl := by
  obtain ⟨es, clock, h1, h2⟩ := h
  obtain ⟨es', clock', h1', hno⟩ := hno
  rw [h1] at h1'
  injection h1' with h1'
  injection h1' with h1' h1''
  subst h1'
  obtain ⟨res, h3, h4⟩ := findNow_u8 b es.toList 0 (fun e he => by obtain ⟨c, h5, _⟩ := h2 e he; exact ⟨c, h5⟩)
  have hres : res = none := by
    rcases h4 with ⟨h4, _⟩ | ⟨j, e, h5, h6, _⟩
    · exact h4
    · exact absurd h6 (hno e h5)
  subst hres
  refine ⟨.map (es.push { key := .int .u8 (b : Nat), val := v, born := clock }) (clock + 1), ?_, ?_⟩
  · have hfk := run_findKey_u8 w h3
    simp only [Instr.mapUpdate, Sem.run_bind, run_underlying Try.underlying94, MapKept.run_getObj_map h1, run_checkKey_u8, Result.andThen_ok, hfk]
    simp only [MapKept.run_setObj_map _ h1]
    rfl
  · refine ⟨_, _, World.putObj_heap_same (Array.getElem?_eq_some_iff.1 h1).1, ?_⟩
    intro e he
    simp only [Array.toList_push, List.mem_append, List.mem_singleton] at he
    rcases he with he | rfl
    · obtain ⟨c, h5, h6⟩ := h2 e he
      exact ⟨c, h5, h6.putMap h1 _⟩
    · exact ⟨b, rfl, hv.putMap h1 _⟩
end Go.Proofs.Ytmadelflnjhibaa

namespace Go.Proofs.Ytmadelflnjhibaa
open Go.RowKit
attribute [local go_sem] Cls.val clsNone clsAll

/-- The elements of some kinds that a byte does not miss, among the first. -/
def plK (f : Nat → Cls) (ks : Nat → Cls) (m b : Nat) (k : Nat) : List Nat := (List.range k).filter fun j => has (f j) b && inB ks (f j) m
theorem plK_len (f : Nat → Cls) (ks : Nat → Cls) (m b k : Nat) : (plK f ks m b k).length ≤ k := by
  unfold plK
  exact Nat.le_trans (List.length_filter_le _ _) (by simp)
theorem plK_succ (f : Nat → Cls) (ks : Nat → Cls) (m b k : Nat) : plK f ks m b (k + 1) = plK f ks m b k ++ if (has (f k) b && inB ks (f k) m) = true then [k] else [] := by
  unfold plK
  rw [List.range_succ, List.filter_append]
  congr 1
  cases h : (has (f k) b && inB ks (f k) m) <;> simp [h]

def RaRel (f : Nat → Cls) (ks : Nat → Cls) (m b n : Nat) (w0 : World) (v i : Value) (wr : World) : Prop :=
  ∃ k : Nat, k ≤ n ∧ i = .int .i64 k ∧ wr.ownsRow w0.heap.size 3 1 v (plK f ks m b k).length ((plK f ks m b k).map In) ∧ Ext w0 wr

set_option maxRecDepth 100000 in
set_option maxHeartbeats 4000000 in
theorem rare1_any (p : Option Addr) (n cap : Nat) (f : Nat → Cls) (hcap : n ≤ cap) (hn : n ≤ 1099511627776) (hcls : ∀ j, (f j).ok) (pk : Option Addr) (m ck : Nat) (ks : Nat → Cls) (hck : m ≤ ck) (hm : m ≤ 1099511627776) (b : Nat) (hb : b < 256) (Wh Lf Kp r base : Nat) (w : World) (hbase : base ≤ w.heap.size)
    (hr : RdC w p n f) (hrk : RdC w pk m ks) (lw : w.cell? ⟨Wh, 0, none⟩ = some (.map (some r))) (ll : w.cell? ⟨Lf, 0, none⟩ = some (.slice p n cap)) (lk : w.cell? ⟨Kp, 0, none⟩ = some (.slice pk m ck)) (hmp : MapP w r base (fun b => plK f ks m b n)) :
    Calls Try.prog 78 #[.int .u8 (b : Nat), .pointer (some ⟨Wh, 0, none⟩), .pointer (some ⟨Lf, 0, none⟩), .pointer (some ⟨Kp, 0, none⟩)] w fun e w' =>
      ∃ v, e = .returned v ∧ SlB w' base v (plK f ks m b n).length (I (IL (plK f ks m b n))) ∧ w.grownBy w' (some r) ∧ MapP w' r base (fun b => plK f ks m b n) := by
  obtain ⟨i0, hi, hz0, hz1, hz2⟩ := info_parts info_int
  obtain ⟨vl, ok, hlk, hyes, hno⟩ := lookB w r base _ b hmp
  have Hr := Lib.hid hr
  have Hcon := Lib.hid (fun c W (hW : Ext w W) => contains_any pk m ck ks c hm hck W (hrk.ext hW))
  have Hcls := Lib.hid hcls
  have Hmp := Lib.hid hmp
  clear hr hrk hcls hmp
  cases ok
  · obtain ⟨hvl, hnk⟩ := hno rfl
    subst hvl
    have Hno := Lib.hid hnk
    clear hyes hno hnk
    go_enter Try.func78, Try.ntmps78
    go_wp2_with fail
    clear hlk
    go_loopw [6, 8, 9, 21] (fun v _ _ i wr => RaRel f ks m b n w v i wr) (fun _ _ _ i _ => n - (intOf i).toNat)
    case atStart => exact ⟨0, by omega, rfl, by simp [World.ownsRow, plK], Ext.refl _⟩
    case round =>
      obtain ⟨k, hk, rfl, hown, hE⟩ := hrel
      have hlen := plK_len f ks m b k
      have k0 := hE.cell lk
      have Hown := Lib.hid hown
      have HE := Lib.hid hE
      clear hown hE
      by_cases hlt : k < n
      · obtain ⟨bb, off, rfl, d0, d1, d2, d3⟩ := (Hr.out.ext HE.out).at hlt
        have hstep := plK_succ f ks m b k
        have b1 : (0 : Int) ≤ (k : Int) := by omega
        have b2 : (k : Int) < (n : Int) := by omega
        have Hh := Lib.hid (fun W => has_any (f k) (Hcls.out k) b hb W)
        have Hcon2 := Lib.hid (fun W (hW : Ext w W) => Hcon.out (f k) W hW)
        generalize f k = d at *
        generalize hx1 : has d b = x1 at *
        generalize hx2 : inB ks d m = x2 at *
        generalize hpl : plK f ks m b k = L at *
        have Hs := Lib.hid hstep
        have hnb := heap_alloc_new wr (.cells #[.int .u64 d.w0, .int .u64 d.w1, .int .u64 d.w2, .int .u64 d.w3] 27)
        have Hwa := Lib.hid ((Ext.refl wr).alloc (.cells #[.int .u64 d.w0, .int .u64 d.w1, .int .u64 d.w2, .int .u64 d.w3] 27))
        clear hstep hx1 hx2 hpl
        go_wp2_with fail
        clear d0 d1 d2 d3
        generalize wr.alloc (.cells #[.int .u64 d.w0, .int .u64 d.w1, .int .u64 d.w2, .int .u64 d.w3] 27) = wa at *
        generalize wr.heap.size = Y at *
        obtain ⟨⟨c0, c1, c2, c3⟩, -⟩ := cls_cells hnb
        refine (Hh.out _).mono ?_
        rintro e w2 ⟨rfl, hE2⟩
        have e0 := hE2.cell c0
        have e1 := hE2.cell c1
        have e2 := hE2.cell c2
        have e3 := hE2.cell c3
        have ek := hE2.cell (Hwa.out.cell k0)
        have HE2 := Lib.hid (HE.out.trans (Hwa.out.trans hE2))
        have Hown2 := Lib.hid ((Hwa.out.trans hE2).owns Hown.out)
        clear c0 c1 c2 c3 hE2 hnb Hwa k0 Hown
        cases x1
        · go_wp2_with fail
          go_roundw
          case rel => exact ⟨k + 1, by omega, by go_num, by rw [Hs.out, if_neg (by simp), List.append_nil]; exact Hown2.out, HE2.out⟩
          case measure => simp [intOf]; omega
        · go_wp2_with fail
          refine (Hcon2.out _ HE2.out).mono ?_
          rintro e w3 ⟨rfl, hE3⟩
          have HE3 := Lib.hid (HE2.out.trans hE3)
          have Hown3 := Lib.hid (hE3.owns Hown2.out)
          have hsz3 := HE3.out.size
          clear e0 e1 e2 e3 ek hE3 Hown2
          cases x2
          · go_wp2_with fail
            go_roundw
            case rel => exact ⟨k + 1, by omega, by go_num, by rw [Hs.out, if_neg (by simp), List.append_nil]; exact Hown3.out, HE3.out⟩
            case measure => simp [intOf]; omega
          · go_wp2_with (at_builtin; refine wpList_append_own _ rfl (.tmp 34) (.tmp 36) 35 rfl w.heap.size 3 i0 (.int .i64 0) 1 8 Try.underlying35 hi hz0 hz1 hz2 rfl (by decide) _ _ _ rfl (Hown3.out.alloc _) ⟨w3.heap.size, 0, none⟩ 1 1 [.int .i64 k] rfl rfl ?c1 ?c2 ?c3 ?c4 ?c5 ?_)
            case c1 => exact one_new _ _ _
            case c2 => intro u hu; rw [List.mem_singleton.1 hu]; rfl
            case c3 => unfold maxLen; omega
            case c4 => omega
            case c5 => simp; omega
            intro v' w4 hown4 hgrow _
            have hE4 : Ext w w4 := (HE3.out.alloc _).grown hgrow (fun q hq => (Hown3.out.lt q hq).1)
            have Hown4 := Lib.hid hown4
            clear hown4 hgrow
            go_wp2
            go_roundw
            case rel => exact ⟨k + 1, by omega, by go_num, by rw [Hs.out, if_pos (by simp), List.length_append, List.map_append]; exact Hown4.out, hE4⟩
            case measure => simp [intOf]; omega
      · have e : k = n := by omega
        subst e
        have hsl := SlB.of_list Hown.out hbase
        obtain ⟨o, hup, hmp'⟩ := updB wr r base _ b u6 (Hmp.out.ext HE.out) (Hno.out.ext HE.out) hsl
        have hmap : ∃ es clock, wr.heap[r]? = some (.map es clock) := by
          obtain ⟨es, clock, h1, _⟩ := Hmp.out.ext HE.out
          exact ⟨es, clock, h1⟩
        obtain ⟨es, clock, hmap⟩ := hmap
        have hsl' := hsl.putMap hmap o
        have hg : w.grownBy (wr.putObj r o) (some r) := ⟨HE.out.os, HE.out.tape, HE.out.output, by rw [World.putObj_size]; exact HE.out.size, fun q hq hne => (World.putObj_heap_other (fun e => hne (by rw [e]))).trans (Below.block HE.out q hq)⟩
        have lw2 := HE.out.cell lw
        have Hmp' := Lib.hid hmp'
        have Hsl' := Lib.hid hsl'
        have Hg := Lib.hid hg
        clear hmp' hsl hsl' hg hmap
        go_wp2_with fail
        go_ret
        exact ⟨_, rfl, Hsl'.out, Hg.out, Hmp'.out⟩
  · have Hyes := Lib.hid (hyes rfl)
    clear hno hyes
    go_enter Try.func78, Try.ntmps78
    go_wp2_with fail
    go_ret
    exact ⟨_, rfl, Hyes.out, (Ext.refl w).grownBy _, Hmp.out⟩
end Go.Proofs.Ytmadelflnjhibaa
