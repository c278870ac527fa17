import Derived.Test.YtmadelflnjhibaaCorrB
namespace Go.Proofs.Ytmadelflnjhibaa
open Go.RowKit Go.Shelf
attribute [local go_sem] Oper.semAt_some

theorem Ext.put {w A : World} (h : Ext w A) {l : Nat} (hl : w.heap.size ≤ l) (o : Obj) : Ext w (A.putObj l o) :=
  ⟨h.os, h.tape, h.output, by rw [World.putObj_size]; exact h.size, fun k hk => (World.putObj_heap_other (by omega)).trans (Below.block h k hk)⟩

theorem CorrI.ext {m n size Bo : Nat} {P T : Nat → Int} {W0 A B : World} {pre : List (Nat × Nat)} (h : CorrI m n size Bo P T W0 pre A) (he : Ext A B) : CorrI m n size Bo P T W0 pre B := by
  obtain ⟨h1, v, h2, h3⟩ := h
  exact ⟨grownBy_trans h1 (he.grownBy _), v, he.heap h2, he.owns h3⟩

theorem CorrI.put {m n size Bo : Nat} {P T : Nat → Int} {W0 A : World} {pre : List (Nat × Nat)} {l : Nat} {o : Obj} (h : CorrI m n size Bo P T W0 pre A) (hl : W0.heap.size ≤ l) (ho : A.heap[l]? = some o) (hc : o.isCells = false) (hB : Bo < W0.heap.size) (o' : Obj) :
    CorrI m n size Bo P T W0 pre (A.putObj l o') := by
  obtain ⟨h1, v, h2, h3⟩ := h
  exact ⟨⟨h1.os, h1.tape, h1.output, by rw [World.putObj_size]; exact h1.size, fun k hk hne => (World.putObj_heap_other (by omega)).trans (h1.block k hk hne)⟩, v, (World.putObj_heap_other (by omega)).trans h2, ownsRow_putObj h3 o' ho hc⟩

/-- The law of a range over a function, the frame of a round made out of the frame outside. -/
theorem wp_range_at {α : Type} {P : Program} {g : Operand} {ps : Array Tmp} {assign body : Code} {Q : Exit → Act → World → Prop} {a : Act} {w : World}
    {gf : Nat} {lb : Array Value} (F : α → Act → Act) (hg : a.eval g = .func (.func gf) #[] lb) (eg : ∀ args w, (callFunc gf args).run P w = .ok (.enter gf args) w)
    {encs : α → Array Value} (hps : ∀ x, (encs x).size = ps.size) (C : Nat → Prop) (Z : List α → α → World → Prop) (S : List α → Prop) (hit : Iter P gf lb encs C Z S w)
    (hC : ∀ k, C k → k < w.heap.size ∨ w.heap.size + 2 ≤ k)
    (hZ : ∀ pre x A l o o', w.heap.size ≤ l → A.heap[l]? = some o → o.isCells = false → Z pre x A → Z pre x (A.putObj l o'))
    (I : List α → World → Prop) (hIe : ∀ pre A B, I pre A → Ext A B → I pre B)
    (hIp : ∀ pre A l o o', w.heap.size ≤ l → A.heap[l]? = some o → o.isCells = false → I pre A → I pre (A.putObj l o'))
    (h0 : I [] w)
    (hassign : ∀ (l : Nat) (x : α) (W : World) (K : Act → World → Prop), K (F x a) W →
      assign.wpIn (Fence.wide.inRound l) 0 P (Exit.then K (fun _ _ _ => False)) { tmps := (ps.zip (encs x)).foldl (fun t (p, v) => t.setIfInBounds p v) a.tmps, defers := [] } W)
    (hbody : ∀ (l : Nat) (pre : List α) (x : α) (W : World), w.heap.size ≤ W.heap.size → I pre W → Z pre x W →
      body.wpIn (Fence.wide.inRound l) 0 P (roundEnds fun W' => W.heap.size ≤ W'.heap.size ∧ (∀ k o, w.heap.size ≤ k → W.heap[k]? = some o → o.isCells = false → W'.heap[k]? = some o) ∧ (∀ k, C k → k < W.heap.size → W'.heap[k]? = W.heap[k]?) ∧ I (pre ++ [x]) W') (F x a) W)
    (hdone : ∀ (D : Nat) (xs : List α) (W : World), w.heap.size ≤ D → S xs → I xs W → W.heap[D]? = some (.deferred (some [])) → Q .normal { a with defers := { target := .collected D, args := #[] } :: a.defers } W) :
    (Code.rangeFunc g ps assign body).wp P Q a w :=
  wp_range hg eg hps C Z S hit hC hZ I hIe hIp h0 (fun x => F x a) hassign hbody hdone

theorem fold2 (p q : Tmp) (x : Nat × Nat) (t : Array Value) : ((#[p, q] : Array Tmp).zip (encs2 x)).foldl (fun t (p, v) => t.setIfInBounds p v) t = (t.setIfInBounds p (.int .i64 x.1)).setIfInBounds q (.int .i64 x.2) := by simp [encs2]

/-- A frame with two slots drawn and moved. -/
def put4 (p q r s : Nat) (x : Nat × Nat) (a : Act) : Act := { tmps := (((a.tmps.setIfInBounds p (.int .i64 x.1)).setIfInBounds q (.int .i64 x.2)).setIfInBounds r (.int .i64 x.1)).setIfInBounds s (.int .i64 x.2), defers := [] }

set_option maxRecDepth 100000 in
set_option maxHeartbeats 2000000 in
theorem corr_yes (m n L size : Nat) (h1 : 1 ≤ m) (h2 : m ≤ n) (hL : L ≤ 12) (hsz : size = 2 ^ L) (h3 : m ≤ size) (bp op cp bt ot ct : Nat) (hct : n ≤ ct) (P T : Nat → Int) (X Y : Int) (hX : 0 ≤ X) (hY : 0 ≤ Y) (hP0 : ∀ j, 0 ≤ P j) (hP : ∀ j, P j ≤ X) (hT0 : ∀ j, 0 ≤ T j) (hT : ∀ j, T j ≤ Y)
    (hbd : (m : Int) * (X * Y) < 18446744073709551616) (hn : n ≤ 1099511627776) (w : World) (hp : ∀ j, j < m → w.cell? ⟨bp, op + j, none⟩ = some (.int .u64 (P j))) (ht : ∀ j, j < n → w.cell? ⟨bt, ot + j, none⟩ = some (.int .u64 (T j))) :
    Calls Try.prog 30 #[.slice (some ⟨bp, op, none⟩) m cp, .slice (some ⟨bt, ot, none⟩) n ct, .int .i64 size] w (CorrPost m n size P T w) := by
  have hs1 : size ≤ 4096 := by rw [hsz]; exact Nat.le_trans (Nat.pow_le_pow_right (by omega) hL) (by decide)
  have hok : szOk m size = true := by
    unfold szOk
    have e : (size : Int) = 2 ^ L := by rw [hsz, Int.natCast_pow]; rfl
    have : logV (size : Int) = some L := by
      cases h : logV (size : Int) with
      | none => exact absurd e (logV_none h L hL)
      | some M => obtain ⟨_, h2⟩ := logV_some h; rw [two_pow_inj (h2.symm.trans e)]
    rw [this]
    simpa using h3
  have Hok := Lib.hid hok
  have Hsz := Lib.hid hsz
  have HP0 := Lib.hid hP0
  have HP := Lib.hid hP
  have HT0 := Lib.hid hT0
  have HT := Lib.hid hT
  have Hbd := Lib.hid hbd
  have Hp := Lib.hid hp
  have Ht := Lib.hid ht
  clear hok hsz hP0 hP hT0 hT hbd hp ht
  refine calls_marks Try.func30 rfl ?_
  simp only [Try.ntmps30, List.size_toArray, List.length_cons, List.length_nil, Nat.reduceAdd, Nat.reduceSub, Array.replicate_succ, Array.replicate_zero, List.push_toArray, List.append_toArray, List.nil_append, List.cons_append]
  go_wp2_with fail
  go_region
  go_wp2_with fail
  refine gen_world (fun W => Ext w W ∧ W.cell? ⟨w.heap.size, 0, none⟩ = some (.slice (some ⟨bt, ot, none⟩) n ct) ∧ W.cell? ⟨w.heap.size + 1, 0, none⟩ = some (.int .i64 size) ∧ W.cell? ⟨w.heap.size + 1 + 1, 0, none⟩ = some (.int .i64 n)) ⟨(by repeat (first | exact Ext.refl _ | refine Ext.drew ?_ | refine Ext.alloc ?_ _ | refine Ext.setCell ?_ (by simp; done) _ | refine Ext.setCell ?_ (by simp; omega) _)), (by go_simp), (by go_simp), (by go_simp)⟩ ?_
  rintro W0 ⟨hE0, cT, cS, cN⟩
  generalize hB0 : w.heap.size = B0 at *
  have HB0 := Lib.hid hB0
  clear hB0
  refine (bcheck_ok m n size h1 h2 Hok.out bp op cp bt ot ct P T X Y hX hY (fun j _ => HP0.out j) (fun j _ => HP.out j) (fun j _ => HT0.out j) (fun j _ => HT.out j) Hbd.out (by omega) _ (fun j hj => hE0.cell (Hp.out j hj)) (fun j hj => hE0.cell (Ht.out j hj))).mono ?_
  rintro e w1 ⟨rfl, rfl⟩
  go_wp2_with fail
  refine (slides_yes m n h1 h2 _).mono ?_
  rintro e w1 ⟨rfl, rfl⟩
  go_wp2_with fail
  have hTh : Hid (Three (W0.alloc (.cells #[.slice none 0 0, .slice none 0 0, .slice none 0 0] 78)) W0.heap.size size 0 (fun _ => 0) (fun _ => 0)) :=
    ⟨_, heap_alloc_new _ _, fun j hj => by
      match j, hj with
      | 0, _ => rfl
      | 1, _ => rfl
      | 2, _ => rfl⟩
  have hEa : Ext W0 (W0.alloc (.cells #[.slice none 0 0, .slice none 0 0, .slice none 0 0] 78)) := (Ext.refl _).alloc _
  have HEa := Lib.hid hEa
  clear hEa
  generalize hBs : W0.heap.size = Bs at *
  have HBs := Lib.hid hBs
  clear hBs
  go_loopw [13, 41] (fun _ c wr => SlRel m L size Bs P W0 c wr) (fun _ c _ => 3 - (intOf c).toNat)
  case atStart => exact ⟨0, _, _, Nat.zero_le _, rfl, HEa.out, hTh.out, fun j hj => by omega⟩
  case round =>
    clear hTh HEa
    obtain ⟨k, R, cc, hk, rfl, hE, hTh, hRows⟩ := hrel
    have HTh := Lib.hid hTh
    have HRows := Lib.hid hRows
    clear hTh hRows
    by_cases hlt : k < 3
    · have cSr := hE.cell cS
      have hEw := hE0.trans hE
      go_wp2_with fail
      refine (turned_any m size h1 h3 hs1 bp op cp P _ (fun j hj => hEw.cell (Hp.out j hj))).mono ?_
      rintro e w2 ⟨X1, c1, rfl, hc1, hX1, hrow1, hE1⟩
      have HRow1 := Lib.hid hrow1
      clear hrow1
      go_wp2_with fail
      have ht0 : Hid (∀ j, 0 ≤ (fun u => if (size - u) % size < m then P ((size - u) % size) else 0) j) := by
        intro j; simp only []; split
        · exact HP0.out _
        · omega
      refine (forward_any k (by omega) (by omega) L size hL Hsz.out X1 0 c1 _ ht0.out _ (fun j hj => by rw [Nat.zero_add]; exact HRow1.out.cell hj)).mono ?_
      rintro e w3 ⟨X2, c2, rfl, hc2, hX2, hrow2, hE2⟩
      have HRow2 := Lib.hid hrow2
      have HTh3 := Lib.hid (HTh.out.ext (hE1.trans hE2))
      have hcell3 := HTh3.out.cell hlt
      rw [if_neg (by omega)] at hcell3
      have hfr3 := HTh3.out.frozen k
      clear hrow2
      go_wp2_with fail
      have hBsX : Bs < X2 := by
        have h6 : Bs < wr.heap.size := by
          obtain ⟨cells, h7, _⟩ := HTh.out
          exact (Array.getElem?_eq_some_iff.1 h7).1
        have := hE1.size
        omega
      have hrel' : Hid (Three (w3.setCell ⟨Bs, k, none⟩ (.slice (some ⟨X2, 0, none⟩) size c2)) Bs size (k + 1) (fun j => if j = k then X2 else R j) (fun j => if j = k then c2 else cc j) ∧
          ∀ j, j < k + 1 → Bs < (if j = k then X2 else R j) ∧ Row (w3.setCell ⟨Bs, k, none⟩ (.slice (some ⟨X2, 0, none⟩) size c2)) 25 (if j = k then X2 else R j) size (U (NttM.T (primeV j) (rootV j L) size (turnV m size P)))) := by
        refine ⟨HTh3.out.set hlt _ _, fun j hj => ?_⟩
        by_cases e : j = k
        · subst e
          rw [if_pos rfl]
          exact ⟨hBsX, HRow2.out.kept (grownBy_setCell _ _ _ _) (fun h => by injection h with h; omega)⟩
        · rw [if_neg e]
          obtain ⟨h5, h6⟩ := HRows.out j (by omega)
          exact ⟨h5, (h6.ext (hE1.trans hE2)).kept (grownBy_setCell _ _ _ _) (fun h => by injection h with h; omega)⟩
      go_roundw
      case rel => exact ⟨k + 1, _, _, by omega, by go_num, ((hE.trans hE1).trans hE2).setCell (by rw [HBs.out]; exact Nat.le_refl _) _, hrel'.out.1, hrel'.out.2⟩
      case measure => simp [intOf]; omega
    · have e : k = 3 := by omega
      subst e
      have cTr := hE.cell cT
      have cSr := hE.cell cS
      have cNr := hE.cell cN
      have cSa := ((Ext.refl wr).alloc (.cells #[.slice none 0 0] 31)).cell cSr
      have cNa := ((Ext.refl wr).alloc (.cells #[.slice none 0 0] 31)).cell cNr
      go_wp2_with fail
      refine gen_world (fun W => Ext wr W ∧ W.heap[wr.heap.size]? = some (.cells #[.slice none 0 0] 31 (0, 0))) ⟨(by repeat (first | exact Ext.refl _ | refine Ext.drew ?_ | refine Ext.alloc ?_ _ | refine Ext.setCell ?_ (by simp; done) _ | refine Ext.setCell ?_ (by simp; omega) _)), heap_alloc_new _ _⟩ ?_
      rintro W3 ⟨hE3, hBo⟩
      rw [show ((n : Int) - (m : Int) + 1) = ((n - m + 1 : Nat) : Int) from by omega, show ((size : Int) - (m : Int) + 1) = ((size - m + 1 : Nat) : Int) from by omega]
      refine (blocks_any (n - m + 1) (size - m + 1) W3).mono ?_
      rintro e w4 ⟨rfl, hw4⟩
      have hE4 : Ext W3 w4 := by rw [← hw4]; exact ((Ext.refl _).alloc _).alloc _
      obtain ⟨hb1, hb2⟩ := box_cells W3 (.cells #[.int .i64 ((n - m + 1 : Nat) : Int)] 3) (.cells #[.int .i64 ((size - m + 1 : Nat) : Int)] 3)
      rw [hw4] at hb1 hb2
      have hs4 : w4.heap.size = W3.heap.size + 1 + 1 := by rw [← hw4]; simp
      have Hb1 := Lib.hid hb1
      have Hb2 := Lib.hid hb2
      have Hs4 := Lib.hid hs4
      clear hw4 hb1 hb2 hs4
      go_wp2_with fail
      have hBo4 : w4.heap[wr.heap.size]? = some (.cells #[.slice none 0 0] 31 (0, 0)) := hE4.heap hBo
      have hBs : Bs < wr.heap.size := by
        obtain ⟨cells, h7, _⟩ := HTh.out
        exact (Array.getElem?_eq_some_iff.1 h7).1
      have hl3 : wr.heap.size < W3.heap.size := (Array.getElem?_eq_some_iff.1 hBo).1
      have HIt := Lib.hid (blocks_iter (n - m + 1) (size - m + 1) W3.heap.size (W3.heap.size + 1) (by omega) (by omega) (by omega) w4 (cell_of_row _ _ _ _ _ _ Hb1.out) (cell_of_row _ _ _ _ _ _ Hb2.out))
      have l1 := World.block_lt_of_cell? _ _ cTr
      have l2 := World.block_lt_of_cell? _ _ cSr
      have l3 := World.block_lt_of_cell? _ _ cNr
      simp only [] at l1 l2 l3
      have hEx4 : Ext wr w4 := hE3.trans hE4
      have cT4 := hEx4.cell cTr
      have cS4 := hEx4.cell cSr
      have cN4 := hEx4.cell cNr
      have HTh4 := Lib.hid (HTh.out.ext hEx4)
      have HEx4 := Lib.hid hEx4
      have hsz4 := Hs4.out
      have hww : w.heap.size ≤ wr.heap.size := by have := hE0.size; have := hE.size; omega
      have Hww := Lib.hid hww
      clear hww
      refine wp_range_at (put4 64 65 15 16) rfl (fun _ _ => rfl) (encs := encs2) (fun _ => rfl) (fun k => k = W3.heap.size ∨ k = W3.heap.size + 1) (BlkZ (n - m + 1) (size - m + 1)) (BlkS (n - m + 1) (size - m + 1)) HIt.out
        (by rintro k (rfl | rfl) <;> exact .inl (by omega)) (fun _ _ _ _ _ _ _ _ _ h => h)
        (CorrI m n size wr.heap.size P T w4) (fun _ _ _ h he => h.ext he) (fun _ _ _ _ o' hl ho hc h => h.put hl ho hc (by omega) o')
        ⟨⟨rfl, rfl, rfl, Nat.le_refl _, fun _ _ _ => rfl⟩, _, hBo4, by unfold doneV; simp [World.ownsRow]⟩ ?assign ?body ?done
      case assign =>
        intro l x W K hK
        rw [fold2]
        gi_wp2
        exact hK
      case body =>
        intro l pre x W hsz hI hZ
        refine corr_body m n L size h1 h2 hL Hsz.out h3 hs1 hn bt ot ct hct P T X Y hX hY HP0.out HP.out HT0.out HT.out Hbd.out w4 B0 (B0 + 1) (B0 + 1 + 1) Bs wr.heap.size W3.heap.size (W3.heap.size + 1) R cc cT4 cS4 cN4 HTh4.out ?_ (fun j hj => ((hE0.trans hE).trans HEx4.out).cell (Ht.out j hj)) (by omega) (by omega) (by omega) (by omega) ?_ (by omega) (by omega) (by omega) (by omega) (by omega) l pre x W hI hZ _ _ _ _ _ _ _ _ _ _ _ _ _ _ _ _ _ _ _ _ _ _ _ _ _ _ _ _ _ _ _ _ _ _ _ _ _ _ _ _ _ _ _ _ _ _ _ _ _ _ _ _ _ _ _ _ _ _ _ _ _ _ _ _ _ _ _ _ _ _ _ _ _ _ _ _ _ _ _ _ _ _ _ _ _ _ _ _ _ _ _ _ _ _ _ _ _ _ _ _ _ _ _ _ _ _ _ _ _ _ _ _ _ _ _ _ _ _ _ _ _ _ _ _ _ _ _ _ _ _ _ _
        · intro j hj
          obtain ⟨_, h6⟩ := HRows.out j hj
          exact ⟨by have := h6.lt; omega, h6.ext HEx4.out⟩
        · have h6 := World.block_lt_of_cell? _ _ (Ht.out 0 (by omega))
          simp only [] at h6
          have := Hww.out
          omega
      case done =>
        intro D xs W hD hS hI hK
        obtain ⟨hgr, v, hBv, hown⟩ := hI
        have hdn : doneV m n size xs = n - m + 1 := by
          unfold doneV
          exact Nat.min_eq_right hS.1
        rw [hdn] at hown
        have hEW : Ext wr W := by
          refine Ext.grown HEx4.out hgr ?_
          intro q hq
          injection hq with hq
          omega
        have cV : W.cell? ⟨wr.heap.size, 0, none⟩ = some v := cell_of_row _ _ _ _ _ _ hBv
        have cSW := hEW.cell cSr
        have cNW := hEW.cell cNr
        have hDW : D < W.heap.size := (Array.getElem?_eq_some_iff.1 hK).1
        have Hown := Lib.hid hown
        have HK := Lib.hid hK
        have HD := Lib.hid hD
        have HEW := Lib.hid hEW
        clear hown hK hD hEW hBv hgr hdn hS
        go_wp2_with fail
        go_region_held3 (fun W' => Ext W W' ∧ W'.cell? ⟨wr.heap.size, 0, none⟩ = some v ∧ W'.cell? ⟨B0 + 1, 0, none⟩ = some (.int .i64 size) ∧ W'.cell? ⟨B0 + 1 + 1, 0, none⟩ = some (.int .i64 n)) ((first | exact ⟨Ext.refl W, cV, cSW, cNW⟩ | exact ⟨(Ext.refl W).drew, cV, cSW, cNW⟩)) ((go_at_call 69; go_fit (count_yes m n size h1 h2 hn h3 hs1 Hok.out _); rintro e w2 ⟨rfl, rfl⟩))
        go_wp2_with fail
        have hK' : W.drew.heap[D]? = some (.deferred (some [])) := HK.out
        refine ⟨by simp, .inl ⟨_, _, rfl, run_takeDeferred hK', ?_⟩⟩
        refine ⟨_, results_tmp3 rfl _ _ _, v, rfl, ?_, ?_⟩
        · refine ownsRow_putObj (ownsRow_lower ((Ext.refl W).drew.owns Hown.out) ?_) _ hK' rfl
          have := Hww.out
          omega
        · refine Ext.put ((hE0.trans hE).trans HEW.out.drew) ?_ _
          have := Hww.out
          have := HD.out
          omega
end Go.Proofs.Ytmadelflnjhibaa
