import Derived.Test.YtmadelflnjhibaaRareA
namespace Go.Proofs.Ytmadelflnjhibaa
open Go.RowKit
attribute [local go_sem] Cls.val clsNone clsAll

/-- How many of the places lie at a distance. -/
def hitQ (L : List Nat) (k q : Nat) : Nat := L.countP fun j => decide (q + j = k)
theorem hitQ_snoc (L : List Nat) (j k q : Nat) : hitQ (L ++ [j]) k q = hitQ L k q + if q + j = k then 1 else 0 := by
  unfold hitQ
  rw [List.countP_append, List.countP_singleton]
  by_cases h : q + j = k <;> simp [h]
theorem hitQ_take (L : List Nat) (t k q : Nat) : hitQ (L.take t) k q ≤ hitQ L k q := (List.take_sublist t L).countP_le
def rAcc (pl : Nat → List Nat) (s : ByteArray) : Nat → Nat → Nat
  | 0, _ => 0
  | k + 1, q => rAcc pl s k q + hitQ (pl (byteV s k)) k q

theorem cnt_at (g : Nat → Bool) (q k : Nat) : ∀ n, cnt (fun j => decide (q + j < k + 1) && g j) n = cnt (fun j => decide (q + j < k) && g j) n + cnt (fun j => decide (q + j = k) && g j) n
  | 0 => rfl
  | n + 1 => by
    have ih := cnt_at g q k n
    unfold cnt
    rw [ih]
    by_cases h1 : q + n < k
    · have h2 : q + n < k + 1 := by omega
      have h3 : ¬ q + n = k := by omega
      cases g n <;> simp [h1, h2, h3] <;> omega
    · by_cases h3 : q + n = k
      · have h2 : q + n < k + 1 := by omega
        cases g n <;> simp [h3] <;> omega
      · have h2 : ¬ q + n < k + 1 := by omega
        simp [h1, h2, h3]
theorem cnt_lone (g : Nat → Bool) (q k : Nat) : ∀ n, cnt (fun j => decide (q + j = k) && g j) n ≤ 1 ∧ (q + n ≤ k → cnt (fun j => decide (q + j = k) && g j) n = 0)
  | 0 => ⟨by simp [cnt], fun _ => rfl⟩
  | n + 1 => by
    obtain ⟨h1, h2⟩ := cnt_lone g q k n
    unfold cnt
    by_cases h3 : q + n = k
    · have h4 := h2 (by omega)
      rw [h4]
      refine ⟨by split <;> omega, fun h => by omega⟩
    · simp only [h3, decide_false, Bool.false_and, Bool.false_eq_true, if_false, Nat.add_zero]
      exact ⟨h1, fun h => h2 (by omega)⟩
theorem hitQ_plK (f : Nat → Cls) (ks : Nat → Cls) (m b k q : Nat) : ∀ n, hitQ (plK f ks m b n) k q = cnt (fun j => decide (q + j = k) && (inB ks (f j) m && has (f j) b)) n
  | 0 => rfl
  | n + 1 => by
    rw [plK_succ]
    unfold cnt
    rw [← hitQ_plK f ks m b k q n]
    cases h1 : has (f n) b <;> cases h2 : inB ks (f n) m <;> by_cases h3 : q + n = k <;> simp [h3, hitQ_snoc]
theorem rAcc_le (f : Nat → Cls) (ks : Nat → Cls) (m n : Nat) (s : ByteArray) (q : Nat) : ∀ k, rAcc (fun b => plK f ks m b n) s k q ≤ k
  | 0 => Nat.le_refl _
  | k + 1 => by
    have h1 := rAcc_le f ks m n s q k
    have h2 := (cnt_lone (fun j => inB ks (f j) m && has (f j) (byteV s k)) q k n).1
    unfold rAcc
    rw [hitQ_plK]
    omega
theorem rAcc_cnt (f : Nat → Cls) (ks : Nat → Cls) (m n : Nat) (s : ByteArray) (q : Nat) : ∀ k, rAcc (fun b => plK f ks m b n) s k q = cnt (fun j => decide (q + j < k) && (inB ks (f j) m && has (f j) (byteV s (q + j)))) n
  | 0 => by
    have e : (fun j => decide (q + j < 0) && (inB ks (f j) m && has (f j) (byteV s (q + j)))) = fun _ => false := by funext j; simp
    have h0 : ∀ n, cnt (fun _ => false) n = 0 := by intro n; induction n with | zero => rfl | succ n ih => simp [cnt, ih]
    rw [e, h0]; rfl
  | k + 1 => by
    have e : cnt (fun j => decide (q + j = k) && (inB ks (f j) m && has (f j) (byteV s k))) n = cnt (fun j => decide (q + j = k) && (inB ks (f j) m && has (f j) (byteV s (q + j)))) n := by
      congr 1
      funext j
      by_cases h : q + j = k
      · rw [h]
      · simp [h]
    unfold rAcc
    rw [rAcc_cnt f ks m n s q k, hitQ_plK, cnt_at, e]
theorem rAcc_rare (f : Nat → Cls) (ks : Nat → Cls) (m n : Nat) (s : ByteArray) (q : Nat) (h : q + n ≤ s.size) : rAcc (fun b => plK f ks m b n) s s.size q = rareV ks m f s n q := by
  rw [rAcc_cnt]
  unfold rareV
  have : ∀ t, t ≤ n → cnt (fun j => decide (q + j < s.size) && (inB ks (f j) m && has (f j) (byteV s (q + j)))) t = cnt (fun j => inB ks (f j) m && has (f j) (byteV s (q + j))) t := by
    intro t
    induction t with
    | zero => intro _; rfl
    | succ t ih =>
      intro ht
      unfold cnt
      rw [ih (by omega), decide_eq_true (show q + t < s.size by omega), Bool.true_and]
  exact this n (Nat.le_refl _)

theorem make_map (w : World) : (Instr.makeMap 94 none).run Try.prog w = .ok (.map (some w.heap.size)) (w.alloc (.map #[] 0)) := by kernel_rfl

theorem Grown2.above {w A B : World} {a b : Nat} (h : Grown2 A B a b) (hE : Ext w A) (ha : w.heap.size ≤ a) (hb : w.heap.size ≤ b) : Ext w B :=
  ⟨h.os.trans (Below.os hE), h.tape.trans (Below.tape hE), h.output.trans (Below.output hE), Nat.le_trans hE.size h.size, fun k hk => by
    have := hE.size
    rw [h.block k (by omega) (by omega) (by omega), Below.block hE k hk]⟩
theorem Grown2.left {A B C : World} {a b : Nat} (h : Grown2 A B a b) (g : B.grownBy C (some a)) : Grown2 A C a b :=
  ⟨g.os.trans h.os, g.tape.trans h.tape, g.output.trans h.output, Nat.le_trans h.size g.size, fun k hk h1 h2 => by
    have := h.size
    rw [g.block k (by omega) (ne_some h1), h.block k hk h1 h2]⟩
theorem Grown2.right {A B C : World} {a b : Nat} (h : Grown2 A B a b) (g : B.grownBy C (some b)) : Grown2 A C a b :=
  ⟨g.os.trans h.os, g.tape.trans h.tape, g.output.trans h.output, Nat.le_trans h.size g.size, fun k hk h1 h2 => by
    have := h.size
    rw [g.block k (by omega) (ne_some h2), h.block k hk h1 h2]⟩

def RbRel (pl : Nat → List Nat) (s : ByteArray) (G r base N : Nat) (w0 : World) (i : Value) (wr : World) : Prop :=
  ∃ k : Nat, k ≤ s.size ∧ i = .int .i64 k ∧ Grown2 w0 wr G r ∧ Row wr 3 G N (I fun q => rAcc pl s k q) ∧ MapP wr r base pl
def RbIn (pl : Nat → List Nat) (s : ByteArray) (L : List Nat) (k G r base N : Nat) (w0 : World) (i : Value) (wr : World) : Prop :=
  ∃ t : Nat, t ≤ L.length ∧ i = .int .i64 t ∧ w0.grownBy wr (some G) ∧ Row wr 3 G N (I fun q => rAcc pl s k q + hitQ (L.take t) k q) ∧ MapP wr r base pl

set_option maxRecDepth 100000 in
set_option maxHeartbeats 4000000 in
theorem sprare_any (p : Option Addr) (n cap : Nat) (K : Int) (f : Nat → Cls) (hcap : n ≤ cap) (hn : n ≤ 1099511627776) (hcls : ∀ j, (f j).ok) (s : ByteArray) (hs : s.size ≤ 1099511627776) (pk : Option Addr) (m ck : Nat) (ks : Nat → Cls) (hck : m ≤ ck) (hm : m ≤ 1099511627776) (w : World) (hr : RdC w p n f) (hrk : RdC w pk m ks) :
    Calls Try.prog 38 #[leafVal p n cap K, .string s, .slice pk m ck] w fun e w' =>
      ∃ g, e = .returned (.slice (some ⟨g, 0, none⟩) (sumsR f n K s.size) (sumsR f n K s.size)) ∧ w.heap.size ≤ g ∧ Row w' 3 g (sumsR f n K s.size) (I fun q => rareV ks m f s n q) ∧ Ext w w' := by
  have Hsu := Lib.hid (fun W (hW : Ext w W) => sums_any p n cap K f hcap hn s hs W (hr.ext hW))
  have hNle : ∀ q, q < sumsR f n K s.size → q + n ≤ s.size := by
    intro q
    unfold sumsR sumsN
    split <;> omega
  have hNb : sumsR f n K s.size ≤ 1099511627777 := by unfold sumsR sumsN; split <;> omega
  have HNle := Lib.hid hNle
  have Hr := Lib.hid hr
  have Hrk := Lib.hid hrk
  have Hcls := Lib.hid hcls
  generalize sumsR f n K s.size = N at *
  unfold leafVal at *
  clear hNle hr hrk hcls
  go_enter Try.func38, Try.ntmps38
  go_wp2_with fail
  have hl0 := World.alloc_heap_new w (.cells #[.slice p n cap, .int .i64 K] 24)
  have hsW1 := World.size_alloc w (.cells #[.slice p n cap, .int .i64 K] 24)
  have hE1 := (Ext.refl w).alloc (.cells #[.slice p n cap, .int .i64 K] 24)
  generalize w.alloc (.cells #[.slice p n cap, .int .i64 K] 24) = W1 at *
  have hk0 := World.alloc_heap_new W1 (.cells #[.slice pk m ck] 22)
  have hsW2 := World.size_alloc W1 (.cells #[.slice pk m ck] 22)
  have hE2 := (Ext.refl W1).alloc (.cells #[.slice pk m ck] 22)
  rw [hsW1] at hk0 hsW2
  refine (Hsu.out _ (hE1.trans hE2)).mono ?_
  rintro e w3 ⟨rfl, hE3⟩
  have hl3 := hE3.heap (hE2.heap hl0)
  have hk3 := hE3.heap hk0
  have HE3 := Lib.hid ((hE1.trans hE2).trans hE3)
  obtain ⟨w4, hmk, hrow4, hE4⟩ := make_int w3 N (by omega)
  have hl4 := hE4.heap hl3
  have hk4 := hE4.heap hk3
  have HE4 := Lib.hid (HE3.out.trans hE4)
  have hG4 := hrow4.lt
  have hs3 := hE3.size
  have Hrow4 := Lib.hid hrow4
  clear hE1 hE2 hE3 hE4 hl0 hk0 hl3 hk3 hrow4
  generalize hG : w3.heap.size = G at *
  have hmm := make_map w4
  have hm5 := World.alloc_heap_new w4 (.map #[] 0)
  have hs5 := World.size_alloc w4 (.map #[] 0)
  have hE5 := (Ext.refl w4).alloc (.map #[] 0)
  have hm6 := ((Ext.refl (w4.alloc (.map #[] 0))).alloc (.cells #[.map (some w4.heap.size)] 94)).heap hm5
  have hv6 := World.alloc_heap_new (w4.alloc (.map #[] 0)) (.cells #[.map (some w4.heap.size)] 94)
  have hs6 := World.size_alloc (w4.alloc (.map #[] 0)) (.cells #[.map (some w4.heap.size)] 94)
  have hE6 := hE5.alloc (.cells #[.map (some w4.heap.size)] 94)
  rw [hs5] at hv6 hs6
  have hl6 := hE6.heap hl4
  have hk6 := hE6.heap hk4
  have hE46 := Lib.hid hE6
  clear hE6 hm5 hl4 hk4 hs5 hE5
  go_wp2_with fail
  generalize (w4.alloc (.map #[] 0)).alloc (.cells #[.map (some w4.heap.size)] 94) = w6 at *
  generalize hr4 : w4.heap.size = r at *
  have HE6 := Lib.hid (HE4.out.trans hE46.out)
  have Hrow6 := Lib.hid (Hrow4.out.ext hE46.out)
  have hpl : ∃ pl : Nat → List Nat, pl = fun b => plK f ks m b n := ⟨_, rfl⟩
  obtain ⟨pl, hpl⟩ := hpl
  have Hpl := Lib.hid hpl
  have hrn : r ≠ G := by omega
  have hw3 : w.heap.size + 2 ≤ G := by have := hs3; omega
  have Hm6 := Lib.hid hm6
  have Hv6 := Lib.hid hv6
  have Hl6 := Lib.hid hl6
  have Hk6 := Lib.hid hk6
  clear hmm hmk hpl hm6 hv6 hl6 hk6 hsW1 hsW2 hs3 hE46 Hrow4 Hsu HE3
  go_loopw [10, 12, 21, 30] (fun _ _ i _ wr => RbRel pl s G r w6.heap.size N w6 i wr) (fun _ _ i _ _ => s.size - (intOf i).toNat)
  case atStart => exact ⟨0, by omega, rfl, ⟨rfl, rfl, rfl, Nat.le_refl _, fun _ _ _ _ => rfl⟩, Hrow6.out.congr fun j _ => by simp [I, rAcc], _, _, Hm6.out, fun e he => by simp at he⟩
  case round =>
    obtain ⟨k, hk, rfl, hgr, hrow, hmp⟩ := hrel
    have hEr : Ext w wr := hgr.above HE6.out (by omega) (by omega)
    have hszr := hgr.size
    have hkeep : ∀ q, q < w6.heap.size → q ≠ G → q ≠ r → wr.heap[q]? = w6.heap[q]? := hgr.block
    by_cases hlt : k < s.size
    · have hbv := byteV_eq hlt
      have b1 : (0 : Int) ≤ (k : Int) := by omega
      have b2 : (k : Int) < (s.size : Int) := by omega
      have lw : wr.cell? ⟨r + 1, 0, none⟩ = some (.map (some r)) := cell_of_row _ _ _ _ _ _ ((hkeep (r + 1) (by omega) (by omega) (by omega)).trans Hv6.out)
      have ll : wr.cell? ⟨w.heap.size, 0, none⟩ = some (.slice p n cap) := cell_of_row _ _ _ _ _ _ ((hkeep w.heap.size (by omega) (by omega) (by omega)).trans Hl6.out)
      have lk : wr.cell? ⟨w.heap.size + 1, 0, none⟩ = some (.slice pk m ck) := cell_of_row _ _ _ _ _ _ ((hkeep (w.heap.size + 1) (by omega) (by omega) (by omega)).trans Hk6.out)
      have Hra := Lib.hid (rare1_any p n cap f hcap hn Hcls.out pk m ck ks hck hm (byteV s k) (byteV_lt s k) (r + 1) w.heap.size (w.heap.size + 1) r w6.heap.size wr (by omega) (Hr.out.ext hEr) (Hrk.out.ext hEr) lw ll lk (by rw [← Hpl.out]; exact hmp))
      have Hgr := Lib.hid hgr
      have Hrow := Lib.hid hrow
      have hone : ∀ q, hitQ (pl (byteV s k)) k q ≤ 1 := by rw [Hpl.out]; intro q; rw [hitQ_plK]; exact (cnt_lone _ q k n).1
      have hacc : ∀ q, rAcc pl s k q ≤ k := by rw [Hpl.out]; exact fun q => rAcc_le f ks m n s q k
      have hstep : ∀ q, rAcc pl s (k + 1) q = rAcc pl s k q + hitQ (pl (byteV s k)) k q := fun q => rfl
      have hLn : (pl (byteV s k)).length ≤ n := by rw [Hpl.out]; exact plK_len f ks m _ n
      have hLj : ∀ j ∈ pl (byteV s k), j < n := by rw [Hpl.out]; intro j hj; exact List.mem_range.1 (List.mem_filter.1 hj).1
      have hLe : plK f ks m (byteV s k) n = pl (byteV s k) := by rw [Hpl.out]
      rw [hLe, ← Hpl.out] at Hra
      generalize hL : pl (byteV s k) = L at *
      have Hone := Lib.hid hone
      have Hacc := Lib.hid hacc
      have Hstep := Lib.hid hstep
      have HLj := Lib.hid hLj
      clear hgr hrow hmp hkeep hone hacc hstep hLj hLe hL lw ll lk hEr
      go_wp2_with fail
      refine Hra.out.mono ?_
      rintro e w7 ⟨v, rfl, hsl, hg7, hmp7⟩
      obtain ⟨⟨pv, cv, rfl, hcv, hrd⟩, hbs⟩ := hsl
      have Hrow7 := Lib.hid (Hrow.out.kept hg7 (ne_some (show G ≠ r by omega)))
      have Hg7 := Lib.hid (Hgr.out.right hg7)
      have Hmp7 := Lib.hid hmp7
      have Hrd := Lib.hid hrd
      have hbs2 : ∀ a : Addr, pv = some a → w6.heap.size ≤ a.block := fun a ha => hbs a _ _ (by rw [ha])
      have Hbs := Lib.hid hbs2
      have hs7 := hg7.size
      clear hg7 hmp7 hrd hbs hbs2 Hra Hrow Hgr
      go_wp2_with fail
      go_loopw [12, 30] (fun _ i wr => RbIn pl s L k G r w6.heap.size N w7 i wr) (fun _ i _ => L.length - (intOf i).toNat)
      case atStart => exact ⟨0, by omega, rfl, (Ext.refl _).grownBy _, Hrow7.out.congr fun j _ => by simp [I, hitQ], Hmp7.out⟩
      case round =>
        obtain ⟨t, ht, rfl, hgr, hrow, hmp⟩ := hrel
        by_cases hlt2 : t < L.length
        · rcases Hrd.out with h0 | ⟨bv, ov, rfl, hcells⟩
          · omega
          have hbG : bv ≠ G := by have := Hbs.out _ rfl; simp only [] at this; omega
          have hcell : wr.cell? ⟨bv, ov + t, none⟩ = some (.int .i64 ((L.getD t 0 : Nat) : Int)) := hgr.cell (hcells t hlt2) (ne_some hbG)
          have hjm : L.getD t 0 ∈ L := by rw [List.getD_eq_getElem?_getD, List.getElem?_eq_getElem hlt2]; exact List.getElem_mem hlt2
          have hjn := HLj.out _ hjm
          have htk : L.take (t + 1) = L.take t ++ [L.getD t 0] := by rw [List.take_add_one, List.getD_eq_getElem?_getD, List.getElem?_eq_getElem hlt2]; rfl
          have hst : ∀ q, hitQ (L.take (t + 1)) k q = hitQ (L.take t) k q + if q + L.getD t 0 = k then 1 else 0 := by intro q; rw [htk, hitQ_snoc]
          have hub : ∀ q, hitQ (L.take t) k q ≤ 1 := fun q => Nat.le_trans (hitQ_take L t k q) (Hone.out q)
          have b3 : (0 : Int) ≤ (t : Int) := by omega
          have b4 : (t : Int) < (L.length : Int) := by omega
          have Hgr := Lib.hid hgr
          have Hrow := Lib.hid hrow
          have Hmp := Lib.hid hmp
          have Hst := Lib.hid hst
          have Hub := Lib.hid hub
          have Hc := Lib.hid hcells
          clear hgr hrow hmp hjm htk hst hub hcells
          generalize L.getD t 0 = j at *
          by_cases hge : (j : Int) ≤ (k : Int)
          · obtain ⟨q, hq⟩ : ∃ q : Nat, q = k - j := ⟨_, rfl⟩
            have i1 : IntKind.i64.wrap ((k : Int) - j) = q := by rw [IntWalk.i64_in _ ⟨by omega, by omega⟩]; omega
            have hqk : q + j = k := by omega
            have Hqk := Lib.hid hqk
            clear hq hqk
            by_cases hqN : (q : Int) < (N : Int)
            · have hqc := Hrow.out.cell (show q < N by omega)
              have hqf := Hrow.out.frozen q
              have hqc' : wr.cell? ⟨G, q, none⟩ = some (.int .i64 ((rAcc pl s k q : Int) + (hitQ (L.take t) k q : Int))) := hqc
              have hb1 := Hacc.out q
              have hb2 := Hub.out q
              have hcong : ∀ q', q' < N → (if q' = q then Value.int .i64 ((rAcc pl s k q : Int) + (hitQ (L.take t) k q : Int) + 1) else (I fun q => (rAcc pl s k q : Int) + (hitQ (L.take t) k q : Int)) q') = (I fun q => (rAcc pl s k q : Int) + (hitQ (L.take (t + 1)) k q : Int)) q' := by
                intro q' _
                have hq2 := Hqk.out
                show _ = Value.int .i64 ((rAcc pl s k q' : Int) + (hitQ (L.take (t + 1)) k q' : Int))
                rw [Hst.out q']
                by_cases e : q' = q
                · subst e
                  rw [if_pos rfl, if_pos hq2]
                  congr 1
                · rw [if_neg e, if_neg (by omega)]
                  rfl
              have Hcong := Lib.hid hcong
              clear hqc hcong
              generalize hZ : (rAcc pl s k q : Int) + (hitQ (L.take t) k q : Int) = Z at *
              have i2 : IntKind.i64.wrap (Z + 1) = Z + 1 := IntWalk.i64_in _ ⟨by omega, by omega⟩
              have b5 : (0 : Int) ≤ (q : Int) := by omega
              have HZ := Lib.hid hZ
              clear hZ hb1 hb2
              go_wp2_with fail
              go_roundw
              case rel => exact ⟨t + 1, by omega, by go_num, grownBy_trans Hgr.out (grownBy_setCell _ _ _ _), (Hrow.out.set q _).congr Hcong.out, Hmp.out.set (by omega) hrn⟩
              case measure => simp [intOf]; omega
            · go_wp2_with fail
              go_roundw
              case rel => exact ⟨t + 1, by omega, by go_num, Hgr.out, Hrow.out.congr fun q' hq' => by
                have := Hqk.out
                show Value.int .i64 ((rAcc pl s k q' : Int) + (hitQ (L.take t) k q' : Int)) = .int .i64 ((rAcc pl s k q' : Int) + (hitQ (L.take (t + 1)) k q' : Int))
                rw [Hst.out q', if_neg (by omega)]
                rfl, Hmp.out⟩
              case measure => simp [intOf]; omega
          · go_wp2_with fail
            go_roundw
            case rel => exact ⟨t + 1, by omega, by go_num, Hgr.out, Hrow.out.congr fun q' hq' => by
              show Value.int .i64 ((rAcc pl s k q' : Int) + (hitQ (L.take t) k q' : Int)) = .int .i64 ((rAcc pl s k q' : Int) + (hitQ (L.take (t + 1)) k q' : Int))
              rw [Hst.out q', if_neg (by omega)]
              rfl, Hmp.out⟩
            case measure => simp [intOf]; omega
        · have e : t = L.length := by omega
          subst e
          have Hgr := Lib.hid (Hg7.out.left hgr)
          have Hrow := Lib.hid hrow
          have Hmp := Lib.hid hmp
          rw [List.take_length] at Hrow
          clear hgr hrow hmp
          go_wp2_with fail
          go_roundw
          case rel => exact ⟨k + 1, by omega, by go_num, Hgr.out, Hrow.out.congr fun q' hq' => by
              show Value.int .i64 ((rAcc pl s k q' : Int) + (hitQ L k q' : Int)) = .int .i64 ((rAcc pl s (k + 1) q' : Nat) : Int)
              rw [Hstep.out q']
              rfl, Hmp.out⟩
          case measure => simp [intOf]; omega
    · have e : k = s.size := by omega
      subst e
      have Hrow := Lib.hid hrow
      have HEr := Lib.hid hEr
      clear hgr hrow hmp hkeep hEr
      go_wp2_with fail
      go_ret
      exact ⟨G, rfl, by omega, Hrow.out.congr fun q hq => by
        have := rAcc_rare f ks m n s q (HNle.out q hq)
        rw [← Hpl.out] at this
        show Value.int .i64 ((rAcc pl s s.size q : Nat) : Int) = .int .i64 ((rareV ks m f s n q : Nat) : Int)
        rw [this], HEr.out⟩
end Go.Proofs.Ytmadelflnjhibaa
