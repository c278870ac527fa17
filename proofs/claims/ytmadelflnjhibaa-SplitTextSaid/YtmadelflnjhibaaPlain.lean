import Derived.Test.YtmadelflnjhibaaLawB
namespace Go.Proofs.Ytmadelflnjhibaa
open Go.RowKit

theorem bits_eq : ∀ (n : Nat) (x y : Int), 0 ≤ x → x < 2 ^ n → 0 ≤ y → y < 2 ^ n → (∀ i, i < n → x / 2 ^ i % 2 = y / 2 ^ i % 2) → x = y
  | 0, x, y, h0, h1, h2, h3, _ => by simp at h1 h3; omega
  | n + 1, x, y, h0, h1, h2, h3, h => by
    have hp : (2 : Int) ^ (n + 1) = 2 ^ n * 2 := Int.pow_succ 2 n
    have h5 : x / 2 = y / 2 := by
      refine bits_eq n (x / 2) (y / 2) (by omega) (by omega) (by omega) (by omega) (fun i hi => ?_)
      have := h (i + 1) (by omega)
      rw [Int.pow_succ, Int.mul_comm, ← Int.ediv_ediv_of_nonneg (by omega : (0 : Int) ≤ 2), ← Int.ediv_ediv_of_nonneg (by omega : (0 : Int) ≤ 2)] at this
      exact this
    have h6 := h 0 (by omega)
    simp at h6
    omega

/-- Two sets with the same bytes are the same. -/
theorem has_ext {c d : Cls} (hc : c.ok) (hd : d.ok) (h : ∀ i, i < 256 → has c i = has d i) : c = d := by
  refine word_of fun k hk => bits_eq 64 _ _ (hc k).1 (by have := (hc k).2; omega) (hd k).1 (by have := (hd k).2; omega) fun i hi => ?_
  have h2 := h (64 * k + i) (by omega)
  rw [has_at c k i hi, has_at d k i hi, Bool.eq_iff_iff, beq_iff_eq, beq_iff_eq] at h2
  have h3 := Int.emod_two_eq (c.word k / 2 ^ i)
  have h4 := Int.emod_two_eq (d.word k / 2 ^ i)
  rcases h3 with h3 | h3 <;> rcases h4 with h4 | h4 <;> rw [h3, h4] at h2 ⊢ <;> simp at h2

theorem has_one (b i : Nat) (hb : b < 256) (hi : i < 256) : has (oneV b) i = decide (i = b) := by
  have key : ((List.range 256).all fun b => (List.range 256).all fun i => has (oneV b) i == decide (i = b)) = true := by kernel_rfl
  rw [List.all_eq_true] at key
  have k2 := key b (List.mem_range.2 hb)
  rw [List.all_eq_true] at k2
  exact eq_of_beq (k2 i (List.mem_range.2 hi))

theorem cnt_one {f : Nat → Bool} {b : Nat} : ∀ n, b < n → f b = true → (cnt f n = 1 ↔ ∀ i, i < n → f i = decide (i = b))
  | 0, h, _ => absurd h (Nat.not_lt_zero _)
  | n + 1, h, hb => by
    have hs : cnt f (n + 1) = cnt f n + if f n then 1 else 0 := rfl
    by_cases e : b = n
    · subst e
      rw [hs, hb, if_pos rfl]
      constructor
      · intro h1
        have h2 : cnt f b = 0 := by omega
        intro i hi
        by_cases e2 : i = b
        · subst e2; simp [hb]
        · rw [cnt_zero.1 h2 i (by omega)]; simp [e2]
      · intro h1
        have : cnt f b = 0 := cnt_zero.2 fun i hi => by rw [h1 i (by omega)]; simp; omega
        omega
    · have ih := cnt_one (f := f) n (by omega) hb
      rw [hs]
      constructor
      · intro h1
        have hpos : 0 < cnt f n := by
          rcases Nat.eq_zero_or_pos (cnt f n) with h0 | h0
          · have := cnt_zero.1 h0 b (by omega); rw [hb] at this; cases this
          · exact h0
        cases hn : f n
        · rw [hn] at h1
          have h2 := ih.1 (by simpa using h1)
          intro i hi
          by_cases e2 : i = n
          · subst e2; rw [hn]; simp; omega
          · exact h2 i (by omega)
        · rw [hn, if_pos rfl] at h1; omega
      · intro h1
        have h2 := ih.2 (fun i hi => h1 i (by omega))
        have h3 := h1 n (by omega)
        rw [h2, h3]
        simp
        omega

/-- Has a set just one byte? -/
theorem size_one {c : Cls} (hc : c.ok) {b : Nat} (hb : b < 256) (h : has c b = true) : sizeV c = 1 ↔ c = oneV b := by
  unfold sizeV
  rw [cnt_one 256 hb h]
  constructor
  · intro h1
    exact has_ext hc (one_ok b hb) fun i hi => by rw [h1 i hi, has_one b i hb hi]
  · rintro rfl i hi
    exact has_one b i hb hi
end Go.Proofs.Ytmadelflnjhibaa

namespace Go.Proofs.Ytmadelflnjhibaa
open Go.RowKit
attribute [local go_sem] Cls.val clsNone clsAll

def SingleRel (c : Cls) (w : World) (i : Value) (wr : World) : Prop :=
  ∃ k : Nat, k ≤ 256 ∧ i = .int .i64 k ∧ (∀ j, j < k → has c j = false) ∧ Ext w wr

set_option maxRecDepth 100000 in
set_option maxHeartbeats 2000000 in
theorem single_any (c : Cls) (hc : c.ok) (w : World) :
    Calls Try.prog 111 #[c.val] w fun e w' => ∃ x : Int, e = .returned (.tuple #[.int .u8 x, .bool (decide (sizeV c = 1))]) ∧ Ext w w' := by
  have hE0 := (Ext.refl w).alloc (.cells #[.int .u64 c.w0, .int .u64 c.w1, .int .u64 c.w2, .int .u64 c.w3] 27)
  have hnew := heap_alloc_new w (.cells #[.int .u64 c.w0, .int .u64 c.w1, .int .u64 c.w2, .int .u64 c.w3] 27)
  have Hh := Lib.hid (fun i (hi : i < 256) W => has_any c hc i hi W)
  have Hone := Lib.hid (fun b (hb : b < 256) (h : has c b = true) => size_one hc hb h)
  have Hno : Hid ((∀ j, j < 256 → has c j = false) → sizeV c = 0) := fun h => cnt_zero.2 h
  clear hc
  unfold Cls.val
  generalize hq : sizeV c = q at *
  go_enter Try.func111, Try.ntmps111
  go_wp2_with fail
  generalize w.alloc (.cells #[.int .u64 c.w0, .int .u64 c.w1, .int .u64 c.w2, .int .u64 c.w3] 27) = W at *
  have HE0 := Lib.hid hE0
  have Hnew := Lib.hid hnew
  clear hE0 hnew hq
  generalize w.heap.size = B at *
  go_loopw [4, 5, 6] (fun _ _ i wr => SingleRel c W i wr) (fun _ _ i _ => 256 - (intOf i).toNat)
  case atStart => exact ⟨0, by omega, rfl, (fun j hj => by omega), Ext.refl _⟩
  case round =>
    obtain ⟨k, hk, rfl, hno, hE⟩ := hrel
    obtain ⟨⟨c0, c1, c2, c3⟩, -⟩ := cls_cells (hE.heap Hnew.out)
    have HE := Lib.hid hE
    have Hn := Lib.hid hno
    clear hE hno
    by_cases hlt : k < 256
    · have i1 : IntKind.u8.wrap (k : Int) = k := IntWalk.u8_in _ ⟨by omega, by omega⟩
      have hk1 : (k : Int) < 256 := by omega
      have Hh2 := Lib.hid (Hh.out k hlt)
      have Hone2 := Lib.hid (Hone.out k hlt)
      have Hstep : Hid (has c k = false → ∀ j, j < k + 1 → has c j = false) := fun h j hj => by
        by_cases e : j = k
        · rw [e]; exact h
        · exact Hn.out j (by omega)
      generalize has c k = x at *
      cases x
      · go_wp2_with fail
        refine (Hh2.out _).mono ?_
        rintro e w2 ⟨rfl, hE2⟩
        go_wp2_with fail
        go_roundw
        case rel => exact ⟨k + 1, by omega, by go_num, Hstep.out True.intro, HE.out.trans hE2⟩
        case measure => simp [intOf]; omega
      · go_wp2_with fail
        refine (Hh2.out _).mono ?_
        rintro e w2 ⟨rfl, hE2⟩
        have d0 := hE2.cell c0
        have d1 := hE2.cell c1
        have d2 := hE2.cell c2
        have d3 := hE2.cell c3
        have HE2 := Lib.hid (HE.out.trans hE2)
        have Hw := Lib.hid (fun W => with_any clsNone k hlt W)
        have Hiff := Lib.hid (Hone2.out True.intro)
        have heq := fun V => eql_cls c (oneV k) V
        clear c0 c1 c2 c3 hE2 Hone2 Hone
        unfold oneV at *
        generalize withV clsNone k = d at *
        have hx : decide (q = 1) = decide (c = d) := by rw [Bool.eq_iff_iff, decide_eq_true_eq, decide_eq_true_eq]; exact Hiff.out
        generalize decide (c = d) = x at *
        have Hx := Lib.hid hx
        clear hx
        simp only [Cls.val, clsNone] at Hw
        go_wp2_with fail
        go_region_held3 (fun W' => Ext w2 W' ∧ W'.cell? ⟨B, 0, none⟩ = some (.int .u64 c.w0) ∧ W'.cell? ⟨B, 1, none⟩ = some (.int .u64 c.w1) ∧ W'.cell? ⟨B, 2, none⟩ = some (.int .u64 c.w2) ∧ W'.cell? ⟨B, 3, none⟩ = some (.int .u64 c.w3))
          ((first | exact ⟨Ext.refl w2, d0, d1, d2, d3⟩ | exact ⟨(Ext.refl w2).drew, d0, d1, d2, d3⟩ | exact ⟨(Ext.refl w2).drew.trans hb2, hb2.cell d0, hb2.cell d1, hb2.cell d2, hb2.cell d3⟩ | exact ‹Ext w2 _ ∧ _ ∧ _› | fail))
          (first | (go_at_call 84; refine Calls.mono (Hw.out _) ?_; rintro e w3 ⟨rfl, hb2⟩) | fail "no arm")
        have HE3 := Lib.hid (HE0.out.trans (HE2.out.trans ((Ext.refl w2).drew.trans hb2)))
        clear hb2
        cases x
        · go_wp2_with fail
          go_ret2
          exact ⟨_, by rw [Hx.out]; rfl, HE3.out⟩
        · go_wp2_with fail
          go_ret2
          exact ⟨_, by rw [Hx.out]; rfl, HE3.out⟩
    · have e : k = 256 := by omega
      subst e
      have hq0 := Hno.out Hn.out
      go_wp2_with fail
      go_ret2
      exact ⟨_, by rw [hq0]; rfl, HE0.out.trans HE.out⟩

/-- Is each element free, or of one byte? -/
def plainE (c : Cls) : Bool := decide (sizeV c = 1) || decide (c = clsAll)
def plainB (f : Nat → Cls) (n : Nat) : Bool := (List.range n).all fun j => plainE (f j)
theorem plainB_true {f : Nat → Cls} {n : Nat} : plainB f n = true ↔ ∀ j, j < n → plainE (f j) = true := by
  unfold plainB
  rw [List.all_eq_true]
  exact ⟨fun h j hj => h j (List.mem_range.2 hj), fun h j hj => h j (List.mem_range.1 hj)⟩
theorem plainB_false {f : Nat → Cls} {n j : Nat} (hj : j < n) (h : plainE (f j) = false) : plainB f n = false := by
  rw [Bool.eq_false_iff]
  intro h2
  rw [plainB_true.1 h2 j hj] at h
  cases h

def PlainRel (f : Nat → Cls) (n : Nat) (w : World) (i : Value) (wr : World) : Prop :=
  ∃ k : Nat, k ≤ n ∧ i = .int .i64 k ∧ (∀ j, j < k → plainE (f j) = true) ∧ Ext w wr

set_option maxRecDepth 100000 in
set_option maxHeartbeats 2000000 in
theorem plain_any (p : Option Addr) (n cap : Nat) (K : Int) (f : Nat → Cls) (hcap : n ≤ cap) (hn : n ≤ 1099511627776) (hcls : ∀ j, (f j).ok) (w : World) (hr : RdC w p n f) :
    Calls Try.prog 104 #[leafVal p n cap K] w fun e w' => e = .returned (.bool (plainB f n)) ∧ Ext w w' := by
  have hE0 := (Ext.refl w).alloc (.cells #[.slice p n cap, .int .i64 K] 24)
  have hnew := heap_alloc_new w (.cells #[.slice p n cap, .int .i64 K] 24)
  have Hr := Lib.hid hr
  have Hcls := Lib.hid hcls
  have Hall : Hid ((∀ j, j < n → plainE (f j) = true) → plainB f n = true) := plainB_true.2
  have Hno : Hid (∀ j, j < n → plainE (f j) = false → plainB f n = false) := fun j hj h => plainB_false hj h
  clear hr hcls
  generalize hb : plainB f n = b at *
  clear hb
  unfold leafVal
  go_enter Try.func104, Try.ntmps104
  go_wp2_with fail
  generalize w.alloc (.cells #[.slice p n cap, .int .i64 K] 24) = W at *
  have HE0 := Lib.hid hE0
  clear hE0 hnew
  go_loopw [4, 5, 6, 10] (fun _ _ _ i wr => PlainRel f n W i wr) (fun _ _ _ i _ => n - (intOf i).toNat)
  case atStart => exact ⟨0, by omega, rfl, (fun j hj => by omega), Ext.refl _⟩
  case round =>
    obtain ⟨k, hk, rfl, hno, hE⟩ := hrel
    have HE := Lib.hid hE
    have Hn := Lib.hid hno
    clear hE hno
    by_cases hlt : k < n
    · obtain ⟨bb, off, rfl, d0, d1, d2, d3⟩ := (Hr.out.ext (HE0.out.trans HE.out)).at hlt
      have hk1 : (k : Int) < (n : Int) := by omega
      have hk0 : (0 : Int) ≤ (k : Int) := by omega
      have Hsi := Lib.hid (fun W => single_any (f k) (Hcls.out k) W)
      have Hfr := Lib.hid (fun W => free_any (f k) W)
      have hpl : plainE (f k) = (decide (sizeV (f k) = 1) || decide (f k = clsAll)) := rfl
      have Hstep : Hid (plainE (f k) = true → ∀ j, j < k + 1 → plainE (f j) = true) := fun h j hj => by
        by_cases e : j = k
        · rw [e]; exact h
        · exact Hn.out j (by omega)
      have Hno2 := Lib.hid (Hno.out k hlt)
      generalize f k = d at *
      generalize plainE d = x at *
      generalize decide (sizeV d = 1) = x1 at *
      generalize decide (d = clsAll) = x2 at *
      have Hpl := Lib.hid hpl
      have hnb := heap_alloc_new wr (.cells #[.int .u64 d.w0, .int .u64 d.w1, .int .u64 d.w2, .int .u64 d.w3] 27)
      have Hwa := Lib.hid ((Ext.refl wr).alloc (.cells #[.int .u64 d.w0, .int .u64 d.w1, .int .u64 d.w2, .int .u64 d.w3] 27))
      clear hpl
      go_wp2_with fail
      clear d0 d1 d2 d3
      generalize wr.alloc (.cells #[.int .u64 d.w0, .int .u64 d.w1, .int .u64 d.w2, .int .u64 d.w3] 27) = wa at *
      generalize wr.heap.size = Y at *
      obtain ⟨⟨c0, c1, c2, c3⟩, -⟩ := cls_cells hnb
      refine (Hsi.out _).mono ?_
      rintro e w2 ⟨xb, rfl, hE2⟩
      have e0 := hE2.cell c0
      have e1 := hE2.cell c1
      have e2 := hE2.cell c2
      have e3 := hE2.cell c3
      have HE2 := Lib.hid (HE.out.trans (Hwa.out.trans hE2))
      clear c0 c1 c2 c3 hE2 hnb
      cases x1
      · go_wp2_with fail
        refine (Hfr.out _).mono ?_
        rintro e w3 ⟨rfl, hE3⟩
        have HE3 := Lib.hid (HE2.out.trans hE3)
        clear hE3 e0 e1 e2 e3
        cases x2
        · have hb := Hno2.out Hpl.out
          subst hb
          go_wp2_with fail
          go_ret
          exact ⟨rfl, HE0.out.trans HE3.out⟩
        · go_wp2_with fail
          go_roundw
          case rel => exact ⟨k + 1, by omega, by go_num, Hstep.out Hpl.out, HE3.out⟩
          case measure => simp [intOf]; omega
      · go_wp2_with fail
        go_roundw
        case rel => exact ⟨k + 1, by omega, by go_num, Hstep.out Hpl.out, HE2.out⟩
        case measure => simp [intOf]; omega
    · have e : k = n := by omega
      subst e
      have hb := Hall.out Hn.out
      subst hb
      go_wp2_with fail
      go_ret
      exact ⟨rfl, HE0.out.trans HE.out⟩

set_option maxRecDepth 100000 in
set_option maxHeartbeats 2000000 in
theorem refplain_any (p : Option Addr) (n cap : Nat) (K : Int) (f : Nat → Cls) (hcap : n ≤ cap) (hn : n ≤ 1099511627776) (hcls : ∀ j, (f j).ok) (w : World) (hr : RdC w p n f) :
    Calls Try.prog 82 #[leafVal p n cap K] w fun e w' => e = .returned (.bool (plainB f n)) ∧ Ext w w' := by
  have hE0 := (Ext.refl w).alloc (.cells #[.slice p n cap, .int .i64 K] 24)
  have hnew := heap_alloc_new w (.cells #[.slice p n cap, .int .i64 K] 24)
  have Hr := Lib.hid hr
  have Hcls := Lib.hid hcls
  have Hall : Hid ((∀ j, j < n → plainE (f j) = true) → plainB f n = true) := plainB_true.2
  have Hno : Hid (∀ j, j < n → plainE (f j) = false → plainB f n = false) := fun j hj h => plainB_false hj h
  clear hr hcls
  generalize hb : plainB f n = b at *
  clear hb
  unfold leafVal
  go_enter Try.func82, Try.ntmps82
  go_wp2_with fail
  generalize w.alloc (.cells #[.slice p n cap, .int .i64 K] 24) = W at *
  have HE0 := Lib.hid hE0
  have Hnew := Lib.hid hnew
  clear hE0 hnew
  generalize w.heap.size = B at *
  go_loopw [3] (fun i wr => PlainRel f n W i wr) (fun i _ => n - (intOf i).toNat)
  case atStart => exact ⟨0, by omega, rfl, (fun j hj => by omega), Ext.refl _⟩
  case round =>
    obtain ⟨k, hk, rfl, hno, hE⟩ := hrel
    have l0 : wr.cell? ⟨B, 0, none⟩ = some (.slice p n cap) := hE.cell (cell_of_row _ _ _ _ _ _ Hnew.out)
    have HE := Lib.hid hE
    have Hn := Lib.hid hno
    clear hE hno
    by_cases hlt : k < n
    · obtain ⟨bb, off, rfl, d0, d1, d2, d3⟩ := (Hr.out.ext (HE0.out.trans HE.out)).at hlt
      have hk1 : (k : Int) < (n : Int) := by omega
      have hk0 : (0 : Int) ≤ (k : Int) := by omega
      have Hsi := Lib.hid (fun W => size_any (f k) (Hcls.out k) W)
      have Hfr := Lib.hid (fun W => reffree_any (f k) (Hcls.out k) W)
      have hfr : decide (sizeV (f k) = 256) = decide (f k = clsAll) := by rw [Bool.eq_iff_iff, decide_eq_true_eq, decide_eq_true_eq]; exact size_full (Hcls.out k)
      rw [hfr] at Hfr
      have hpl : plainE (f k) = (decide (sizeV (f k) = 1) || decide (f k = clsAll)) := rfl
      have Hstep : Hid (plainE (f k) = true → ∀ j, j < k + 1 → plainE (f j) = true) := fun h j hj => by
        by_cases e : j = k
        · rw [e]; exact h
        · exact Hn.out j (by omega)
      have Hno2 := Lib.hid (Hno.out k hlt)
      clear hfr
      generalize f k = d at *
      generalize plainE d = x at *
      generalize sizeV d = z at *
      generalize decide (d = clsAll) = x2 at *
      by_cases hz : z = 1
      · subst hz
        have Hpl := Lib.hid hpl
        clear hpl
        go_wp2_with fail
        refine (Hsi.out _).mono ?_
        rintro e w2 ⟨rfl, hE2⟩
        have HE2 := Lib.hid (HE.out.trans hE2)
        clear hE2 d0 d1 d2 d3 l0
        go_wp2_with fail
        go_roundw
        case rel => exact ⟨k + 1, by omega, by go_num, Hstep.out Hpl.out, HE2.out⟩
        case measure => simp [intOf]; omega
      · rw [decide_eq_false hz, Bool.false_or] at hpl
        have hz2 : (z : Int) ≠ 1 := by omega
        have Hpl := Lib.hid hpl
        clear hpl
        go_wp2_with fail
        refine (Hsi.out _).mono ?_
        rintro e w2 ⟨rfl, hE2⟩
        have e0 := hE2.cell d0
        have e1 := hE2.cell d1
        have e2 := hE2.cell d2
        have e3 := hE2.cell d3
        have m0 := hE2.cell l0
        have HE2 := Lib.hid (HE.out.trans hE2)
        clear hE2 d0 d1 d2 d3 l0
        go_wp2_with fail
        refine (Hfr.out _).mono ?_
        rintro e w3 ⟨rfl, hE3⟩
        have HE3 := Lib.hid (HE2.out.trans hE3)
        clear hE3 e0 e1 e2 e3 m0
        cases x2
        · have hb := Hno2.out Hpl.out
          subst hb
          go_wp2_with fail
          go_ret
          exact ⟨rfl, HE0.out.trans HE3.out⟩
        · go_wp2_with fail
          go_roundw
          case rel => exact ⟨k + 1, by omega, by go_num, Hstep.out Hpl.out, HE3.out⟩
          case measure => simp [intOf]; omega
    · have e : k = n := by omega
      subst e
      have hb := Hall.out Hn.out
      subst hb
      go_wp2_with fail
      go_ret
      exact ⟨rfl, HE0.out.trans HE.out⟩
end Go.Proofs.Ytmadelflnjhibaa
