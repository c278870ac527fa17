import Derived.Test.YtmadelflnjhibaaNttB
namespace Go.Proofs.Ytmadelflnjhibaa
open Go.RowKit

def rootV (k : Int) (L : Nat) : Int := (3 ^ ((primeV k - 1) / 2 ^ L).toNat) % primeV k
def backV (k : Int) (L : Nat) : Int := (rootV k L ^ (primeV k - 2).toNat) % primeV k
def manyV (k : Int) (n : Nat) : Int := ((n : Int) ^ (primeV k - 2).toNat) % primeV k

theorem Rt_inv {p W V : Int} {L : Nat} (h : NttM.Rt p W L) (hV : NttM.Cg p (W * V) 1) : NttM.Rt p V L := by
  cases L with
  | zero =>
    have h1 : NttM.Cg p W 1 := h
    show NttM.Cg p V 1
    exact (((h1.symm.mul (NttM.Cg.refl p V))).trans hV |> fun x => (NttM.Cg.of_eq (Int.one_mul V).symm).trans x)
  | succ L =>
    have h1 : NttM.Cg p (W ^ 2 ^ L) (-1) := h
    show NttM.Cg p (V ^ 2 ^ L) (-1)
    have h2 := NttM.pow_cg_one hV (2 ^ L)
    rw [Int.mul_pow] at h2
    have h3 : NttM.Cg p (-1 * V ^ 2 ^ L) 1 := (h1.symm.mul (NttM.Cg.refl p _)).trans h2
    exact ((NttM.Cg.of_eq (by omega)).trans h3.neg)

theorem root_facts (k : Int) (h0 : 0 ≤ k) (h2 : k ≤ 2) (L n : Nat) (hL : L ≤ 12) (hn : n = 2 ^ L) :
    NttM.Rt (primeV k) (rootV k L) L ∧ NttM.Cg (primeV k) (rootV k L * backV k L) 1 ∧ NttM.Cg (primeV k) (manyV k n * (n : Int)) 1 ∧ NttM.Rt (primeV k) (backV k L) L ∧ rootV k L % primeV k ≠ 0 ∧ (n : Int) % primeV k ≠ 0 ∧ 0 ≤ rootV k L ∧ 0 ≤ backV k L ∧ 0 ≤ manyV k n := by
  subst hn
  obtain ⟨f1, f2, f3⟩ := prime_facts k h0 h2 L hL (rootV k L) (NttM.Cg.mod _ _)
  have hp : 2 ≤ primeV k := by unfold primeV; repeat' split <;> omega
  have g2 : NttM.Cg (primeV k) (rootV k L * backV k L) 1 := ((NttM.Cg.refl _ _).mul (NttM.Cg.mod _ _)).trans f2
  have g3 : NttM.Cg (primeV k) (manyV k (2 ^ L) * ((2 ^ L : Nat) : Int)) 1 := ((NttM.Cg.mod _ _).mul (NttM.Cg.refl _ _)).trans f3
  have nz : ∀ a b : Int, NttM.Cg (primeV k) (a * b) 1 → a % primeV k ≠ 0 := by
    intro a b hab h0
    have h1 := hab.emod_eq
    rw [Int.mul_emod, h0, Int.zero_mul, Int.zero_emod, Int.emod_eq_of_lt (by omega) (by omega)] at h1
    omega
  refine ⟨f1, g2, g3, Rt_inv f1 g2, nz _ _ g2, nz _ (manyV k (2 ^ L)) (by rw [Int.mul_comm]; exact g3), ?_, ?_, ?_⟩ <;> exact Int.emod_nonneg _ (by omega)

theorem check_any (k : Int) (L n : Nat) (h0 : 0 ≤ k) (h2 : k ≤ 2) (hL : L ≤ 12) (hn : n = 2 ^ L) (w : World) : Calls Try.prog 95 #[.int .i64 k, .int .i64 n] w fun e w' => e = .returned (.int .i64 0) ∧ Ext w w' := by
  have hp := primeV_pos k
  have hpz : (primeV k == 0) = false := by have : primeV k ≠ 0 := by omega
                                           simpa using this
  have Hn := Lib.hid hn
  clear hn
  go_enter Try.func95, Try.ntmps95
  go_wp2_with fail
  refine (prime_any k h0 h2 _).mono ?_
  rintro e w1 ⟨rfl, hb1⟩
  go_wp2_with fail
  refine (log_yes n L hL Hn.out _).mono ?_
  rintro e w2 ⟨rfl, rfl⟩
  go_wp2
  go_ret
  exact ⟨rfl, hb1⟩

/-- What a call hands back: a new slice of n numbers, and more. -/
def NewT (w0 : World) (n : Nat) (g : Nat → Int) (more : List Value) (e : Ending) (w' : World) : Prop :=
  ∃ B c, e = .returned (.tuple (.slice (some ⟨B, 0, none⟩) n c :: more).toArray) ∧ n ≤ c ∧ w0.heap.size ≤ B ∧ Row w' 25 B n (U g) ∧ Ext w0 w'

set_option maxHeartbeats 1000000 in
theorem forward_any (k : Int) (h0 : 0 ≤ k) (h2 : k ≤ 2) (L n : Nat) (hL : L ≤ 12) (hn : n = 2 ^ L) (b off c : Nat) (l : Nat → Int) (hl : ∀ j, 0 ≤ l j) (w : World) (hr : ∀ j, j < n → w.cell? ⟨b, off + j, none⟩ = some (.int .u64 (l j))) :
    Calls Try.prog 62 #[.int .i64 k, .slice (some ⟨b, off, none⟩) n c] w (NewT w n (NttM.T (primeV k) (rootV k L) n l) [.int .i64 0]) := by
  obtain ⟨f1, _, _, _, _, _, r0, _, _⟩ := root_facts k h0 h2 L n hL hn
  have Hn := Lib.hid hn
  have Hr := Lib.hid hr
  have Hl := Lib.hid hl
  have HRt := Lib.hid f1
  clear hn hr hl f1
  go_enter Try.func62, Try.ntmps62
  go_wp2_with fail
  refine (check_any k L n h0 h2 hL Hn.out _).mono ?_
  rintro e w1 ⟨rfl, hb1⟩
  go_wp2_with fail
  refine (log_yes n L hL Hn.out _).mono ?_
  rintro e w2 ⟨rfl, rfl⟩
  go_wp2_with fail
  refine (root_any k L h0 h2 hL _).mono ?_
  rintro e w3 ⟨rfl, hb3⟩
  have hroot : (3 : Int) ^ ((primeV k - 1) / 2 ^ L).toNat % primeV k = rootV k L := rfl
  rw [hroot]
  clear hroot
  go_wp2_with fail
  refine (transform_any k (rootV k L) h0 h2 r0 L n hL Hn.out HRt.out b off c l Hl.out _ (fun j hj => (hb1.trans hb3).cell (Hr.out j hj))).mono ?_
  rintro e w4 ⟨B, c', rfl, hc, hB, hrow, hE⟩
  have HRow := Lib.hid hrow
  clear hrow
  go_wp2
  go_ret2
  exact ⟨B, c', rfl, hc, Nat.le_trans (hb1.trans hb3).size hB, HRow.out, (hb1.trans hb3).trans hE⟩

def InvRel (p N : Int) (n B : Nat) (g : Nat → Int) (w : World) (c : Value) (wr : World) : Prop :=
  ∃ t, t ≤ n ∧ c = .int .i64 ((t : Nat) : Int) ∧ Row wr 25 B n (U (fun j => if j < t then g j * N % p else g j)) ∧ Ext w wr

theorem inv_step {p N : Int} {t : Nat} {g : Nat → Int} (j : Nat) : (if j = t then g t * N % p else if j < t then g j * N % p else g j) = if j < t + 1 then g j * N % p else g j := by
  by_cases e : j = t
  · subst e; rw [if_pos rfl, if_pos (by omega)]
  · rw [if_neg e]
    by_cases h : j < t
    · rw [if_pos h, if_pos (by omega)]
    · rw [if_neg h, if_neg (by omega)]

set_option maxRecDepth 100000 in
set_option maxHeartbeats 1000000 in
theorem inverse_any (k : Int) (h0 : 0 ≤ k) (h2 : k ≤ 2) (L n : Nat) (hL : L ≤ 12) (hn : n = 2 ^ L) (b off c : Nat) (l : Nat → Int) (hl : ∀ j, 0 ≤ l j) (w : World) (hr : ∀ j, j < n → w.cell? ⟨b, off + j, none⟩ = some (.int .u64 (l j))) :
    Calls Try.prog 67 #[.int .i64 k, .slice (some ⟨b, off, none⟩) n c] w (NewT w n (fun i => NttM.T (primeV k) (backV k L) n l i * manyV k n % primeV k) [.int .i64 0]) := by
  obtain ⟨f1, _, _, f4, rz, nz, r0, b0, m0⟩ := root_facts k h0 h2 L n hL hn
  have hp := primeV_pos k
  have hn2 : n ≤ 4096 := by rw [hn]; exact Nat.le_trans (Nat.pow_le_pow_right (by omega) hL) (by decide)
  have Hn := Lib.hid hn
  have Hr := Lib.hid hr
  have Hl := Lib.hid hl
  have HRt := Lib.hid f4
  have Hrz := Lib.hid rz
  have Hnz := Lib.hid nz
  clear hn hr hl f1 f4 rz nz
  go_enter Try.func67, Try.ntmps67
  go_wp2_with fail
  refine (check_any k L n h0 h2 hL Hn.out _).mono ?_
  rintro e w1 ⟨rfl, hb1⟩
  go_wp2_with fail
  refine (log_yes n L hL Hn.out _).mono ?_
  rintro e w2 ⟨rfl, rfl⟩
  go_wp2_with fail
  refine (root_any k L h0 h2 hL _).mono ?_
  rintro e w3 ⟨rfl, hb3⟩
  have hroot : (3 : Int) ^ ((primeV k - 1) / 2 ^ L).toNat % primeV k = rootV k L := rfl
  rw [hroot]
  clear hroot
  go_wp2_with fail
  refine (inv_any k (rootV k L) h0 h2 r0 Hrz.out _).mono ?_
  rintro e w4 ⟨rfl, hb4⟩
  have hback : rootV k L ^ (primeV k - 2).toNat % primeV k = backV k L := rfl
  rw [hback]
  clear hback
  go_wp2_with fail
  refine (inv_any k n h0 h2 (by omega) Hnz.out _).mono ?_
  rintro e w5 ⟨rfl, hb5⟩
  have hmany : (n : Int) ^ (primeV k - 2).toNat % primeV k = manyV k n := rfl
  rw [hmany]
  clear hmany
  go_wp2_with fail
  have hE5 := (((hb1.trans hb3).trans hb4).trans hb5)
  refine (transform_any k (backV k L) h0 h2 b0 L n hL Hn.out HRt.out b off c l Hl.out _ (fun j hj => hE5.cell (Hr.out j hj))).mono ?_
  rintro e w6 ⟨B, c', rfl, hc, hB, hrow, hE⟩
  have hE6 := hE5.trans hE
  have hB' := Nat.le_trans hE5.size hB
  have hT0 : Hid (∀ j, 0 ≤ NttM.T (primeV k) (backV k L) n l j) := fun j => Int.emod_nonneg _ (by omega)
  have HRow := Lib.hid hrow
  clear hrow hb1 hb3 hb4 hb5 hE hB hE5
  generalize hg : NttM.T (primeV k) (backV k L) n l = g at *
  have Hg := Lib.hid hg
  generalize hNN : manyV k n = N at *
  have HN := Lib.hid hNN
  clear hg hNN
  go_wp2_with fail
  go_loopw [16, 56] (fun _ c wr => InvRel (primeV k) N n B g w c wr) (fun _ c _ => n - (intOf c).toNat)
  case atStart => exact ⟨0, Nat.zero_le _, rfl, HRow.out.congr fun j _ => congrArg (Value.int .u64) (by simp only []; rw [if_neg (by omega)]), hE6⟩
  case round =>
    clear HRow hE6
    obtain ⟨t, ht, rfl, hrow, hE⟩ := hrel
    by_cases hlt : t < n
    · have hct := hrow.cell hlt
      have hct' : wr.cell? ⟨B, t, none⟩ = some (.int .u64 (g t)) := by
        rw [hct]; show some (Value.int .u64 (if t < t then _ else _)) = _; rw [if_neg (by omega)]
      clear hct
      have HRow := Lib.hid hrow
      have hg0 := hT0.out t
      generalize hgt : g t = gt at *
      have Hgt := Lib.hid hgt
      clear hgt hrow
      go_wp2_with fail
      refine (mul_any k gt N h0 h2 hg0 m0 _).mono ?_
      rintro e w7 ⟨rfl, hb7⟩
      have hc7 := hb7.cell hct'
      have HRow7 := Lib.hid (HRow.out.ext hb7)
      have hf7 := HRow7.out.frozen t
      go_wp2_with fail
      go_roundw
      case rel => exact ⟨t + 1, by omega, by go_num, (HRow7.out.setU t _).congr fun j _ => congrArg (Value.int .u64) (by rw [← Hgt.out]; exact inv_step j), (hE.trans hb7).setCell hB' _⟩
      case measure => simp [intOf]; omega
    · have hfin : Hid (Row wr 25 B n (U (fun i => g i * N % primeV k))) :=
        hrow.congr fun j hj => congrArg (Value.int .u64) (by simp only []; rw [if_pos (by omega)])
      clear hrow
      go_wp2
      go_ret2
      exact ⟨B, c', rfl, hc, hB', by (have h9 := hfin.out; rw [← Hg.out, ← HN.out] at h9; exact h9), hE⟩
end Go.Proofs.Ytmadelflnjhibaa
