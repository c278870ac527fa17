import Derived.Test.YtmadelflnjhibaaBase
import Derived.Test.YtmadelflnjhibaaMath
import Derived.ScopeJumps
namespace Go.Proofs.Ytmadelflnjhibaa
open Go.RowKit

def primeV (k : Int) : Int := if k = 0 then 998244353 else if k = 1 then 167772161 else 469762049
theorem primeV_pos (k : Int) : 0 < primeV k := by unfold primeV; repeat' split <;> omega
theorem primeV_lt (k : Int) : primeV k < 1073741824 := by unfold primeV; repeat' split <;> omega

theorem prime_any (k : Int) (h0 : 0 ≤ k) (h2 : k ≤ 2) (w : World) : Calls Try.prog 106 #[.int .i64 k] w fun e w' => e = .returned (.int .u64 (primeV k)) ∧ Ext w w' := by
  obtain h | h | h : k = 0 ∨ k = 1 ∨ k = 2 := by omega
  all_goals
    subst h
    clear h0 h2
    go_enter Try.func106, Try.ntmps106
    go_wp2
    go_ret
    exact ⟨rfl, (Ext.refl _).alloc _⟩

theorem of_any (k a : Int) (h0 : 0 ≤ k) (h2 : k ≤ 2) (ha : 0 ≤ a) (w : World) : Calls Try.prog 99 #[.int .i64 k, .int .u64 a] w fun e w' => e = .returned (.int .u64 (a % primeV k)) ∧ Ext w w' := by
  have hp := primeV_pos k
  have hl := primeV_lt k
  go_enter Try.func99, Try.ntmps99
  go_wp2_with (go_at_call 106; refine (prime_any k h0 h2 _).mono ?_; rintro e w' ⟨rfl, hb⟩)
  go_ret
  exact ⟨rfl, hb⟩

theorem mod_bd (k a : Int) : 0 ≤ a % primeV k ∧ a % primeV k < primeV k :=
  ⟨Int.emod_nonneg a (by have := primeV_pos k; omega), Int.emod_lt_of_pos a (primeV_pos k)⟩

theorem add_any (k a b : Int) (h0 : 0 ≤ k) (h2 : k ≤ 2) (ha : 0 ≤ a) (hb : 0 ≤ b) (w : World) : Calls Try.prog 113 #[.int .i64 k, .int .u64 a, .int .u64 b] w fun e w' => e = .returned (.int .u64 ((a + b) % primeV k)) ∧ Ext w w' := by
  have hp := primeV_pos k
  have hl := primeV_lt k
  obtain ⟨a0, a1⟩ := mod_bd k a
  obtain ⟨b0, b1⟩ := mod_bd k b
  go_enter Try.func113, Try.ntmps113
  go_wp2_with fail
  refine (of_any k a h0 h2 ha _).mono ?_
  rintro e w1 ⟨rfl, hb1⟩
  go_wp2_with fail
  refine (of_any k b h0 h2 hb _).mono ?_
  rintro e w2 ⟨rfl, hb2⟩
  go_wp2_with fail
  refine (of_any k (a % primeV k + b % primeV k) h0 h2 (by omega) _).mono ?_
  rintro e w3 ⟨rfl, hb3⟩
  go_wp2
  go_ret
  exact ⟨rfl, (hb1.trans hb2).trans hb3⟩

theorem sub_any (k a b : Int) (h0 : 0 ≤ k) (h2 : k ≤ 2) (ha : 0 ≤ a) (hb : 0 ≤ b) (w : World) : Calls Try.prog 114 #[.int .i64 k, .int .u64 a, .int .u64 b] w fun e w' => e = .returned (.int .u64 ((a - b) % primeV k)) ∧ Ext w w' := by
  have hp := primeV_pos k
  have hl := primeV_lt k
  obtain ⟨a0, a1⟩ := mod_bd k a
  obtain ⟨b0, b1⟩ := mod_bd k b
  have hfin : (a % primeV k + primeV k - b % primeV k) % primeV k = (a - b) % primeV k := by
    rw [show a % primeV k + primeV k - b % primeV k = a % primeV k - b % primeV k + primeV k by omega, Int.add_emod_right, ← Int.sub_emod]
  have H := Lib.hid hfin
  clear hfin
  go_enter Try.func114, Try.ntmps114
  go_wp2_with fail
  refine (of_any k a h0 h2 ha _).mono ?_
  rintro e w1 ⟨rfl, hb1⟩
  go_wp2_with fail
  refine (prime_any k h0 h2 _).mono ?_
  rintro e w2 ⟨rfl, hb2⟩
  go_wp2_with fail
  refine (of_any k b h0 h2 hb _).mono ?_
  rintro e w3 ⟨rfl, hb3⟩
  go_wp2_with fail
  refine (of_any k (a % primeV k + primeV k - b % primeV k) h0 h2 (by omega) _).mono ?_
  rintro e w4 ⟨rfl, hb4⟩
  rw [H.out]
  go_wp2
  go_ret
  exact ⟨rfl, ((hb1.trans hb2).trans hb3).trans hb4⟩

theorem mul_any (k a b : Int) (h0 : 0 ≤ k) (h2 : k ≤ 2) (ha : 0 ≤ a) (hb : 0 ≤ b) (w : World) : Calls Try.prog 66 #[.int .i64 k, .int .u64 a, .int .u64 b] w fun e w' => e = .returned (.int .u64 ((a * b) % primeV k)) ∧ Ext w w' := by
  have hp := primeV_pos k
  have hl := primeV_lt k
  obtain ⟨a0, a1⟩ := mod_bd k a
  obtain ⟨b0, b1⟩ := mod_bd k b
  have hfin : (a % primeV k) * (b % primeV k) % primeV k = (a * b) % primeV k := by rw [← Int.mul_emod]
  have H := Lib.hid hfin
  clear hfin
  have m0 : 0 ≤ (a % primeV k) * (b % primeV k) := Int.mul_nonneg a0 b0
  have m1 : (a % primeV k) * (b % primeV k) < 1152921504606846976 := by
    have h1 : (a % primeV k) * (b % primeV k) ≤ 1073741823 * 1073741823 := Int.mul_le_mul (by omega) (by omega) b0 (by omega)
    omega
  generalize hA : a % primeV k = A at *
  generalize hB : b % primeV k = B at *
  have HA := Lib.hid hA
  have HB := Lib.hid hB
  clear hA hB
  generalize hM : A * B = M at *
  have HM := Lib.hid hM
  clear hM
  go_enter Try.func66, Try.ntmps66
  go_wp2_with fail
  refine (of_any k a h0 h2 ha _).mono ?_
  rw [HA.out]
  rintro e w1 ⟨rfl, hb1⟩
  go_wp2_with fail
  refine (of_any k b h0 h2 hb _).mono ?_
  rw [HB.out]
  rintro e w2 ⟨rfl, hb2⟩
  have hw : IntKind.u64.wrap (A * B) = M := by rw [HM.out]; exact IntWalk.u64_in _ ⟨m0, by omega⟩
  go_wp2_with fail
  refine (of_any k M h0 h2 m0 _).mono ?_
  rw [H.out]
  rintro e w3 ⟨rfl, hb3⟩
  clear hw
  go_wp2
  go_ret
  exact ⟨rfl, (hb1.trans hb2).trans hb3⟩


theorem pow_half (A : Int) (m : Nat) : A ^ m = (if m % 2 = 1 then A else 1) * (A * A) ^ (m / 2) := by
  have h : A * A = A ^ 2 := by rw [show (2 : Nat) = 0 + 1 + 1 from rfl, Int.pow_succ, Int.pow_succ, Int.pow_zero, Int.one_mul]
  rw [h, ← NttM.pow_mul']
  rcases Nat.mod_two_eq_zero_or_one m with e | e
  · rw [if_neg (by omega), Int.one_mul]; congr 1; omega
  · rw [if_pos e, show A * A ^ (2 * (m / 2)) = A ^ (2 * (m / 2) + 1) by rw [Int.pow_succ, Int.mul_comm]]; congr 1; omega

def PowRel (k a n : Int) (w : World) (a' : Act) (w' : World) : Prop :=
  Ext w w' ∧ ∃ (o A m : Int) (u8 u9 u10 u11 u12 u13 u14 u15 u16 u17 u18 u19 u20 u21 u22 u23 u24 u25 : Value), a' = { tmps := #[.int .i64 k, .int .u64 A, .int .u64 m, undef, undef, undef, .int .u64 0, .int .u64 o, u8, u9, u10, u11, u12, u13, u14, u15, u16, u17, u18, u19, u20, u21, u22, u23, u24, u25], defers := [] } ∧
    0 ≤ o ∧ 0 ≤ A ∧ 0 ≤ m ∧ m ≤ 18446744073709551615 ∧ (o * A ^ m.toNat) % primeV k = (a ^ n.toNat) % primeV k ∧ o % primeV k = o

theorem pow_step (k A o m : Int) (h0 : 0 ≤ m) (_ : o % primeV k = o) : ((if m.toNat % 2 = 1 then o * A % primeV k else o) * (A * A % primeV k) ^ (m / 2).toNat) % primeV k = (o * A ^ m.toNat) % primeV k := by
  have hm : (m / 2).toNat = m.toNat / 2 := by omega
  rw [hm, pow_half A m.toNat, ← Int.mul_assoc]
  refine NttM.Cg.emod_eq ?_
  refine NttM.Cg.mul ?_ ?_
  · split
    · exact NttM.Cg.mod _ _
    · exact NttM.Cg.of_eq (by simp)
  · exact (NttM.Cg.mod _ _).pow _

theorem and_one_odd {m : Int} (h0 : 0 ≤ m) : m % 2 = 1 ↔ m.toNat % 2 = 1 := by omega

set_option maxHeartbeats 1000000 in
theorem pow_any (k a : Int) (n : Int) (h0 : 0 ≤ k) (h2 : k ≤ 2) (ha : 0 ≤ a) (hn : 0 ≤ n) (hn' : n ≤ 18446744073709551615) (w : World) : Calls Try.prog 107 #[.int .i64 k, .int .u64 a, .int .u64 n] w fun e w' => e = .returned (.int .u64 ((a ^ n.toNat) % primeV k)) ∧ Ext w w' := by
  have hp := primeV_pos k
  have hl := primeV_lt k
  go_enter Try.func107, Try.ntmps107
  go_wp2_with fail
  refine wp_scope_jumps 0 (PowRel k a n w) (fun a' _ => (intOf (a'.tmps.getD 2 undef)).toNat) rfl ?_ ?_
  · go_wp2_with fail
    refine (of_any k 1 h0 h2 (by omega) _).mono ?_
    rintro e w1 ⟨rfl, hb1⟩
    have H1 : Hid ((1 % primeV k) * a ^ n.toNat % primeV k = a ^ n.toNat % primeV k) := by
      show _ = _
      rw [Int.mul_emod, Int.emod_emod_of_dvd _ (Int.dvd_refl _), ← Int.mul_emod, Int.one_mul]
    have H2 : Hid (1 % primeV k % primeV k = 1 % primeV k) := Int.emod_emod_of_dvd _ (Int.dvd_refl _)
    obtain ⟨o0, _⟩ := mod_bd k 1
    generalize 1 % primeV k = o at *
    obtain ⟨A, rfl⟩ : ∃ A, A = a := ⟨_, rfl⟩
    obtain ⟨m, rfl⟩ : ∃ m, m = n := ⟨_, rfl⟩
    have A0 := ha
    have m0 := hn
    have m1 := hn'
    by_cases hz : m = 0
    · subst hz
      go_wp2_with fail
      go_step3
      go_wp2
      simp only [Exit.jump]
      go_ret
      refine ⟨?_, hb1⟩
      have h1 := H1.out
      have h2 := H2.out
      simp at h1
      simp only [Int.toNat_zero, Int.pow_zero, ← h1, h2]
      rfl
    have hz' : (m == 0) = false := by simpa using hz
    go_wp2_with fail
    go_step3
    have hpos : 0 ≤ m / 2 := by omega
    have hsh : m / 2 ≤ 18446744073709551615 := by omega
    have hst := pow_step k A o m m0 H2.out
    rw [H1.out] at hst
    have hA0 := (mod_bd k (A * A)).1
    have hO0 := (mod_bd k (o * A)).1
    by_cases hodd : m % 2 = 1
    · have hand : (bits BinOp.and IntKind.u64 m 1 == 1) = true := by rw [and1_u64 m m0 m1]; simpa using hodd
      rw [if_pos (by omega)] at hst
      have HS := Lib.hid hst
      clear hst hodd
      go_wp2_with fail
      refine (mul_any k o A h0 h2 o0 A0 _).mono ?_
      rintro e w2 ⟨rfl, hb2⟩
      go_wp2_with fail
      refine (mul_any k A A h0 h2 A0 A0 _).mono ?_
      rintro e w3 ⟨rfl, hb3⟩
      go_wp2_with fail
      go_step3
      refine ⟨rfl, (hb1.trans hb2).trans hb3, _, _, _, _, _, _, _, _, _, _, _, _, _, _, _, _, _, _, _, _, _, rfl, hO0, hA0, hpos, hsh, HS.out, Int.emod_emod_of_dvd _ (Int.dvd_refl _)⟩
    · have hand : (bits BinOp.and IntKind.u64 m 1 == 1) = false := by rw [and1_u64 m m0 m1]; simpa using hodd
      rw [if_neg (by omega)] at hst
      have HS := Lib.hid hst
      clear hst hodd
      go_wp2_with fail
      refine (mul_any k A A h0 h2 A0 A0 _).mono ?_
      rintro e w3 ⟨rfl, hb3⟩
      go_wp2_with fail
      go_step3
      refine ⟨rfl, hb1.trans hb3, _, _, _, _, _, _, _, _, _, _, _, _, _, _, _, _, _, _, _, _, _, rfl, o0, hA0, hpos, hsh, HS.out, H2.out⟩

  · rintro a' w1 ⟨hb1, o, A, m, u8, u9, u10, u11, u12, u13, u14, u15, u16, u17, u18, u19, u20, u21, u22, u23, u24, u25, rfl, o0, A0, m0, m1, hrel, hop⟩
    have H1 := Lib.hid hrel
    have H2 := Lib.hid hop
    clear hrel hop
    by_cases hz : m = 0
    · subst hz
      go_wp2
      simp only [Exit.jump]
      go_ret
      refine ⟨?_, hb1⟩
      have h1 := H1.out
      have h2 := H2.out
      simp at h1
      rw [← h1, h2]
      rfl
    have hz' : (m == 0) = false := by simpa using hz
    have hpos : 0 ≤ m / 2 := by omega
    have hsh : m / 2 ≤ 18446744073709551615 := by omega
    have hst := pow_step k A o m m0 H2.out
    rw [H1.out] at hst
    have hA0 := (mod_bd k (A * A)).1
    have hO0 := (mod_bd k (o * A)).1
    by_cases hodd : m % 2 = 1
    · have hand : (bits BinOp.and IntKind.u64 m 1 == 1) = true := by rw [and1_u64 m m0 m1]; simpa using hodd
      rw [if_pos (by omega)] at hst
      have HS := Lib.hid hst
      clear hst hodd
      go_wp2_with fail
      refine (mul_any k o A h0 h2 o0 A0 _).mono ?_
      rintro e w2 ⟨rfl, hb2⟩
      go_wp2_with fail
      refine (mul_any k A A h0 h2 A0 A0 _).mono ?_
      rintro e w3 ⟨rfl, hb3⟩
      go_wp2_with fail
      go_step3
      refine ⟨rfl, ⟨(hb1.trans hb2).trans hb3, _, _, _, _, _, _, _, _, _, _, _, _, _, _, _, _, _, _, _, _, _, rfl, hO0, hA0, hpos, hsh, HS.out, Int.emod_emod_of_dvd _ (Int.dvd_refl _)⟩, by simp [intOf]; omega⟩
    · have hand : (bits BinOp.and IntKind.u64 m 1 == 1) = false := by rw [and1_u64 m m0 m1]; simpa using hodd
      rw [if_neg (by omega)] at hst
      have HS := Lib.hid hst
      clear hst hodd
      go_wp2_with fail
      refine (mul_any k A A h0 h2 A0 A0 _).mono ?_
      rintro e w3 ⟨rfl, hb3⟩
      go_wp2_with fail
      go_step3
      refine ⟨rfl, ⟨hb1.trans hb3, _, _, _, _, _, _, _, _, _, _, _, _, _, _, _, _, _, _, _, _, _, rfl, o0, hA0, hpos, hsh, HS.out, H2.out⟩, by simp [intOf]; omega⟩


theorem inv_any (k a : Int) (h0 : 0 ≤ k) (h2 : k ≤ 2) (ha : 0 ≤ a) (hz : a % primeV k ≠ 0) (w : World) : Calls Try.prog 100 #[.int .i64 k, .int .u64 a] w fun e w' => e = .returned (.tuple #[.int .u64 ((a ^ (primeV k - 2).toNat) % primeV k), .bool true]) ∧ Ext w w' := by
  have hp := primeV_pos k
  have hl := primeV_lt k
  have hg : 2 ≤ primeV k := by unfold primeV; repeat' split <;> omega
  have hz' : (a % primeV k == 0) = false := by simpa using hz
  go_enter Try.func100, Try.ntmps100
  go_wp2_with fail
  refine (of_any k a h0 h2 ha _).mono ?_
  rintro e w1 ⟨rfl, hb1⟩
  go_wp2_with fail
  refine (prime_any k h0 h2 _).mono ?_
  rintro e w2 ⟨rfl, hb2⟩
  go_wp2_with fail
  refine (pow_any k a (primeV k - 2) h0 h2 ha (by omega) (by omega) _).mono ?_
  rintro e w3 ⟨rfl, hb3⟩
  go_wp2
  go_ret2
  exact ⟨rfl, (hb1.trans hb2).trans hb3⟩

theorem root_any (k : Int) (L : Nat) (h0 : 0 ≤ k) (h2 : k ≤ 2) (hL : L ≤ 12) (w : World) : Calls Try.prog 96 #[.int .i64 k, .int .i64 L] w fun e w' => e = .returned (.tuple #[.int .u64 ((3 ^ ((primeV k - 1) / 2 ^ L).toNat) % primeV k), .bool true]) ∧ Ext w w' := by
  have hp := primeV_pos k
  have hl := primeV_lt k
  have hpz : (primeV k == 0) = false := by have : primeV k ≠ 0 := by omega
                                           simpa using this
  have hd0 : 0 ≤ (primeV k - 1) / 2 ^ L := Int.ediv_nonneg (by omega) (by exact_mod_cast Nat.zero_le _)
  have hd1 : (primeV k - 1) / 2 ^ L ≤ primeV k - 1 := Int.ediv_le_self _ (by omega)
  go_enter Try.func96, Try.ntmps96
  go_wp2_with fail
  refine (prime_any k h0 h2 _).mono ?_
  rintro e w1 ⟨rfl, hb1⟩
  go_wp2_with fail
  refine (prime_any k h0 h2 _).mono ?_
  rintro e w2 ⟨rfl, hb2⟩
  go_wp2_with fail
  refine (pow_any k 3 ((primeV k - 1) / 2 ^ L) h0 h2 (by omega) hd0 (by omega) _).mono ?_
  rintro e w3 ⟨rfl, hb3⟩
  go_wp2
  go_ret2
  exact ⟨rfl, (hb1.trans hb2).trans hb3⟩

/-- What ntt.Log tells: the log of n, up to 12. -/
def logV (n : Int) : Option Nat := (List.range 13).find? fun l => n == (2 : Int) ^ l
theorem logV_some {n : Int} {L : Nat} (h : logV n = some L) : L ≤ 12 ∧ n = 2 ^ L := by
  have h1 := List.find?_some h
  have h2 := List.mem_range.1 (List.mem_of_find?_eq_some h)
  exact ⟨Nat.le_of_lt_succ h2, eq_of_beq h1⟩
theorem logV_none {n : Int} (h : logV n = none) : ∀ l, l ≤ 12 → n ≠ 2 ^ l := by
  intro l hl
  have := List.find?_eq_none.1 h l (List.mem_range.2 (by omega))
  exact fun e => this (beq_iff_eq.2 e)
theorem two_pow_inj {a b : Nat} (h : (2 : Int) ^ a = 2 ^ b) : a = b := by
  have : (2 : Nat) ^ a = 2 ^ b := by exact_mod_cast h
  rcases Nat.lt_trichotomy a b with h | h | h
  · have := Nat.pow_lt_pow_right (a := 2) (by omega) h; omega
  · exact h
  · have := Nat.pow_lt_pow_right (a := 2) (by omega) h; omega
theorem two_pow_lt {k : Nat} (h : k < 13) : (0 : Int) < 2 ^ k ∧ (2 : Int) ^ k ≤ 4096 := by
  have h1 : (2 : Nat) ^ k ≤ 4096 := Nat.le_trans (Nat.pow_le_pow_right (by omega) (show k ≤ 12 by omega)) (by decide)
  have h0 : 0 < (2 : Nat) ^ k := Nat.pow_pos (by omega)
  have e : (2 : Int) ^ k = ((2 ^ k : Nat) : Int) := (Int.natCast_pow 2 k).symm
  rw [e]
  omega

def logOut (n : Int) : Value := match logV n with
  | some L => .tuple #[.int .i64 L, .bool true]
  | none => .tuple #[.int .i64 0, .bool false]

theorem log_any (n : Int) (w : World) : Calls Try.prog 85 #[.int .i64 n] w fun e w' => e = .returned (logOut n) ∧ w = w' := by
  go_enter Try.func85, Try.ntmps85
  go_wp2
  go_loop [2, 3, 4, 5] (fun a b c i => ∃ k : Nat, k ≤ 13 ∧ i = .int .i64 k ∧ a = .int .i64 0 ∧ b = .bool false ∧ ∀ j, j < k → n ≠ 2 ^ j) (fun _ _ _ i => 13 - (intOf i).toNat)
  case atStart => exact ⟨0, by omega, rfl, rfl, rfl, fun j hj => by omega⟩
  case round =>
    obtain ⟨k, hk, rfl, rfl, rfl, hno⟩ := hrel
    have HN := Lib.hid hno
    clear hno
    by_cases hlt : k < 13
    · obtain ⟨hp0, hp1⟩ := two_pow_lt hlt
      have hwr : wrap64 (2 ^ k) = 2 ^ k := IntWalk.wrap64_in _ ⟨by omega, by omega⟩
      by_cases he : n = 2 ^ k
      · have he' : (n == 2 ^ k) = true := by simpa using he
        have hfin : Hid (logOut n = .tuple #[.int .i64 k, .bool true]) := by
          show logOut n = _
          unfold logOut
          have : logV n = some k := by
            cases h : logV n with
            | none => exact absurd he (logV_none h k (by omega))
            | some L => obtain ⟨_, h2⟩ := logV_some h; rw [two_pow_inj (h2.symm.trans he)]
          rw [this]
        clear he
        go_wp2
        go_ret2
        exact ⟨ret_eq hfin.out, rfl⟩
      · have he' : (n == 2 ^ k) = false := by simpa using he
        have HE := Lib.hid he
        clear he
        go_wp2
        go_round
        case rel => exact ⟨k + 1, by omega, by go_num, rfl, rfl, fun j hj => by
          rcases Nat.lt_or_ge j k with h | h
          · exact HN.out j h
          · have : j = k := by omega
            rw [this]; exact HE.out⟩
        case measure => simp [intOf]; omega
    · have hfin : Hid (logOut n = .tuple #[.int .i64 0, .bool false]) := by
        show logOut n = _
        unfold logOut
        have : logV n = none := by
          cases h : logV n with
          | none => rfl
          | some L => obtain ⟨h1, h2⟩ := logV_some h; exact absurd h2 (HN.out L (by omega))
        rw [this]
      go_wp2
      go_ret2
      exact ⟨ret_eq hfin.out, rfl⟩

theorem prime_facts (k : Int) (h0 : 0 ≤ k) (h2 : k ≤ 2) (L : Nat) (hL : L ≤ 12) (W : Int) (hW : NttM.Cg (primeV k) W (3 ^ ((primeV k - 1) / 2 ^ L).toNat)) :
    NttM.Rt (primeV k) W L ∧ NttM.Cg (primeV k) (W * W ^ (primeV k - 2).toNat) 1 ∧ NttM.Cg (primeV k) ((((2 ^ L : Nat) : Int) ^ (primeV k - 2).toNat) * ((2 ^ L : Nat) : Int)) 1 := by
  have key : ∀ p : Nat, primeV k = (p : Int) → 4096 ∣ p - 1 → 2 ≤ p → p < 2 ^ 32 → NttM.pm p 32 3 ((p - 1) / 2) = p - 1 → NttM.pm p 32 2 (p - 1) = 1 → NttM.Rt (primeV k) W L ∧ NttM.Cg (primeV k) (W * W ^ (primeV k - 2).toNat) 1 ∧ NttM.Cg (primeV k) ((((2 ^ L : Nat) : Int) ^ (primeV k - 2).toNat) * ((2 ^ L : Nat) : Int)) 1 := by
    intro p e a1 a2 a3 a4 a5
    have h := NttM.facts_of p a1 a2 a3 a4 a5 L hL W
    rw [e] at hW ⊢
    have e1 : (((p : Int) - 1) / 2 ^ L).toNat = (p - 1) / 2 ^ L := by
      have : ((p : Int) - 1) / 2 ^ L = (((p - 1) / 2 ^ L : Nat) : Int) := by
        rw [Int.natCast_ediv, Int.natCast_pow, Int.natCast_sub (by omega)]
        rfl
      rw [this]; rfl
    have e2 : ((p : Int) - 2).toNat = p - 2 := by omega
    rw [e1] at hW
    rw [e2]
    exact h hW
  obtain rfl | rfl | rfl : k = 0 ∨ k = 1 ∨ k = 2 := by omega
  · exact key 998244353 rfl (by decide +kernel) (by decide +kernel) (by decide +kernel) (by decide +kernel) (by decide +kernel)
  · exact key 167772161 rfl (by decide +kernel) (by decide +kernel) (by decide +kernel) (by decide +kernel) (by decide +kernel)
  · exact key 469762049 rfl (by decide +kernel) (by decide +kernel) (by decide +kernel) (by decide +kernel) (by decide +kernel)
end Go.Proofs.Ytmadelflnjhibaa
