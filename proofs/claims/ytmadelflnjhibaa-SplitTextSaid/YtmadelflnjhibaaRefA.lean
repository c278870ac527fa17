import Derived.Test.YtmadelflnjhibaaBits
namespace Go.Proofs.Ytmadelflnjhibaa
open Go.RowKit
attribute [local go_sem] Cls.val clsNone clsAll

theorem reflog_any (n : Int) (w : World) : Calls Try.prog 105 #[.int .i64 n] w fun e w' => e = .returned (logOut n) ∧ w = w' := by
  go_enter Try.func105, Try.ntmps105
  go_wp2
  go_loop [4, 5] (fun a i => ∃ k : Nat, k ≤ 13 ∧ i = .int .i64 k ∧ a = .int .i64 (2 ^ k) ∧ ∀ j, j < k → n ≠ 2 ^ j) (fun _ i => 13 - (intOf i).toNat)
  case atStart => exact ⟨0, by omega, rfl, rfl, fun j hj => by omega⟩
  case round =>
    obtain ⟨k, hk, rfl, rfl, hno⟩ := hrel
    have HN := Lib.hid hno
    clear hno
    by_cases hlt : k < 13
    · obtain ⟨hp0, hp1⟩ := two_pow_lt hlt
      have hwr : IntKind.i64.wrap (2 * 2 ^ k) = 2 * 2 ^ k := IntWalk.i64_in _ ⟨by omega, by omega⟩
      have hs : (2 : Int) ^ (k + 1) = 2 * 2 ^ k := by rw [Int.pow_succ, Int.mul_comm]
      by_cases he : n = 2 ^ k
      · have hfin : Hid (logOut n = .tuple #[.int .i64 k, .bool true]) := by
          show logOut n = _
          unfold logOut
          have : logV n = some k := by
            cases h : logV n with
            | none => exact absurd he (logV_none h k (by omega))
            | some L => obtain ⟨_, h2⟩ := logV_some h; rw [two_pow_inj (h2.symm.trans he)]
          rw [this]
        have he' : (2 : Int) ^ k = n := he.symm
        have hk12 : (k : Int) ≤ 12 := by omega
        clear hs hwr
        generalize (2 : Int) ^ k = z at *
        subst he'
        clear he
        go_wp2
        go_ret2
        exact ⟨ret_eq hfin.out, rfl⟩
      · have HE : Hid (∀ j, j = k → n ≠ 2 ^ j) := fun j hj => by rw [hj]; exact he
        have Hs := Lib.hid hs
        have he2 : ((2 : Int) ^ k) ≠ n := fun h => he h.symm
        have hk12 : (k : Int) ≤ 12 := by omega
        clear he hs
        generalize (2 : Int) ^ k = z at *
        go_wp2
        go_round
        case rel => exact ⟨k + 1, by omega, by go_num, by rw [Hs.out], fun j hj => by
          rcases Nat.lt_or_ge j k with h | h
          · exact HN.out j h
          · exact HE.out j (by omega)⟩
        case measure => simp [intOf]; omega
    · have hfin : Hid (logOut n = .tuple #[.int .i64 0, .bool false]) := by
        show logOut n = _
        unfold logOut
        have : logV n = none := by
          cases h : logV n with
          | none => rfl
          | some L => obtain ⟨h1, h2⟩ := logV_some h; exact absurd h2 (HN.out L (by omega))
        rw [this]
      have hk12 : ¬ (k : Int) ≤ 12 := by omega
      generalize (2 : Int) ^ k = z at *
      go_wp2
      go_ret2
      exact ⟨ret_eq hfin.out, rfl⟩

theorem refsized_any (m : Nat) (size : Int) (w : World) : Calls Try.prog 90 #[.int .i64 m, .int .i64 size] w fun e w' => e = .returned (.bool (szOk m size)) ∧ w = w' := by
  obtain ⟨lg, is, hlog, hok⟩ := logOut_is size m
  rw [hok]
  have Hlog := Lib.hid hlog
  clear hlog hok
  go_enter Try.func90, Try.ntmps90
  go_wp2_with fail
  refine (reflog_any size _).mono ?_
  rw [Hlog.out]
  rintro e w1 ⟨rfl, rfl⟩
  cases is
  · go_wp2_with fail
    go_ret
    exact ⟨congrArg (fun b => Ending.returned (.bool b)) (by first | rfl | (simp; done) | (simp; omega)), rfl⟩
  · by_cases hm : (m : Int) ≤ size
    · go_wp2_with fail
      go_ret
      exact ⟨congrArg (fun b => Ending.returned (.bool b)) (by first | rfl | (simp; done) | (simp; omega)), rfl⟩
    · go_wp2_with fail
      go_ret
      exact ⟨congrArg (fun b => Ending.returned (.bool b)) (by first | rfl | (simp; done) | (simp; omega)), rfl⟩

theorem refslides_any (m n : Nat) (w : World) : Calls Try.prog 89 #[.int .i64 m, .int .i64 n] w fun e w' => e = .returned (.bool (decide (1 ≤ m) && decide (m ≤ n))) ∧ w = w' := by
  by_cases h1 : (1 : Int) ≤ (m : Int)
  · by_cases h2 : (m : Int) ≤ (n : Int)
    · go_enter Try.func89, Try.ntmps89
      go_wp2_with fail
      go_ret
      exact ⟨by rw [decide_eq_true (show 1 ≤ m by omega), decide_eq_true (show m ≤ n by omega)]; rfl, rfl⟩
    · go_enter Try.func89, Try.ntmps89
      go_wp2_with fail
      go_ret
      exact ⟨by rw [decide_eq_true (show 1 ≤ m by omega), decide_eq_false (show ¬ m ≤ n by omega)]; rfl, rfl⟩
  · go_enter Try.func89, Try.ntmps89
    go_wp2_with fail
    go_ret
    exact ⟨by rw [decide_eq_false (show ¬ 1 ≤ m by omega)]; rfl, rfl⟩

/-- Is a size amiss? -/
theorem refamiss_any (m n : Nat) (size : Int) (w : World) : Calls Try.prog 83 #[.int .i64 m, .int .i64 n, .int .i64 size] w fun e w' => e = .returned (.bool (decide (m ≤ n) && !szOk m size)) ∧ w = w' := by
  obtain ⟨lg, is, hlog, hok⟩ := logOut_is size m
  rw [hok]
  have Hlog := Lib.hid hlog
  clear hlog hok
  by_cases h2 : (m : Int) ≤ (n : Int)
  · rw [show decide (m ≤ n) = true from decide_eq_true (by omega)]
    cases is
    · go_enter Try.func83, Try.ntmps83
      go_wp2_with fail
      refine (reflog_any size _).mono ?_
      rw [Hlog.out]
      rintro e w1 ⟨rfl, rfl⟩
      go_wp2_with fail
      go_ret
      exact ⟨rfl, rfl⟩
    · by_cases hm : size < (m : Int)
      · rw [show decide ((m : Int) ≤ size) = false from decide_eq_false (by omega)]
        go_enter Try.func83, Try.ntmps83
        go_wp2_with fail
        refine (reflog_any size _).mono ?_
        rw [Hlog.out]
        rintro e w1 ⟨rfl, rfl⟩
        go_wp2_with fail
        go_ret
        exact ⟨congrArg (fun b => Ending.returned (.bool b)) (by first | rfl | (simp; done) | (simp; omega)), rfl⟩
      · rw [show decide ((m : Int) ≤ size) = true from decide_eq_true (by omega)]
        go_enter Try.func83, Try.ntmps83
        go_wp2_with fail
        refine (reflog_any size _).mono ?_
        rw [Hlog.out]
        rintro e w1 ⟨rfl, rfl⟩
        go_wp2_with fail
        go_ret
        exact ⟨congrArg (fun b => Ending.returned (.bool b)) (by first | rfl | (simp; done) | (simp; omega)), rfl⟩
  · rw [show decide (m ≤ n) = false from decide_eq_false (by omega)]
    go_enter Try.func83, Try.ntmps83
    go_wp2_with fail
    refine (reflog_any size _).mono ?_
    rw [Hlog.out]
    rintro e w1 ⟨rfl, rfl⟩
    go_wp2_with fail
    go_ret
    exact ⟨rfl, rfl⟩

theorem kcount_div {m n z : Nat} (_ : 1 ≤ m) (_ : m ≤ n) (_ : m ≤ z) : (n - m) / (z - m + 1) + 1 = (n - m + 1) / (z - m + 1) + if (n - m + 1) % (z - m + 1) = 0 then 0 else 1 := by
  generalize n - m = a
  generalize z - m = b
  rw [Nat.add_div (by omega : 0 < b + 1)]
  have h3 := Nat.mod_lt a (by omega : 0 < b + 1)
  have h4 : (a + 1) % (b + 1) = if a % (b + 1) + 1 = b + 1 then 0 else a % (b + 1) + 1 := by
    rw [Nat.add_mod]
    by_cases hb : b = 0
    · subst hb; simp [Nat.mod_one]
    · have e1 : 1 % (b + 1) = 1 := Nat.mod_eq_of_lt (by omega)
      rw [e1]
      split
      · rename_i h; rw [h]; exact Nat.mod_self _
      · exact Nat.mod_eq_of_lt (by omega)
  by_cases hb : b = 0
  · subst hb; simp [Nat.mod_one]
  · have e0 : 1 / (b + 1) = 0 := Nat.div_eq_of_lt (by omega)
    have e1 : 1 % (b + 1) = 1 := Nat.mod_eq_of_lt (by omega)
    rw [e0, e1, h4]
    by_cases e : a % (b + 1) + 1 = b + 1
    · rw [if_pos e, if_pos rfl, if_pos (by omega)]
    · rw [if_neg e, if_neg (by omega), if_neg (by omega)]

set_option maxRecDepth 100000 in
set_option maxHeartbeats 1000000 in
theorem refcount_any (m n : Nat) (size : Int) (h1 : 1 ≤ m) (hn : n ≤ 1099511627776) (hok : m ≤ n → szOk m size = true) (w : World) :
    Calls Try.prog 55 #[.int .i64 m, .int .i64 n, .int .i64 size] w fun e w' => e = .returned (.int .i64 (kcount m n size)) ∧ w = w' := by
  have hsl := refslides_any m n
  by_cases h2 : m ≤ n
  · have hok := hok h2
    obtain ⟨L, hL, hsz, hm⟩ := szOk_true hok
    have hs1 : 2 ^ L ≤ 4096 := Nat.le_trans (Nat.pow_le_pow_right (by omega) hL) (by decide)
    have hk : kcount m n size = ((3 + 6 * ((n - m) / (2 ^ L - m + 1) + 1) : Nat) : Int) := by
      unfold kcount countV
      rw [if_pos h2, hsz, Int.toNat_natCast]
    rw [kcount_div h1 h2 hm] at hk
    have hsd := refsized_any m size
    rw [hok] at hsd
    rw [decide_eq_true h1, decide_eq_true h2] at hsl
    generalize 2 ^ L = z at *
    subst hsz
    have q1 : ((n : Int) - m + 1) / ((z : Int) - m + 1) = (((n - m + 1) / (z - m + 1) : Nat) : Int) := by rw [Int.natCast_ediv]; congr 1 <;> omega
    have q2 : ((n : Int) - m + 1) % ((z : Int) - m + 1) = (((n - m + 1) % (z - m + 1) : Nat) : Int) := by rw [Int.natCast_emod]; congr 1 <;> omega
    have hqb : (n - m + 1) / (z - m + 1) ≤ n - m + 1 := Nat.div_le_self _ _
    generalize (n - m + 1) / (z - m + 1) = q at *
    by_cases hr : (n - m + 1) % (z - m + 1) = 0
    · rw [if_pos hr] at hk
      rw [hr] at q2
      have Hk := Lib.hid hk
      have Hsd := Lib.hid hsd
      have Hsl := Lib.hid hsl
      clear hk hsd hsl hok hr
      go_enter Try.func55, Try.ntmps55
      go_wp2_with fail
      refine (Hsl.out _).mono ?_
      rintro e w1 ⟨rfl, rfl⟩
      go_wp2_with fail
      refine (Hsd.out _).mono ?_
      rintro e w1 ⟨rfl, rfl⟩
      go_wp2_with fail
      go_ret
      refine ⟨congrArg (fun z => Ending.returned (.int .i64 z)) ?_, rfl⟩
      rw [Hk.out]; omega
    · rw [if_neg hr] at hk
      have hr2 : ((n : Int) - m + 1) % ((z : Int) - m + 1) ≠ 0 := by rw [q2]; omega
      clear q2
      have Hk := Lib.hid hk
      have Hsd := Lib.hid hsd
      have Hsl := Lib.hid hsl
      clear hk hsd hsl hok hr
      go_enter Try.func55, Try.ntmps55
      go_wp2_with fail
      refine (Hsl.out _).mono ?_
      rintro e w1 ⟨rfl, rfl⟩
      go_wp2_with fail
      refine (Hsd.out _).mono ?_
      rintro e w1 ⟨rfl, rfl⟩
      go_wp2_with fail
      go_ret
      refine ⟨congrArg (fun z => Ending.returned (.int .i64 z)) ?_, rfl⟩
      rw [Hk.out]; omega
  · have hk : kcount m n size = 0 := by unfold kcount; rw [if_neg h2]
    rw [hk]
    rw [decide_eq_false h2, Bool.and_false] at hsl
    have Hsl := Lib.hid hsl
    clear hk hsl hok
    go_enter Try.func55, Try.ntmps55
    go_wp2_with fail
    refine (Hsl.out _).mono ?_
    rintro e w1 ⟨rfl, rfl⟩
    go_wp2_with fail
    go_ret
    exact ⟨rfl, rfl⟩
end Go.Proofs.Ytmadelflnjhibaa
