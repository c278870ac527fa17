import Derived.Test.YtmadelflnjhibaaNttC
namespace Go.Proofs.Ytmadelflnjhibaa
open Go.RowKit

theorem box_cells (w : World) (A B : Obj) : ((w.alloc A).alloc B).heap[w.heap.size]? = some A ∧ ((w.alloc A).alloc B).heap[w.heap.size + 1]? = some B := ⟨heap_alloc2_old w A B, heap_alloc2_new w A B⟩

theorem crt_mid {p q F x : Int} (hF : NttM.Cg q (p * F) 1) : ((x % q - x % p) % q * F) % q = x / p % q := by
  refine NttM.Cg.emod_eq ?_
  refine (((NttM.Cg.mod _ _).trans ((NttM.Cg.mod _ _).sub (NttM.Cg.refl _ _))).mul (NttM.Cg.refl _ F)).trans ?_
  have h : x - x % p = p * (x / p) := by have := Int.emod_add_mul_ediv x p; omega
  rw [h, show p * (x / p) * F = p * F * (x / p) by grind]
  exact (hF.mul (NttM.Cg.refl _ _)).trans (NttM.Cg.of_eq (Int.one_mul _))

theorem crt_high {p q r F x : Int} (hF : NttM.Cg r (p * q * F) 1) : (((x % r - x % p) % r - (x / p % q) * p % r) % r * F) % r = x / p / q % r := by
  refine NttM.Cg.emod_eq ?_
  have h1 : NttM.Cg r (((x % r - x % p) % r - (x / p % q) * p % r) % r) (x - x % p - (x / p % q) * p) :=
    (NttM.Cg.mod _ _).trans (((NttM.Cg.mod _ _).trans ((NttM.Cg.mod _ _).sub (NttM.Cg.refl _ _))).sub (NttM.Cg.mod _ _))
  refine (h1.mul (NttM.Cg.refl _ F)).trans ?_
  have h2 : x - x % p - (x / p % q) * p = p * q * (x / p / q) := by
    have e1 := Int.emod_add_mul_ediv x p
    have e2 := Int.emod_add_mul_ediv (x / p) q
    grind
  rw [h2, show p * q * (x / p / q) * F = p * q * F * (x / p / q) by grind]
  exact (hF.mul (NttM.Cg.refl _ _)).trans (NttM.Cg.of_eq (Int.one_mul _))

theorem crt_f1 : NttM.Cg (primeV 1) (primeV 0 * (primeV 0 ^ (primeV 1 - 2).toNat % primeV 1)) 1 := by
  refine ((NttM.Cg.refl _ _).mul (NttM.Cg.mod _ _)).trans ?_
  have h := (NttM.pm_cg 167772161 32 998244353 167772160 (by decide)).symm
  have e : NttM.pm 167772161 32 998244353 167772160 = 1 := by decide +kernel
  rw [e] at h
  rw [Int.mul_comm, ← Int.pow_succ]
  exact h

theorem crt_f2 : NttM.Cg (primeV 2) (primeV 0 * primeV 1 * ((primeV 0 * primeV 1 % primeV 2) ^ (primeV 2 - 2).toNat % primeV 2)) 1 := by
  refine ((NttM.Cg.mod _ _).symm.mul (NttM.Cg.mod _ _)).trans ?_
  have h := (NttM.pm_cg 469762049 32 (998244353 * 167772161 % 469762049) 469762048 (by decide)).symm
  have e : NttM.pm 469762049 32 (998244353 * 167772161 % 469762049) 469762048 = 1 := by decide +kernel
  rw [e] at h
  rw [Int.mul_comm, ← Int.pow_succ]
  exact h

theorem crt_nz1 : primeV 0 % primeV 1 ≠ 0 := by decide
theorem crt_nz2 : (primeV 0 * primeV 1 % primeV 2) % primeV 2 ≠ 0 := by decide

theorem crt_top {x : Int} (h0 : 0 ≤ x) (hx : x < 18446744073709551616) : x / primeV 0 / primeV 1 % primeV 2 = x / primeV 0 / primeV 1 := by
  have e0 : primeV 0 = 998244353 := rfl
  have e1 : primeV 1 = 167772161 := rfl
  have e2 : primeV 2 = 469762049 := rfl
  rw [e0, e1, e2]
  omega

set_option maxRecDepth 100000 in
set_option maxHeartbeats 1000000 in
theorem mixed_gen (z0 z1 z2 F1 F2 m1 h : Int) (d0 : 0 ≤ z0) (d1 : 0 ≤ z1) (d2 : 0 ≤ z2) (hm : 0 ≤ m1) (hz0 : z0 % primeV 0 = z0) (hF1 : primeV 0 ^ (primeV 1 - 2).toNat % primeV 1 = F1) (hF2 : (primeV 0 * primeV 1 % primeV 2) ^ (primeV 2 - 2).toNat % primeV 2 = F2)
    (hm1 : ((z1 - z0) % primeV 1 * F1) % primeV 1 = m1) (hh : (((z2 - z0) % primeV 2 - m1 * primeV 0 % primeV 2) % primeV 2 * F2) % primeV 2 = h) (w : World) :
    Calls Try.prog 110 #[.agg #[.int .u64 z0, .int .u64 z1, .int .u64 z2]] w fun e w' => e = .returned (.agg #[.int .u64 z0, .int .u64 m1, .int .u64 h]) ∧ Ext w w' := by
  have p0 := primeV_pos 0
  have p1 := primeV_pos 1
  have f10 : 0 ≤ F1 := by rw [← hF1]; exact (mod_bd 1 _).1
  have f20 : 0 ≤ F2 := by rw [← hF2]; exact (mod_bd 2 _).1
  have Hz0 := Lib.hid hz0
  have HF1 := Lib.hid hF1
  have HF2 := Lib.hid hF2
  have Hm1 := Lib.hid hm1
  have Hh := Lib.hid hh
  clear hz0 hF1 hF2 hm1 hh
  obtain ⟨hA, hB⟩ := box_cells w (.cells #[.int .u64 z0, .int .u64 z1, .int .u64 z2] 114) (.cells #[.int .u64 0, .int .u64 0, .int .u64 0] 114)
  have HA := Lib.hid hA
  have HB := Lib.hid hB
  have HE0 := Lib.hid (((Ext.refl w).alloc (.cells #[.int .u64 z0, .int .u64 z1, .int .u64 z2] 114)).alloc (.cells #[.int .u64 0, .int .u64 0, .int .u64 0] 114))
  clear hA hB
  go_enter Try.func110, Try.ntmps110
  go_wp2_with fail
  refine (prime_any 0 (by omega) (by omega) _).mono ?_
  rintro e w1 ⟨rfl, hb1⟩
  go_wp2_with fail
  refine (prime_any 1 (by omega) (by omega) _).mono ?_
  rintro e w2 ⟨rfl, hb2⟩
  have hE2 := (HE0.out.trans hb1).trans hb2
  have HA2 := Lib.hid ((hb1.trans hb2).heap HA.out)
  have HB2 := Lib.hid ((hb1.trans hb2).heap HB.out)
  have c0 : w2.cell? ⟨w.heap.size, 0, none⟩ = some (.int .u64 z0) := cell_of_row _ _ _ _ _ _ HA2.out
  have c1 : w2.cell? ⟨w.heap.size, 1, none⟩ = some (.int .u64 z1) := cell_of_row _ _ _ _ _ _ HA2.out
  have c2 : w2.cell? ⟨w.heap.size, 2, none⟩ = some (.int .u64 z2) := cell_of_row _ _ _ _ _ _ HA2.out
  generalize hBn : w.heap.size = B at *
  have HBn := Lib.hid hBn
  clear hBn hb1 hb2
  go_wp2_with fail
  refine (of_any 0 z0 (by omega) (by omega) d0 _).mono ?_
  rw [Hz0.out]
  rintro e w3 ⟨rfl, hb3⟩
  go_wp2_with fail
  refine (inv_any 1 (primeV 0) (by omega) (by omega) (by omega) crt_nz1 _).mono ?_
  rw [HF1.out]
  rintro e w4 ⟨rfl, hb4⟩
  have c1' := (hb3.trans hb4).cell c1
  go_wp2_with fail
  refine (sub_any 1 z1 z0 (by omega) (by omega) d1 d0 _).mono ?_
  have s0 := (mod_bd 1 (z1 - z0)).1
  generalize hs1 : (z1 - z0) % primeV 1 = s1 at *
  have Hs1 := Lib.hid hs1
  clear hs1
  rintro e w5 ⟨rfl, hb5⟩
  go_wp2_with fail
  refine (mul_any 1 s1 F1 (by omega) (by omega) s0 f10 _).mono ?_
  rw [Hm1.out]
  rintro e w6 ⟨rfl, hb6⟩
  go_wp2_with fail
  refine (mul_any 2 (primeV 0) (primeV 1) (by omega) (by omega) (by omega) (by omega) _).mono ?_
  have q0 := (mod_bd 2 (primeV 0 * primeV 1)).1
  have hq1 := crt_nz2
  have Hq1 := Lib.hid hq1
  clear hq1
  generalize hpq : primeV 0 * primeV 1 % primeV 2 = pq at *
  have Hpq := Lib.hid hpq
  clear hpq
  rintro e w7 ⟨rfl, hb7⟩
  go_wp2_with fail
  refine (inv_any 2 pq (by omega) (by omega) q0 Hq1.out _).mono ?_
  rw [HF2.out]
  rintro e w8 ⟨rfl, hb8⟩
  have c2' := (((((hb3.trans hb4).trans hb5).trans hb6).trans hb7).trans hb8).cell c2
  go_wp2_with fail
  refine (sub_any 2 z2 z0 (by omega) (by omega) d2 d0 _).mono ?_
  have s20 := (mod_bd 2 (z2 - z0)).1
  generalize hs2 : (z2 - z0) % primeV 2 = s2 at *
  have Hs2 := Lib.hid hs2
  clear hs2
  rintro e w9 ⟨rfl, hb9⟩
  go_wp2_with fail
  refine (mul_any 2 m1 (primeV 0) (by omega) (by omega) hm (by omega) _).mono ?_
  have s30 := (mod_bd 2 (m1 * primeV 0)).1
  generalize hs3 : m1 * primeV 0 % primeV 2 = s3 at *
  have Hs3 := Lib.hid hs3
  clear hs3
  rintro e w10 ⟨rfl, hb10⟩
  go_wp2_with fail
  refine (sub_any 2 s2 s3 (by omega) (by omega) s20 s30 _).mono ?_
  have s40 := (mod_bd 2 (s2 - s3)).1
  generalize hs4 : (s2 - s3) % primeV 2 = s4 at *
  have Hs4 := Lib.hid hs4
  clear hs4
  rintro e w11 ⟨rfl, hb11⟩
  go_wp2_with fail
  refine (mul_any 2 s4 F2 (by omega) (by omega) s40 f20 _).mono ?_
  rw [Hh.out]
  rintro e w12 ⟨rfl, hb12⟩
  have hEb := (((((((((hb3.trans hb4).trans hb5).trans hb6).trans hb7).trans hb8).trans hb9).trans hb10).trans hb11).trans hb12)
  have hB3 := hEb.heap HB2.out
  have hE3 := Lib.hid (hE2.trans hEb)
  clear hb3 hb4 hb5 hb6 hb7 hb8 hb9 hb10 hb11 hb12 hEb
  have e0 : w12.cell? ⟨B + 1, 0, none⟩ = some (.int .u64 0) := cell_of_row _ _ _ _ _ _ hB3
  have e1 : w12.cell? ⟨B + 1, 1, none⟩ = some (.int .u64 0) := cell_of_row _ _ _ _ _ _ hB3
  have e2 : w12.cell? ⟨B + 1, 2, none⟩ = some (.int .u64 0) := cell_of_row _ _ _ _ _ _ hB3
  have g0 : w12.frozen? ⟨B + 1, 0, none⟩ = false := frozen_of_row _ _ _ _ _ hB3
  have g1 : w12.frozen? ⟨B + 1, 1, none⟩ = false := frozen_of_row _ _ _ _ _ hB3
  have g2 : w12.frozen? ⟨B + 1, 2, none⟩ = false := frozen_of_row _ _ _ _ _ hB3
  have HB3 := Lib.hid hB3
  clear hB3
  go_wp2
  refine bodyPost_ret (results_cell_row rfl _ _ (B + 1) 114 #[.int .u64 z0, .int .u64 m1, .int .u64 h] (0, 0) (.array 3 25) rfl ?_ Try.underlying114 rfl (by kernel_rfl)) rfl ⟨rfl, ?_⟩
  · exact heap_setCell_same _ _ 2 _ _ _ (heap_setCell_same _ _ 1 _ _ _ (heap_setCell_same _ _ 0 _ _ _ HB3.out))
  · have hs := HBn.out
    exact ((hE3.out.setCell (by show _ ≤ B + 1; omega) _).setCell (by show _ ≤ B + 1; omega) _).setCell (by show _ ≤ B + 1; omega) _

theorem mixed_any (x : Int) (hx0 : 0 ≤ x) (hx : x < 18446744073709551616) (w : World) :
    Calls Try.prog 110 #[.agg #[.int .u64 (x % primeV 0), .int .u64 (x % primeV 1), .int .u64 (x % primeV 2)]] w fun e w' => e = .returned (.agg #[.int .u64 (x % primeV 0), .int .u64 (x / primeV 0 % primeV 1), .int .u64 (x / primeV 0 / primeV 1)]) ∧ Ext w w' := by
  have H2 := crt_high (x := x) crt_f2
  rw [crt_top hx0 hx] at H2
  exact mixed_gen _ _ _ _ _ _ _ (mod_bd 0 x).1 (mod_bd 1 x).1 (mod_bd 2 x).1 (mod_bd 1 _).1 (Int.emod_emod_of_dvd _ (Int.dvd_refl _)) rfl rfl (crt_mid (x := x) crt_f1) H2 w

theorem join_math {x : Int} (h0 : 0 ≤ x) (hx : x < 18446744073709551616) : x / primeV 0 % primeV 1 + x / primeV 0 / primeV 1 * primeV 1 = x / primeV 0 ∧ x / primeV 0 ≤ (18446744073709551615 - x % primeV 0) / primeV 0 ∧ x % primeV 0 + x / primeV 0 * primeV 0 = x := by
  have p0 := primeV_pos 0
  have e1 := Int.emod_add_mul_ediv (x / primeV 0) (primeV 1)
  have e2 := Int.emod_add_mul_ediv x (primeV 0)
  refine ⟨by rw [Int.mul_comm (x / primeV 0 / primeV 1)]; exact e1, ?_, by rw [Int.mul_comm]; exact e2⟩
  rw [Int.le_ediv_iff_mul_le p0, Int.mul_comm]
  omega

set_option maxHeartbeats 1000000 in
theorem join_any (x : Int) (hx0 : 0 ≤ x) (hx : x < 18446744073709551616) (w : World) :
    Calls Try.prog 101 #[.agg #[.int .u64 (x % primeV 0), .int .u64 (x % primeV 1), .int .u64 (x % primeV 2)]] w fun e w' => e = .returned (.tuple #[.int .u64 x, .bool true]) ∧ Ext w w' := by
  have hmix := mixed_any x hx0 hx
  obtain ⟨j1, j2, j3⟩ := join_math hx0 hx
  have m0 := (mod_bd 0 x).1
  have m0' := (mod_bd 0 x).2
  have p0 := primeV_pos 0
  have p1 := primeV_pos 1
  have p0l := primeV_lt 0
  have t0 : 0 ≤ x / primeV 0 := Int.ediv_nonneg hx0 (by omega)
  have t4 : x / primeV 0 ≤ x := Int.ediv_le_self _ hx0
  have m1 := (mod_bd 1 (x / primeV 0)).1
  have t1 : 0 ≤ x / primeV 0 / primeV 1 := Int.ediv_nonneg t0 (by omega)
  have t2 : 0 ≤ x / primeV 0 / primeV 1 * primeV 1 := Int.mul_nonneg t1 (by omega)
  have t3 : 0 ≤ x / primeV 0 * primeV 0 := Int.mul_nonneg t0 (by omega)
  generalize x % primeV 0 = z0 at *
  generalize x % primeV 1 = z1 at *
  generalize x % primeV 2 = z2 at *
  generalize x / primeV 0 % primeV 1 = d1 at *
  generalize x / primeV 0 / primeV 1 = d2 at *
  generalize x / primeV 0 = hi at *
  generalize hpp : primeV 0 = p at *
  generalize hqq : primeV 1 = q at *
  have k1 : IntKind.u64.wrap (d2 * q) = d2 * q := IntWalk.u64_in _ ⟨t2, by omega⟩
  have k2 : IntKind.u64.wrap (hi * p) = hi * p := IntWalk.u64_in _ ⟨t3, by omega⟩
  have k3 : ¬ ((18446744073709551615 - z0) / p < hi) := by omega
  have Hmix := Lib.hid hmix
  have Hpp := Lib.hid hpp
  have Hqq := Lib.hid hqq
  have J1 := Lib.hid j1
  have J2 := Lib.hid j2
  have J3 := Lib.hid j3
  clear hmix hpp hqq j1 j2 j3
  go_enter Try.func101, Try.ntmps101
  go_wp2_with fail
  refine (Hmix.out _).mono ?_
  rintro e w1 ⟨rfl, hb1⟩
  have hE1 : Ext w w1 := ((Ext.refl w).alloc _).trans hb1
  have hnew := heap_alloc_new w1 (.cells #[.int .u64 z0, .int .u64 d1, .int .u64 d2] 114)
  have Hnew := Lib.hid hnew
  clear hb1 hnew
  go_wp2_with fail
  refine (prime_any 0 (by omega) (by omega) _).mono ?_
  rw [Hpp.out]
  rintro e w2 ⟨rfl, hb2⟩
  go_wp2_with fail
  refine (prime_any 1 (by omega) (by omega) _).mono ?_
  rw [Hqq.out]
  rintro e w3 ⟨rfl, hb3⟩
  have hE3 : Ext w w3 := ((hE1.alloc _).trans hb2).trans hb3
  have hB := (hb2.trans hb3).heap Hnew.out
  generalize w1.heap.size = B at *
  have c0 : w3.cell? ⟨B, 0, none⟩ = some (.int .u64 z0) := cell_of_row _ _ _ _ _ _ hB
  have c1 : w3.cell? ⟨B, 1, none⟩ = some (.int .u64 d1) := cell_of_row _ _ _ _ _ _ hB
  have c2 : w3.cell? ⟨B, 2, none⟩ = some (.int .u64 d2) := cell_of_row _ _ _ _ _ _ hB
  clear hb2 hb3 hB Hnew hE1
  have k4 : IntKind.u64.wrap (d1 + d2 * q) = hi := by rw [J1.out]; exact IntWalk.u64_in _ ⟨t0, by omega⟩
  have k5 : IntKind.u64.wrap (z0 + hi * p) = x := by rw [J3.out]; exact IntWalk.u64_in _ ⟨hx0, by omega⟩
  go_wp2
  go_ret2
  exact ⟨rfl, hE3⟩

theorem one_new (w : World) (v : Value) (T : TypeId) : ∀ (j : Nat) (u : Value), [v][j]? = some u → (w.alloc (.cells #[v] T)).cell? ((⟨w.heap.size, 0, none⟩ : Addr).add j) = some u := by
  intro j u hu
  match j, hu with
  | 0, hu =>
    have e : (⟨w.heap.size, 0, none⟩ : Addr).add 0 = ⟨w.heap.size, 0, none⟩ := rfl
    rw [e, cell_of_row _ _ _ _ _ _ (heap_alloc_new w _)]
    exact hu

def RowsRel (n : Nat) (X : Nat → Int) (w : World) (v c : Value) (wr : World) : Prop :=
  ∃ t : Nat, t ≤ n ∧ c = .int .i64 ((t : Nat) : Int) ∧ wr.ownsRow w.heap.size 25 1 v t ((List.range t).map (U X)) ∧ Ext w wr

def RowsPost (n : Nat) (X : Nat → Int) (w : World) (more : List Value) (e : Ending) (w' : World) : Prop :=
  ∃ v, e = .returned (.tuple (v :: more).toArray) ∧ w'.ownsRow w.heap.size 25 1 v n ((List.range n).map (U X)) ∧ Ext w w'

set_option maxRecDepth 100000 in
set_option maxHeartbeats 1000000 in
theorem rows_any (n : Nat) (hn : n ≤ 4096) (X : Nat → Int) (hX0 : ∀ j, 0 ≤ X j) (hX : ∀ j, X j < 18446744073709551616) (b0 o0 c0 b1 o1 c1 b2 o2 c2 : Nat) (w : World)
    (h0 : ∀ j, j < n → w.cell? ⟨b0, o0 + j, none⟩ = some (.int .u64 (X j % primeV 0))) (h1 : ∀ j, j < n → w.cell? ⟨b1, o1 + j, none⟩ = some (.int .u64 (X j % primeV 1))) (h2 : ∀ j, j < n → w.cell? ⟨b2, o2 + j, none⟩ = some (.int .u64 (X j % primeV 2))) :
    Calls Try.prog 68 #[.slice (some ⟨b0, o0, none⟩) n c0, .slice (some ⟨b1, o1, none⟩) n c1, .slice (some ⟨b2, o2, none⟩) n c2] w (RowsPost n X w [.bool true]) := by
  have H0 := Lib.hid h0
  have H1 := Lib.hid h1
  have H2 := Lib.hid h2
  have HX0 := Lib.hid hX0
  have HX := Lib.hid hX
  clear h0 h1 h2 hX0 hX
  obtain ⟨i0, hi, hz0, hz1, hz2⟩ := info_parts info_u64
  go_enter Try.func68, Try.ntmps68
  go_wp2_with fail
  go_loopw [8, 9, 10, 11, 26] (fun v _ _ _ c wr => RowsRel n X w v c wr) (fun _ _ _ _ c _ => n - (intOf c).toNat)
  case atStart => exact ⟨0, Nat.zero_le _, rfl, World.ownsRow_nil _ _ _ _, Ext.refl _⟩
  case round =>
    obtain ⟨t, ht, rfl, hown, hE⟩ := hrel
    have Hown := Lib.hid hown
    clear hown
    by_cases hlt : t < n
    · have e0 := hE.cell (H0.out t hlt)
      have e1 := hE.cell (H1.out t hlt)
      have e2 := hE.cell (H2.out t hlt)
      have hj := join_any (X t) (HX0.out t) (HX.out t)
      generalize hxt : X t = x at *
      have Hxt := Lib.hid hxt
      have Hj := Lib.hid hj
      clear hxt hj
      generalize x % primeV 0 = z0 at *
      generalize x % primeV 1 = z1 at *
      generalize x % primeV 2 = z2 at *
      go_wp2_with fail
      go_region_held3 (fun W' => Ext wr W' ∧ W'.cell? ⟨b0, o0 + t, none⟩ = some (.int .u64 z0) ∧ W'.cell? ⟨b1, o1 + t, none⟩ = some (.int .u64 z1) ∧ W'.cell? ⟨b2, o2 + t, none⟩ = some (.int .u64 z2)) ((first | exact ⟨(Ext.refl wr).drew, e0, e1, e2⟩ | exact ⟨(Ext.refl wr).drew.trans hb2, hb2.cell e0, hb2.cell e1, hb2.cell e2⟩)) ((go_at_call 101; refine (Hj.out _).mono ?_; rintro e w2 ⟨rfl, hb2⟩))
      have hE2 : Ext w w2 := hE.drew.trans hb2
      have hown2 : w2.ownsRow w.heap.size 25 1 u8 t ((List.range t).map (U X)) := ((Ext.refl wr).drew.trans hb2).owns Hown.out
      have Hown2 := Lib.hid hown2
      clear hown2
      go_wp2_with (at_builtin; refine wpList_append_own _ rfl (.tmp 48) (.tmp 50) 31 rfl w.heap.size 25 i0 (.int .u64 0) 1 8 Try.underlying31 hi hz0 hz1 hz2 rfl (by decide) _ _ _ rfl (Hown2.out.alloc _) ⟨w2.heap.size, 0, none⟩ 1 1 [.int .u64 x] rfl rfl ?c1 ?c2 ?c3 ?c4 ?c5 ?_)
      case c1 => exact one_new _ _ _
      case c2 => intro u hu; rw [List.mem_singleton.1 hu]; rfl
      case c3 => unfold maxLen; omega
      case c4 => omega
      case c5 => have := hE2.size; simp; omega
      intro v' w3 hown3 hgrow _
      have hE3 : Ext w w3 := (hE2.alloc _).grown hgrow (fun q hq => (Hown2.out.lt q hq).1)
      have Hown3 := Lib.hid hown3
      clear hown3 hgrow
      go_wp2
      go_roundw
      case rel => exact ⟨t + 1, by omega, by go_num, by rw [List.range_succ, List.map_append, show List.map (U X) [t] = [Value.int .u64 x] by rw [← Hxt.out]; rfl]; exact Hown3.out, hE3⟩
      case measure => simp [intOf]; omega
    · have e : t = n := by omega
      subst e
      go_wp2
      go_ret2
      exact ⟨_, rfl, Hown.out, hE⟩
end Go.Proofs.Ytmadelflnjhibaa
