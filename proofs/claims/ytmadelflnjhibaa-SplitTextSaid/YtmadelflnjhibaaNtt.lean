import Derived.Test.YtmadelflnjhibaaRes
import Derived.Deep.RegionHeld3
import Derived.Deep.QuietTactic
import Derived.BigQuiet
namespace Go.Proofs.Ytmadelflnjhibaa
open Go.RowKit

/-- The block behind t rounds of ntt.fly. -/
def flyF (p w : Int) (lo half t : Nat) (g : Nat → Int) (j : Nat) : Int :=
  if lo ≤ j ∧ j < lo + t then (g j + g (j + half) * (w ^ (j - lo) % p) % p) % p
  else if lo + half ≤ j ∧ j < lo + half + t then (g (j - half) - g j * (w ^ (j - lo - half) % p) % p) % p
  else g j

theorem flyF_lo {p w : Int} {lo half t : Nat} {g : Nat → Int} (h : t < half) : flyF p w lo half t g (lo + t) = g (lo + t) := by
  unfold flyF; rw [if_neg (by omega), if_neg (by omega)]
theorem flyF_hi {p w : Int} {lo half t : Nat} {g : Nat → Int} (h : t < half) : flyF p w lo half t g (lo + half + t) = g (lo + half + t) := by
  unfold flyF; rw [if_neg (by omega), if_neg (by omega)]
theorem flyF_zero (p w : Int) (lo half : Nat) (g : Nat → Int) (j : Nat) : flyF p w lo half 0 g j = g j := by
  unfold flyF; rw [if_neg (by omega), if_neg (by omega)]
theorem flyF_step {p w : Int} {lo half t : Nat} {g : Nat → Int} (h : t < half) (j : Nat) :
    (if j = lo + half + t then (g (lo + t) - g (lo + half + t) * (w ^ t % p) % p) % p else if j = lo + t then (g (lo + t) + g (lo + half + t) * (w ^ t % p) % p) % p else flyF p w lo half t g j) = flyF p w lo half (t + 1) g j := by
  by_cases h1 : j = lo + half + t
  · subst h1
    rw [if_pos rfl]
    unfold flyF
    rw [if_neg (by omega), if_pos (by omega), show lo + half + t - half = lo + t by omega, show lo + half + t - lo - half = t by omega]
  rw [if_neg h1]
  by_cases h2 : j = lo + t
  · subst h2
    rw [if_pos rfl]
    unfold flyF
    rw [if_pos (by omega), show lo + t + half = lo + half + t by omega, show lo + t - lo = t by omega]
  rw [if_neg h2]
  unfold flyF
  by_cases h3 : lo ≤ j ∧ j < lo + t
  · rw [if_pos h3, if_pos (by omega)]
  · have h3' : ¬(lo ≤ j ∧ j < lo + (t + 1)) := by omega
    rw [if_neg h3, if_neg h3']
    by_cases h4 : lo + half ≤ j ∧ j < lo + half + t
    · have h4' : lo + half ≤ j ∧ j < lo + half + (t + 1) := by omega
      rw [if_pos h4, if_pos h4']
    · have h4' : ¬(lo + half ≤ j ∧ j < lo + half + (t + 1)) := by omega
      rw [if_neg h4, if_neg h4']

def FlyRel (k W : Int) (b n lo half : Nat) (g : Nat → Int) (w : World) (f i : Value) (wr : World) : Prop :=
  ∃ t : Nat, t ≤ half ∧ i = .int .i64 t ∧ f = .int .u64 (W ^ t % primeV k) ∧ Row wr 25 b n (U (flyF (primeV k) W lo half t g)) ∧ w.grownBy wr (some b)

set_option maxHeartbeats 1000000 in
theorem fly_any (k W : Int) (h0 : 0 ≤ k) (h2 : k ≤ 2) (hW : 0 ≤ W) (b n lo half c1 c2 : Nat) (g : Nat → Int) (hg : ∀ j, 0 ≤ g j) (hn : lo + 2 * half ≤ n) (hmax : n ≤ 4096) (w : World) (hb : Row w 25 b n (U g)) :
    Calls Try.prog 109 #[.int .i64 k, .slice (some ⟨b, lo, none⟩) half c1, .slice (some ⟨b, lo + half, none⟩) half c2, .int .u64 W] w fun e w' => e = .returned (.tuple #[]) ∧ Row w' 25 b n (U (flyF (primeV k) W lo half half g)) ∧ w.grownBy w' (some b) := by
  have hp := primeV_pos k
  have hl := primeV_lt k
  go_enter Try.func109, Try.ntmps109
  go_wp2_with fail
  refine (of_any k 1 h0 h2 (by omega) _).mono ?_
  rintro e w1 ⟨rfl, hb1⟩
  go_wp2_with fail
  go_loopw [8, 9, 10, 11, 16] (fun f _ _ _ i wr => FlyRel k W b n lo half g w f i wr) (fun _ _ _ _ i _ => half - (intOf i).toNat)
  case atStart =>
    exact ⟨0, Nat.zero_le _, rfl, by simp, (hb.congr fun j _ => by unfold U; rw [flyF_zero]).ext hb1, hb1.grownBy _⟩
  case round =>
    obtain ⟨t, ht, rfl, rfl, hrow, hgr⟩ := hrel
    by_cases hlt : t < half
    · have hx : wr.cell? ⟨b, lo + t, none⟩ = some (.int .u64 (flyF (primeV k) W lo half t g (lo + t))) := hrow.cell (by omega)
      have hy : wr.cell? ⟨b, lo + half + t, none⟩ = some (.int .u64 (flyF (primeV k) W lo half t g (lo + half + t))) := hrow.cell (by omega)
      have hf0 := (mod_bd k (W ^ t)).1
      have hx0 : 0 ≤ flyF (primeV k) W lo half t g (lo + t) := by rw [flyF_lo hlt]; exact hg _
      have hy0 : 0 ≤ flyF (primeV k) W lo half t g (lo + half + t) := by rw [flyF_hi hlt]; exact hg _
      generalize hX : flyF (primeV k) W lo half t g (lo + t) = X at *
      generalize hY : flyF (primeV k) W lo half t g (lo + half + t) = Y at *
      generalize hF : W ^ t % primeV k = F at *
      have HX := Lib.hid hX
      have HY := Lib.hid hY
      have HF := Lib.hid hF
      have HG := Lib.hid hgr
      have HR : Hid (Row wr 25 b n (U (flyF (primeV k) W lo half t g))) := hrow
      clear hX hY hF hgr hrow
      have hE := Ext.refl wr
      go_wp2_with fail
      go_region_held3 (fun W' => Ext wr W' ∧ W'.cell? ⟨b, lo + t, none⟩ = some (.int .u64 X) ∧ W'.cell? ⟨b, lo + half + t, none⟩ = some (.int .u64 Y)) ((first | exact ⟨(Ext.refl wr).drew, hx, hy⟩ | exact ⟨hb2, hb2.cell hx, hb2.cell hy⟩ | exact ⟨(Ext.refl wr).drew.trans hb2, hb2.cell hx, hb2.cell hy⟩)) ((go_at_call 66; refine (mul_any k Y F h0 h2 hy0 hf0 _).mono ?_; rintro e w2 ⟨rfl, hb2⟩))
      have hE2 : Ext wr w2 := (Ext.refl wr).drew.trans hb2
      have hm0 := (mod_bd k (Y * F)).1
      generalize hM : Y * F % primeV k = M at *
      have HM := Lib.hid hM
      clear hM
      have HR2 := Lib.hid (HR.out.ext hE2)
      have hx2 := hE2.cell hx
      have hy2 := hE2.cell hy
      go_wp2_with fail
      refine (add_any k X M h0 h2 hx0 hm0 _).mono ?_
      rintro e w3 ⟨rfl, hb3⟩
      go_wp2_with fail
      refine (sub_any k X M h0 h2 hx0 hm0 _).mono ?_
      rintro e w4 ⟨rfl, hb4⟩
      have HR4 := Lib.hid (HR2.out.ext (hb3.trans hb4))
      have hx4 := (hb3.trans hb4).cell hx2
      have hy4 := (hb3.trans hb4).cell hy2
      have fx4 := HR4.out.frozen (lo + t)
      have fy4 := HR4.out.frozen (lo + half + t)
      have hW1 : Hid (F * W % primeV k = W ^ (t + 1) % primeV k) := by
        show _ = _
        rw [← HF.out, Int.pow_succ, Int.mul_emod, Int.emod_emod_of_dvd _ (Int.dvd_refl _), ← Int.mul_emod]
      have hR5 : Hid (Row ((w4.setCell ⟨b, lo + t, none⟩ (.int .u64 ((X + M) % primeV k))).setCell ⟨b, lo + half + t, none⟩ (.int .u64 ((X - M) % primeV k))) 25 b n (U (flyF (primeV k) W lo half (t + 1) g))) := by
        refine ((HR4.out.set (lo + t) _).set (lo + half + t) _).congr fun j hj => ?_
        unfold U
        rw [← flyF_step hlt j, ← HM.out, ← HF.out, ← HX.out, ← HY.out, flyF_lo hlt, flyF_hi hlt]
        split
        · rfl
        split <;> rfl
      have hG5 : Hid (w.grownBy ((w4.setCell ⟨b, lo + t, none⟩ (.int .u64 ((X + M) % primeV k))).setCell ⟨b, lo + half + t, none⟩ (.int .u64 ((X - M) % primeV k))) (some b)) :=
        grownBy_trans (grownBy_trans HG.out ((hE2.trans (hb3.trans hb4)).grownBy _)) (grownBy_trans (grownBy_setCell _ _ _ _) (grownBy_setCell _ _ _ _))
      go_wp2_with fail
      refine (mul_any k F W h0 h2 hf0 hW _).mono ?_
      rintro e w5 ⟨rfl, hb5⟩
      go_wp2_with fail
      go_roundw
      case rel => exact ⟨t + 1, by omega, by go_num, by rw [hW1.out], hR5.out.ext hb5, grownBy_trans hG5.out (hb5.grownBy _)⟩
      case measure => simp [intOf]; omega
    · have e : t = half := by omega
      subst e
      have HG := Lib.hid hgr
      have HR := Lib.hid hrow
      clear hgr hrow
      go_wp2
      go_end0
      exact ⟨rfl, HR.out, HG.out⟩

theorem ofInt_i64 (a : Nat) (ha : a < 9223372036854775808) : (BitVec.ofInt 64 (a : Int)).toNat = a := by
  rw [BitVec.ofInt_natCast, BitVec.toNat_ofNat]; exact Nat.mod_eq_of_lt (by omega)
theorem and1_i64 (m : Nat) (h : m < 9223372036854775808) : bits BinOp.and IntKind.i64 (m : Int) 1 = ((m % 2 : Nat) : Int) := by
  show IntKind.i64.wrap ((BitVec.ofInt 64 (m : Int) &&& BitVec.ofInt 64 ((1 : Nat) : Int)).toNat : Int) = _
  rw [BitVec.toNat_and, ofInt_i64 m h, ofInt_i64 1 (by decide), nat_mask1, IntKind.wrap_i64]
  omega
theorem or1_i64 (a b : Nat) (h : a < 4611686018427387904) (hb : b < 2) : bits BinOp.or IntKind.i64 ((a : Int) * 2) (b : Int) = ((2 * a + b : Nat) : Int) := by
  have e : (a : Int) * 2 = ((a * 2 : Nat) : Int) := by omega
  have hj : (a * 2) ||| b = a * 2 + b := nat_join 1 _ _ (by omega) (by omega)
  rw [e]
  show IntKind.i64.wrap ((BitVec.ofInt 64 ((a * 2 : Nat) : Int) ||| BitVec.ofInt 64 (b : Int)).toNat : Int) = _
  rw [BitVec.toNat_or, ofInt_i64 _ (by omega), ofInt_i64 b (by omega), hj, IntKind.wrap_i64]
  omega

def OrdRel (L i0 : Nat) (i o c : Value) : Prop :=
  ∃ (t ii oo : Nat), t ≤ L ∧ c = .int .i64 t ∧ i = .int .i64 ii ∧ o = .int .i64 oo ∧ oo < 2 ^ t ∧ ii ≤ i0 ∧ NttM.rv (L - t) oo ii = NttM.rv L 0 i0

set_option maxHeartbeats 1000000 in
theorem order_any (i0 L : Nat) (hL : L ≤ 12) (hi : i0 < 4611686018427387904) (w : World) : Calls Try.prog 108 #[.int .i64 i0, .int .i64 L] w fun e w' => e = .returned (.int .i64 (NttM.R L i0)) ∧ w = w' := by
  go_enter Try.func108, Try.ntmps108
  go_wp2
  go_loop [0, 5, 7] (fun i o c => OrdRel L i0 i o c) (fun _ _ c => L - (intOf c).toNat)
  case atStart => exact ⟨0, i0, 0, Nat.zero_le _, rfl, rfl, rfl, by simp, Nat.le_refl _, rfl⟩
  case round =>
    obtain ⟨t, ii, oo, ht, rfl, rfl, rfl, hoo, hii, hrv⟩ := hrel
    have HR := Lib.hid hrv
    have HO := Lib.hid hoo
    have h4 : oo < 4096 := by
      have : 2 ^ t ≤ 2 ^ 12 := Nat.pow_le_pow_right (by omega) (by omega)
      omega
    clear hrv hoo
    by_cases hlt : t < L
    · have ha := and1_i64 ii (by omega)
      have ho : Hid (bits BinOp.or IntKind.i64 ((oo : Int) * 2) ((ii : Int) % 2) = ((2 * oo + ii % 2 : Nat) : Int)) := by
        have := or1_i64 oo (ii % 2) (by omega) (by omega)
        rw [Int.natCast_emod ii] at this
        exact this
      go_wp2
      go_round
      case rel => exact ⟨t + 1, ii / 2, 2 * oo + ii % 2, by omega, by go_num, by go_num, by rw [ho.out], by have := HO.out; rw [Nat.pow_succ]; omega, by omega, by
        rw [← HR.out]
        obtain ⟨d, hd⟩ : ∃ d, L - t = d + 1 := ⟨L - t - 1, by omega⟩
        rw [hd, show L - (t + 1) = d by omega]
        rfl⟩
      case measure => simp [intOf]; omega
    · have hfin : Hid (oo = NttM.R L i0) := by
        show _ = _
        have h1 := HR.out
        rw [show L - t = 0 by omega, NttM.rv_R L] at h1
        simpa [NttM.rv] using h1
      go_wp2
      go_ret
      exact ⟨by rw [← hfin.out]; rfl, rfl⟩

theorem log_yes (n L : Nat) (hL : L ≤ 12) (hn : n = 2 ^ L) (w : World) : Calls Try.prog 85 #[.int .i64 n] w fun e w' => e = .returned (.tuple #[.int .i64 L, .bool true]) ∧ w = w' := by
  refine (log_any n w).mono fun e w' ⟨h1, h2⟩ => ⟨?_, h2⟩
  rw [h1]
  have : logV (n : Int) = some L := by
    have hn' : (n : Int) = 2 ^ L := by rw [hn, Int.natCast_pow]; rfl
    cases h : logV n with
    | none => exact absurd hn' (logV_none h L hL)
    | some M => obtain ⟨_, h2⟩ := logV_some h; rw [two_pow_inj (h2.symm.trans hn')]
  unfold logOut
  rw [this]

/-- What a call hands back: a new slice of n numbers. -/
def NewU (w0 : World) (n : Nat) (g : Nat → Int) (e : Ending) (w' : World) : Prop :=
  ∃ B c, e = .returned (.slice (some ⟨B, 0, none⟩) n c) ∧ n ≤ c ∧ w0.heap.size ≤ B ∧ Row w' 25 B n (U g) ∧ Ext w0 w'

end Go.Proofs.Ytmadelflnjhibaa
