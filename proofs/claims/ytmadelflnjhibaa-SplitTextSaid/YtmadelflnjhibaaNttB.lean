import Derived.Test.YtmadelflnjhibaaNtt
import Derived.Deep.DeepFit
namespace Go.Proofs.Ytmadelflnjhibaa
open Go.RowKit

theorem Row.setU {w : World} {T : TypeId} {b n : Nat} {g : Nat → Int} (h : Row w T b n (U g)) (i : Nat) (v : Int) : Row (w.setCell ⟨b, i, none⟩ (.int .u64 v)) T b n (U (fun j => if j = i then v else g j)) :=
  (h.set i _).congr fun j _ => by
    show (if j = i then _ else _) = Value.int .u64 (if j = i then v else g j)
    split <;> rfl

theorem stage_zero {p om : Int} {h : Nat} {G : Nat → Int} (j : Nat) : U G j = U (fun x => if x < 2 * h * 0 then NttM.stageF p om h G x else G x) j := by
  show _ = Value.int .u64 (if j < 2 * h * 0 then _ else _)
  rw [if_neg (by omega)]; rfl

theorem stage_fly {p om : Int} {h a A : Nat} {G : Nat → Int} (hh : 1 ≤ h) (hA : 2 * h * a = A) (j : Nat) :
    flyF p om A h h (fun x => if x < A then NttM.stageF p om h G x else G x) j = (if j < 2 * h * (a + 1) then NttM.stageF p om h G j else G j) := by
  have h1 : 2 * h * (a + 1) = A + 2 * h := by rw [Nat.mul_succ, hA]
  rw [h1]
  have hmod : ∀ q, q < 2 * h → (A + q) % (2 * h) = q := by
    intro q hq
    rw [← hA, Nat.mul_add_mod, Nat.mod_eq_of_lt hq]
  unfold flyF
  by_cases c1 : A ≤ j ∧ j < A + h
  · obtain ⟨q, rfl⟩ : ∃ q, j = A + q := ⟨j - A, by omega⟩
    rw [if_pos c1, if_pos (by omega)]
    unfold NttM.stageF
    rw [hmod q (by omega), if_pos (by omega)]
    simp only []
    rw [if_neg (by omega), if_neg (by omega), show A + q - A = q by omega]
  · rw [if_neg c1]
    by_cases c2 : A + h ≤ j ∧ j < A + h + h
    · obtain ⟨q, rfl⟩ : ∃ q, j = A + q := ⟨j - A, by omega⟩
      rw [if_pos c2, if_pos (by omega)]
      unfold NttM.stageF
      rw [hmod q (by omega), if_neg (by omega)]
      simp only []
      rw [if_neg (by omega), if_neg (by omega), show A + q - A - h = q - h by omega]
    · rw [if_neg c2]
      simp only []
      by_cases c3 : j < A
      · rw [if_pos c3, if_pos (by omega)]
      · rw [if_neg c3, if_neg (by omega)]

theorem stage_nn {p om : Int} {h A : Nat} {G : Nat → Int} (hp : 0 < p) (hG : ∀ j, 0 ≤ G j) (j : Nat) : 0 ≤ (fun x => if x < A then NttM.stageF p om h G x else G x) j := by
  simp only []
  split
  · unfold NttM.stageF
    split <;> exact Int.emod_nonneg _ (by omega)
  · exact hG j

def TrRel1 (p : Int) (L n B : Nat) (l : Nat → Int) (w : World) (c : Value) (wr : World) : Prop :=
  ∃ t, t ≤ n ∧ c = .int .i64 ((t : Nat) : Int) ∧ (∃ g, Row wr 25 B n (U g) ∧ ∀ i, i < t → g (NttM.R L i) = l i % p) ∧ Ext w wr

def TrRel2 (p W : Int) (L n B : Nat) (l : Nat → Int) (w : World) (h : Value) (wr : World) : Prop :=
  ∃ s, s ≤ L ∧ h = .int .i64 ((2 ^ s : Nat) : Int) ∧ Row wr 25 B n (U (NttM.dftS p W L l s)) ∧ Ext w wr

def TrRel3 (p om : Int) (h n B : Nat) (G : Nat → Int) (w : World) (at_ : Value) (wr : World) : Prop :=
  ∃ a, 2 * h * a ≤ n ∧ at_ = .int .i64 ((2 * h * a : Nat) : Int) ∧ Row wr 25 B n (U (fun x => if x < 2 * h * a then NttM.stageF p om h G x else G x)) ∧ Ext w wr

theorem R_step {p : Int} {L n t : Nat} {l g : Nat → Int} (hn : n = 2 ^ L) (ht : t < n) (h : ∀ i, i < t → g (NttM.R L i) = l i % p) :
    ∀ i, i < t + 1 → (fun j => if j = NttM.R L t then l t % p else g j) (NttM.R L i) = l i % p := by
  intro i hi
  simp only []
  by_cases e : i = t
  · subst e; rw [if_pos rfl]
  · have : NttM.R L i ≠ NttM.R L t := fun h => e (NttM.R_inj (by omega) (by omega) h)
    rw [if_neg this]
    exact h i (by omega)

set_option maxRecDepth 100000 in
set_option maxHeartbeats 1000000 in
theorem transform_any (k W : Int) (h0 : 0 ≤ k) (h2 : k ≤ 2) (hW : 0 ≤ W) (L n : Nat) (hL : L ≤ 12) (hn : n = 2 ^ L) (hR : NttM.Rt (primeV k) W L) (b off c : Nat) (l : Nat → Int) (hl : ∀ j, 0 ≤ l j) (w : World) (hr : ∀ j, j < n → w.cell? ⟨b, off + j, none⟩ = some (.int .u64 (l j))) :
    Calls Try.prog 97 #[.int .i64 k, .slice (some ⟨b, off, none⟩) n c, .int .u64 W] w (NewU w n (NttM.T (primeV k) W n l)) := by
  have hp := primeV_pos k
  have hlt := primeV_lt k
  have hn1 : 1 ≤ n := by rw [hn]; exact Nat.pow_pos (by omega)
  have hn2 : n ≤ 4096 := by rw [hn]; exact Nat.le_trans (Nat.pow_le_pow_right (by omega) hL) (by decide)
  have Hn := Lib.hid hn
  have Hr := Lib.hid hr
  have Hl := Lib.hid hl
  have HRt := Lib.hid hR
  clear hn hr hl hR
  obtain ⟨w1, hmk, hrow1, hE1⟩ := make_u64 w n (by omega)
  have HR1 := Lib.hid hrow1
  clear hrow1
  have hBw : w.heap.size ≤ w.heap.size := Nat.le_refl _
  go_enter Try.func97, Try.ntmps97
  go_wp2_with fail
  refine (log_yes n L hL Hn.out _).mono ?_
  rintro e w2 ⟨rfl, rfl⟩
  go_wp2_with fail
  generalize hB : w.heap.size = B at *
  have HB := Lib.hid hB
  clear hB hmk
  go_loopw [11, 12, 28] (fun _ _ c wr => TrRel1 (primeV k) L n B l w c wr) (fun _ _ c _ => n - (intOf c).toNat)
  case atStart => exact ⟨0, Nat.zero_le _, rfl, ⟨fun _ => 0, HR1.out, fun i hi => by omega⟩, hE1⟩
  case round =>
    obtain ⟨t, ht, rfl, ⟨g, hrow, hg⟩, hE⟩ := hrel
    have HRow := Lib.hid hrow
    have Hg := Lib.hid hg
    clear hrow hg
    by_cases hlt : t < n
    · have hc := hE.cell (Hr.out t hlt)
      have hl0 := Hl.out t
      have hr1 : NttM.R L t < n := by rw [Hn.out]; exact NttM.R_lt _ _
      have hst := R_step Hn.out hlt Hg.out
      generalize hlt' : l t = lt at *
      generalize hrr : NttM.R L t = r at *
      have Hst := Lib.hid hst
      have Hlt := Lib.hid hlt'
      have Hrr := Lib.hid hrr
      clear hst hlt' hrr
      go_wp2_with fail
      refine (order_any t L hL (by omega) _).mono ?_
      rw [Hrr.out]
      rintro e w3 ⟨rfl, rfl⟩
      go_wp2_with fail
      refine (of_any k lt h0 h2 hl0 _).mono ?_
      rintro e w4 ⟨rfl, hb4⟩
      have HRow4 := Lib.hid (HRow.out.ext hb4)
      have hcr := HRow4.out.cell hr1
      have hfr := HRow4.out.frozen r
      go_wp2_with fail
      go_roundw
      case rel => exact ⟨t + 1, by omega, by go_num, ⟨fun j => if j = r then lt % primeV k else g j, HRow4.out.setU r _, Hst.out⟩, (hE.trans hb4).setCell (by rw [HB.out]; exact Nat.le_refl _) _⟩
      case measure => simp [intOf]; omega
    · have HR0 : Hid (Row wr 25 B n (U (NttM.dftS (primeV k) W L l 0))) := by
        refine HRow.out.congr fun j hj => ?_
        unfold U
        have h1 := Hg.out (NttM.R L j) (by have := NttM.R_lt L j; have := Hn.out; omega)
        rw [NttM.R_R L j (by have := Hn.out; omega)] at h1
        rw [NttM.dftS_zero, h1]
      clear Hg HRow
      go_wp2_with fail
      clear hlt ht
      go_loopw [13, 14, 15, 16] (fun h _ _ _ wr' => TrRel2 (primeV k) W L n B l w h wr') (fun h _ _ _ _ => n - (intOf h).toNat)
      case atStart => exact ⟨0, Nat.zero_le _, rfl, HR0.out, hE⟩
      case round =>
        clear hE HR0
        obtain ⟨s, hs, rfl, hrow, hE⟩ := hrel
        have HRow := Lib.hid hrow
        clear hrow
        have hn1 : 1 ≤ 2 ^ s := Nat.pow_pos (by omega)
        by_cases hlt : s < L
        · have hne : n = 2 * 2 ^ s * 2 ^ (L - s - 1) := by
            rw [Hn.out, Nat.mul_assoc, ← Nat.pow_add, Nat.mul_comm, ← Nat.pow_succ]; congr 1; omega
          have he1 : 1 ≤ 2 ^ (L - s - 1) := Nat.pow_pos (by omega)
          have hst := fun x => NttM.dft_stage (p := primeV k) (W := W) hlt HRt.out l x
          generalize hG : NttM.dftS (primeV k) W L l s = G at *
          generalize hh : 2 ^ s = hf at *
          generalize hee : 2 ^ (L - s - 1) = e at *
          have hhn : hf < n := by
            have : 2 * hf * 1 ≤ 2 * hf * e := Nat.mul_le_mul_left _ he1
            omega
          have hdiv : n / (2 * hf) = e := by rw [hne]; exact Nat.mul_div_cancel_left _ (by omega)
          have hdv : (n : Int) / (2 * (hf : Int)) = (e : Int) := by rw [← hdiv, Int.natCast_ediv]; rfl
          have hen : e ≤ n := by rw [← hdiv]; exact Nat.div_le_self _ _
          have Hne := Lib.hid hne
          have Hst := Lib.hid hst
          have HG := Lib.hid hG
          have Hh := Lib.hid hh
          have Hee := Lib.hid hee
          have Hdiv := Lib.hid hdiv
          clear hne hst hG hh hee hdiv
          go_wp2_with fail
          refine (pow_any k W e h0 h2 hW (by omega) (by omega) _).mono ?_
          rintro e' w5 ⟨rfl, hb5⟩
          rw [Int.toNat_natCast]
          have om0 := (mod_bd k (W ^ e)).1
          generalize hom : W ^ e % primeV k = om at *
          have Hom := Lib.hid hom
          have HRow5 := Lib.hid (HRow.out.ext hb5)
          have hE5 := hE.trans hb5
          clear hom HRow hE hb5
          go_wp2_with fail
          go_loopw [15, 16] (fun at_ _ wr' => TrRel3 (primeV k) om hf n B G w at_ wr') (fun at_ _ _ => n - (intOf at_).toNat)
          case atStart => exact ⟨0, by omega, by simp, HRow5.out.congr fun j _ => stage_zero j, hE5⟩
          case round =>
            clear HRow5 hE5
            obtain ⟨a, ha, rfl, hrow, hE⟩ := hrel
            by_cases hae : a < e
            · have hA2 : 2 * hf * a + 2 * hf ≤ n := by
                have h5 : 2 * hf * (a + 1) ≤ 2 * hf * e := Nat.mul_le_mul_left _ hae
                rw [Nat.mul_succ] at h5
                have := Hne.out
                omega
              generalize hA : 2 * hf * a = A at *
              have HA := Lib.hid hA
              have HRow := Lib.hid hrow
              clear hA hrow
              have hlt : A < n := by omega
              have HG0 : Hid (∀ j, 0 ≤ (fun x => if x < A then NttM.stageF (primeV k) om hf G x else G x) j) := by
                refine stage_nn hp fun j => ?_
                rw [← HG.out]
                exact Int.emod_nonneg _ (by omega)
              go_wp2_with fail
              have i1 : IntKind.i64.wrap ((A : Int) + (hf : Int)) = (A : Int) + (hf : Int) := IntWalk.i64_in _ ⟨by omega, by omega⟩
              have i2 : IntKind.i64.wrap ((A : Int) + (hf : Int) + (hf : Int)) = (A : Int) + (hf : Int) + (hf : Int) := IntWalk.i64_in _ ⟨by omega, by omega⟩
              have i3 : (0 : Int) ≤ (A : Int) := by omega
              have i4 : (A : Int) ≤ (A : Int) + (hf : Int) := by omega
              have i5 : (A : Int) + (hf : Int) ≤ (n : Int) := by omega
              have i6 : (A : Int) + (hf : Int) ≤ (A : Int) + (hf : Int) + (hf : Int) := by omega
              have i7 : (A : Int) + (hf : Int) + (hf : Int) ≤ (n : Int) := by omega
              have i8 : (0 : Int) ≤ (A : Int) + (hf : Int) := by omega
              have i9 : ((A : Int) + (hf : Int)).toNat = A + hf := by omega
              have i10 : ((A : Int) + (hf : Int) + (hf : Int)).toNat = A + hf + hf := by omega
              have i11 : hf ≠ 0 := by omega
              go_region_held3 (fun _ => True) (trivial) ((go_at_call 109; go_fit (fly_any k om h0 h2 om0 B n A hf _ _ _ HG0.out (by omega) hn2 _ (HRow.out.ext (Ext.refl wr).drew)); rintro e' w6 ⟨rfl, hrow6, hg6⟩))
              clear i1 i2 i3 i4 i5 i6 i7 i8 i9 i10 i11
              have hE6 : Ext w w6 := hE.drew.grown hg6 (by intro q hq; injection hq with hq; have := HB.out; omega)
              have HR6 : Hid (Row w6 25 B n (U (fun x => if x < 2 * hf * (a + 1) then NttM.stageF (primeV k) om hf G x else G x))) :=
                hrow6.congr fun j _ => congrArg (Value.int .u64) (stage_fly hn1 HA.out j)
              have hA3 : 2 * hf * (a + 1) = A + 2 * hf := by rw [Nat.mul_succ, HA.out]
              have HA3 := Lib.hid hA3
              clear hrow6 hg6 hA3
              go_wp2_with fail
              go_roundw
              case rel => exact ⟨a + 1, by rw [HA3.out]; omega, by rw [HA3.out]; go_num, HR6.out, hE6⟩
              case measure => simp [intOf]; omega
            · have hA2 : 2 * hf * a = n := by
                have h5 : 2 * hf * e ≤ 2 * hf * a := Nat.mul_le_mul_left _ (by omega)
                have := Hne.out
                omega
              rw [hA2] at hrow ⊢
              have HR6 : Hid (Row wr 25 B n (U (NttM.dftS (primeV k) W L l (s + 1)))) := by
                refine hrow.congr fun j hj => ?_
                show Value.int .u64 (if j < n then _ else _) = Value.int .u64 _
                rw [if_pos hj, Hst.out]
              have hs2 : hf * 2 = 2 ^ (s + 1) := by rw [Nat.pow_succ, Hh.out]
              have HS2 := Lib.hid hs2
              have hf2 : hf * 2 ≤ 8192 := by omega
              clear hs2 hrow hA2 ha hae
              go_wp2_with fail
              go_roundw
              case rel => exact ⟨s + 1, by omega, by rw [← HS2.out]; go_num, HR6.out, hE⟩
              case measure => simp [intOf]; omega
        · have e : s = L := by omega
          subst e
          have hfin : Hid (Row wr 25 B n (U (NttM.T (primeV k) W n l))) := by
            refine HRow.out.congr fun j hj => ?_
            have hj' : j < 2 ^ s := by rw [← Hn.out]; exact hj
            show Value.int .u64 _ = Value.int .u64 _
            rw [NttM.dftS_last _ _ _ _ _ hj', Hn.out]
            rfl
          have hnn : 2 ^ s = n := Hn.out.symm
          rw [hnn]
          clear hnn HRow
          go_wp2
          go_ret
          exact ⟨B, n, rfl, Nat.le_refl _, by rw [HB.out]; exact Nat.le_refl _, hfin.out, hE⟩
end Go.Proofs.Ytmadelflnjhibaa
