import Derived.Test.YtmadelflnjhibaaCorr
namespace Go.Proofs.Ytmadelflnjhibaa
open Go.RowKit Go.Shelf
attribute [local go_sem] Oper.semAt_some

theorem ne_some {a b : Nat} (h : a ≠ b) : some a ≠ some b := fun e => h (by injection e)

theorem sm_nn {n : Nat} {f : Nat → Int} (h : ∀ i, i < n → 0 ≤ f i) : 0 ≤ NttM.sm n f := by
  induction n with
  | zero => exact Int.le_refl _
  | succ n ih => rw [NttM.sm_succ]; have := ih (fun i hi => h i (by omega)); have := h n (by omega); omega
theorem sm_le {n : Nat} {f : Nat → Int} {c : Int} (h : ∀ i, i < n → f i ≤ c) : NttM.sm n f ≤ n * c := by
  induction n with
  | zero => simp [NttM.sm]
  | succ n ih =>
    rw [NttM.sm_succ]
    have h1 := ih (fun i hi => h i (by omega))
    have h2 := h n (by omega)
    have h3 : ((n + 1 : Nat) : Int) * c = n * c + c := by rw [Int.natCast_add, Int.add_mul]; simp
    omega

/-- How many sums there are behind so many blocks. -/
def doneV (m n size : Nat) (pre : List (Nat × Nat)) : Nat := min ((size - m + 1) * pre.length) (n - m + 1)

/-- What holds between two blocks. -/
def CorrI (m n size Bo : Nat) (P T : Nat → Int) (W0 : World) (pre : List (Nat × Nat)) (W : World) : Prop :=
  W0.grownBy W (some Bo) ∧ ∃ v, W.heap[Bo]? = some (.cells #[v] 31 (0, 0)) ∧ W.ownsRow W0.heap.size 25 1 v (doneV m n size pre) ((List.range (doneV m n size pre)).map (U (slideV P T m)))

/-- What a block's sums are, by the transforms, modulo a prime. -/
def resV (k : Int) (L m size : Nat) (P tl : Nat → Int) (i : Nat) : Int :=
  NttM.T (primeV k) (backV k L) size (fun x => NttM.T (primeV k) (rootV k L) size tl x * NttM.T (primeV k) (rootV k L) size (turnV m size P) x % primeV k) i * manyV k size % primeV k

theorem res_is (k : Int) (h0 : 0 ≤ k) (h2 : k ≤ 2) (L m size : Nat) (hL : L ≤ 12) (hs : size = 2 ^ L) (P tl : Nat → Int) (i : Nat) (hm : 0 < m) (hi : i + m ≤ size) :
    resV k L m size P tl i = NttM.sm m (fun u => P u * tl (i + u)) % primeV k := by
  obtain ⟨f1, f2, f3, _, _, _, _, _, _⟩ := root_facts k h0 h2 L size hL hs
  subst hs
  exact NttM.corr (N := manyV k (2 ^ L)) f1 f2 f3 P tl hi hm

def BodyRel (m L size many : Nat) (P tl : Nat → Int) (Br : Nat) (W : World) (c : Value) (wr : World) : Prop :=
  ∃ (k : Nat) (R cc : Nat → Nat), k ≤ 3 ∧ c = .int .i64 k ∧ Ext W wr ∧ Three wr Br many k R cc ∧ ∀ j, j < k → Br < R j ∧ Row wr 25 (R j) size (U (resV j L m size P tl))

def MulRel (k : Nat) (n X2 : Nat) (g s : Nat → Int) (W : World) (c : Value) (wr : World) : Prop :=
  ∃ t : Nat, t ≤ n ∧ c = .int .i64 t ∧ W.grownBy wr (some X2) ∧ Row wr 25 X2 n (U (fun i => if i < t then g i * s i % primeV k else g i))

set_option maxRecDepth 100000 in
set_option maxHeartbeats 4000000 in
theorem corr_body (m n L size : Nat) (h1 : 1 ≤ m) (h2 : m ≤ n) (hL : L ≤ 12) (hsz : size = 2 ^ L) (h3 : m ≤ size) (hs1 : size ≤ 4096) (hn : n ≤ 1099511627776) (bt ot ct : Nat) (hct : n ≤ ct) (P T : Nat → Int) (X Y : Int) (hX : 0 ≤ X) (_ : 0 ≤ Y) (hP0 : ∀ j, 0 ≤ P j) (hP : ∀ j, P j ≤ X) (hT0 : ∀ j, 0 ≤ T j) (hT : ∀ j, T j ≤ Y)
    (hbd : (m : Int) * (X * Y) < 18446744073709551616) (W0 : World) (Bt Bz Bn Bs Bo B1 B2 : Nat) (R cc : Nat → Nat)
    (cT : W0.cell? ⟨Bt, 0, none⟩ = some (.slice (some ⟨bt, ot, none⟩) n ct)) (cS : W0.cell? ⟨Bz, 0, none⟩ = some (.int .i64 size)) (cN : W0.cell? ⟨Bn, 0, none⟩ = some (.int .i64 n))
    (hTh : Three W0 Bs size 3 R cc) (hRows : ∀ j, j < 3 → R j ≠ Bo ∧ Row W0 25 (R j) size (U (NttM.T (primeV j) (rootV j L) size (turnV m size P))))
    (ht : ∀ j, j < n → W0.cell? ⟨bt, ot + j, none⟩ = some (.int .u64 (T j))) (eT : Bt ≠ Bo) (eZ : Bz ≠ Bo) (eN : Bn ≠ Bo) (eS : Bs ≠ Bo) (eb : bt ≠ Bo) (hBo : Bo < W0.heap.size) (hB1 : B1 < W0.heap.size) (hB2 : B2 < W0.heap.size) (e1 : B1 ≠ Bo) (e2 : B2 ≠ Bo)
    (l : Nat) (pre : List (Nat × Nat)) (x : Nat × Nat) (W : World) (hI : CorrI m n size Bo P T W0 pre W) (hZ : BlkZ (n - m + 1) (size - m + 1) pre x W) (s0 s1 s2 s3 s6 s7 s8 s9 s11 s13 s17 s18 s19 s20 s21 s22 s23 s24 s25 s26 s27 s28 s29 s30 s31 s32 s33 s34 s35 s36 s37 s38 s39 s40 s41 s42 s43 s44 s45 s46 s47 s48 s49 s50 s51 s52 s53 s54 s55 s56 s57 s58 s59 s60 s61 s62 s63 s64 s65 s66 s67 s68 s69 s70 s71 s72 s73 s74 s75 s76 s77 s78 s79 s80 s81 s82 s83 s84 s85 s86 s87 s88 s89 s90 s91 s92 s93 s94 s95 s96 s97 s98 s99 s100 s101 s102 s103 s104 s105 s106 s107 s108 s109 s110 s111 s112 s113 s114 s115 s116 s117 s118 s119 s120 s121 s122 s123 s124 s125 s126 s127 s128 s129 s130 s131 s132 s133 s134 s135 s136 s137 s138 : Value) :
    (bodyOf Try.f30).wpIn (Fence.wide.inRound l) 0 Try.prog (roundEnds fun W' => W.heap.size ≤ W'.heap.size ∧ (∀ k o, W0.heap.size ≤ k → W.heap[k]? = some o → o.isCells = false → W'.heap[k]? = some o) ∧ (∀ k, (k = B1 ∨ k = B2) → k < W.heap.size → W'.heap[k]? = W.heap[k]?) ∧ CorrI m n size Bo P T W0 (pre ++ [x]) W')
      { tmps := #[s0, s1, s2, s3, .pointer (some ⟨Bt, 0, none⟩), .pointer (some ⟨Bz, 0, none⟩), s6, s7, s8, s9, .pointer (some ⟨Bn, 0, none⟩), s11, .pointer (some ⟨Bs, 0, none⟩), s13, .pointer (some ⟨Bo, 0, none⟩), .int .i64 ((x.1 : Nat) : Int), .int .i64 ((x.2 : Nat) : Int), s17, s18, s19, s20, s21, s22, s23, s24, s25, s26, s27, s28, s29, s30, s31, s32, s33, s34, s35, s36, s37, s38, s39, s40, s41, s42, s43, s44, s45, s46, s47, s48, s49, s50, s51, s52, s53, s54, s55, s56, s57, s58, s59, s60, s61, s62, s63, s64, s65, s66, s67, s68, s69, s70, s71, s72, s73, s74, s75, s76, s77, s78, s79, s80, s81, s82, s83, s84, s85, s86, s87, s88, s89, s90, s91, s92, s93, s94, s95, s96, s97, s98, s99, s100, s101, s102, s103, s104, s105, s106, s107, s108, s109, s110, s111, s112, s113, s114, s115, s116, s117, s118, s119, s120, s121, s122, s123, s124, s125, s126, s127, s128, s129, s130, s131, s132, s133, s134, s135, s136, s137, s138], defers := [] } W := by
  obtain ⟨hgr, v0, hBv, hown⟩ := hI
  obtain ⟨z1, z2, z3⟩ := hZ
  obtain ⟨at', many⟩ := x
  simp only [] at z1 z2 z3
  have cTw : W.cell? ⟨Bt, 0, none⟩ = some (.slice (some ⟨bt, ot, none⟩) n ct) := hgr.cell cT (fun h => eT (by injection h))
  have cSw : W.cell? ⟨Bz, 0, none⟩ = some (.int .i64 size) := hgr.cell cS (fun h => eZ (by injection h))
  have cNw : W.cell? ⟨Bn, 0, none⟩ = some (.int .i64 n) := hgr.cell cN (fun h => eN (by injection h))
  have hThw : Hid (Three W Bs size 3 R cc) := by
    obtain ⟨cells, a, b⟩ := hTh
    exact ⟨cells, (hgr.block Bs (Array.getElem?_eq_some_iff.1 a).1 (fun h => eS (by injection h))).trans a, b⟩
  have hRw : Hid (∀ j, j < 3 → Row W 25 (R j) size (U (NttM.T (primeV j) (rootV j L) size (turnV m size P)))) := fun j hj => (hRows j hj).2.kept hgr (fun h => (hRows j hj).1 (by injection h))
  have htw : Hid (∀ j, j < n → W.cell? ⟨bt, ot + j, none⟩ = some (.int .u64 (T j))) := fun j hj => hgr.cell (ht j hj) (fun h => eb (by injection h))
  have hm1 : 1 ≤ many := by omega
  have hm2 : many ≤ size - m + 1 := by omega
  have hm3 : at' + many ≤ n - m + 1 := by omega
  have HP0 := Lib.hid hP0
  have HP := Lib.hid hP
  have HT0 := Lib.hid hT0
  have HT := Lib.hid hT
  have Hbd := Lib.hid hbd
  have Hsz := Lib.hid hsz
  have Hgr := Lib.hid hgr
  have HBv := Lib.hid hBv
  have Hown := Lib.hid hown
  have Z1 := Lib.hid z1
  have Z3 := Lib.hid z3
  have Ht := Lib.hid ht
  have HTh := Lib.hid hTh
  have HRows := Lib.hid hRows
  clear hP0 hP hT0 hT hbd hsz hgr hBv hown z1 z3 ht hTh hRows cT cS cN
  dsimp only [bodyOf, findBody, Try.f30, Option.bind, Option.or, Option.getD]
  have hThr : Hid (Three (W.alloc (.cells #[.slice none 0 0, .slice none 0 0, .slice none 0 0] 78)) W.heap.size many 0 (fun _ => 0) (fun _ => 0)) :=
    ⟨_, heap_alloc_new _ _, fun j hj => by
      match j, hj with
      | 0, _ => rfl
      | 1, _ => rfl
      | 2, _ => rfl⟩
  have HEa := Lib.hid ((Ext.refl W).alloc (.cells #[.slice none 0 0, .slice none 0 0, .slice none 0 0] 78))
  gi_wp2_with fail
  generalize hBr : W.heap.size = Br at *
  have HBr := Lib.hid hBr
  clear hBr
  gi_loopw [18, 66] (fun _ c wr => BodyRel m L size many P (extV (min n (at' + size) - at') (fun j => T (at' + j))) Br W c wr) (fun _ c _ => 3 - (intOf c).toNat)
  case atStart => exact ⟨0, _, _, Nat.zero_le _, rfl, HEa.out, hThr.out, fun j hj => by omega⟩
  case round =>
    clear hThr HEa
    obtain ⟨wo, rfl⟩ : ∃ wo : World, wo = wr := ⟨_, rfl⟩
    obtain ⟨k, R', cc', hk, rfl, hE, hTh', hRes⟩ := hrel
    have HTh' := Lib.hid hTh'
    have HRes := Lib.hid hRes
    clear hTh' hRes
    by_cases hlt : k < 3
    · have cTr := hE.cell cTw
      have cSr := hE.cell cSw
      have cNr := hE.cell cNw
      have hat : at' < n := by omega
      obtain ⟨mn, hmn⟩ : ∃ mn, mn = min n (at' + size) := ⟨_, rfl⟩
      have hmn1 : at' < mn := by omega
      have hmn2 : mn ≤ n := by omega
      have hmn3 : mn - at' ≤ size := by omega
      have hmnI : (mn : Int) = if (n : Int) < (at' : Int) + (size : Int) then (n : Int) else (at' : Int) + (size : Int) := by split <;> omega
      have Hmn := Lib.hid hmn
      have HmnI := Lib.hid hmnI
      clear hmn hmnI
      gi_wp2_with fail
      refine wpIn_region_perm (S := fun W' => Ext wo W' ∧ W'.cell? ⟨Bt, 0, none⟩ = some (.slice (some ⟨bt, ot, none⟩) n ct) ∧ W'.cell? ⟨Bz, 0, none⟩ = some (.int .i64 size) ∧ W'.cell? ⟨Bn, 0, none⟩ = some (.int .i64 n)) [(0, true), (1, true), (2, true), (3, true), (4, true), (5, true), (6, true), (7, true), (8, true), (9, true), (10, false), (11, false), (12, true), (13, true), (14, true), (15, true), (16, true)] (by kernel_rfl) rfl (by kernel_rfl) (by kernel_rfl) (by kernel_rfl) (fun _ _ _ h => h) (fun _ _ h => h) ⟨(Ext.refl wo).drew, cTr, cSr, cNr⟩ ?_
      have i1 : IntKind.i64.wrap ((at' : Int) + (size : Int)) = (at' : Int) + (size : Int) := IntWalk.i64_in _ ⟨by omega, by omega⟩
      refine wpPerm_take rfl rfl (.int .i64 k) (fun W' hS => ?_) (fun K hK => ?_)
      · obtain ⟨s0, s1, s2, s3⟩ := hS; go_simp
      go_simp
      refine hK _ _ ?_
      clear hK K
      refine wpPerm_take rfl rfl (.slice (some ⟨bt, ot, none⟩) n ct) (fun W' hS => ?_) (fun K hK => ?_)
      · obtain ⟨s0, s1, s2, s3⟩ := hS; go_simp
      go_simp
      refine hK _ _ ?_
      clear hK K
      refine wpPerm_take rfl rfl ((.int .i64 (at' : Int))) (fun W' hS => ?_) (fun K hK => ?_)
      · obtain ⟨s0, s1, s2, s3⟩ := hS; go_simp
      go_simp
      refine hK _ _ ?_
      clear hK K
      refine wpPerm_take rfl rfl (.int .i64 (n : Int)) (fun W' hS => ?_) (fun K hK => ?_)
      · obtain ⟨s0, s1, s2, s3⟩ := hS; go_simp
      go_simp
      refine hK _ _ ?_
      clear hK K
      refine wpPerm_take rfl rfl ((.int .i64 (at' : Int))) (fun W' hS => ?_) (fun K hK => ?_)
      · obtain ⟨s0, s1, s2, s3⟩ := hS; go_simp
      go_simp
      refine hK _ _ ?_
      clear hK K
      refine wpPerm_take rfl rfl (.int .i64 (size : Int)) (fun W' hS => ?_) (fun K hK => ?_)
      · obtain ⟨s0, s1, s2, s3⟩ := hS; go_simp
      go_simp
      refine hK _ _ ?_
      clear hK K
      refine wpPerm_take rfl rfl ((.int .i64 ((at' : Int) + (size : Int)))) (fun W' hS => ?_) (fun K hK => ?_)
      · obtain ⟨s0, s1, s2, s3⟩ := hS; go_simp
      go_simp
      refine hK _ _ ?_
      clear hK K
      refine wpPerm_take rfl rfl (.int .i64 (mn : Int)) (fun W' hS => ?_) (fun K hK => ?_)
      · obtain ⟨s0, s1, s2, s3⟩ := hS; go_simp; have h9 := Hmn.out; split <;> omega
      go_simp
      refine hK _ _ ?_
      clear hK K
      refine wpPerm_take rfl rfl ((.slice (some ⟨bt, ot + at', none⟩) (mn - at') (ct - at'))) (fun W' hS => ?_) (fun K hK => ?_)
      · obtain ⟨s0, s1, s2, s3⟩ := hS; go_simp; rw [if_pos (by omega), if_pos (by omega), if_neg (by omega)]
      go_simp
      refine hK _ _ ?_
      clear hK K
      refine wpPerm_take rfl rfl (.int .i64 (size : Int)) (fun W' hS => ?_) (fun K hK => ?_)
      · obtain ⟨s0, s1, s2, s3⟩ := hS; go_simp
      go_simp
      refine hK _ _ ?_
      clear hK K
      refine wpPerm_bar rfl rfl (fun K hK => ?_)
      go_simp
      refine (wide_any (mn - at') size hmn3 hs1 bt (ot + at') (ct - at') (fun j => T (at' + j)) _ (fun j hj => by rw [Nat.add_assoc]; exact hE.drew.cell (htw.out (at' + j) (by omega)))).mono ?_
      rintro e w2 ⟨X1, c1, rfl, hc1, hX1, hrow1, hE1⟩
      have HRow1 := Lib.hid hrow1
      have hEw2 : Ext wo w2 := (Ext.refl wo).drew.trans hE1
      refine hK _ _ ⟨hEw2, hEw2.cell cTr, hEw2.cell cSr, hEw2.cell cNr⟩ ?_
      clear hK K hrow1
      refine wpPerm_bar rfl rfl (fun K hK => ?_)
      go_simp
      refine (forward_any k (by omega) (by omega) L size hL Hsz.out X1 0 c1 (extV (mn - at') (fun j => T (at' + j))) (fun j => by unfold extV; split; exact HT0.out _; omega) _ (fun j hj => by rw [Nat.zero_add]; exact HRow1.out.cell hj)).mono ?_
      rintro e w3 ⟨X2, c2, rfl, hc2, hX2, hrow2, hE2⟩
      have HRow2 := Lib.hid hrow2
      have hEw3 : Ext wo w3 := hEw2.trans hE2
      refine hK _ _ ⟨hEw3, hEw3.cell cTr, hEw3.cell cSr, hEw3.cell cNr⟩ ?_
      clear hK K hrow2
      refine wpPerm_take rfl rfl (.tuple #[.slice (some ⟨X2, 0, none⟩) size c2, .int .i64 0]) (fun W' hS => ?_) (fun K hK => ?_)
      · obtain ⟨s0, s1, s2, s3⟩ := hS; go_simp
      go_simp
      refine hK _ _ ?_
      clear hK K
      refine wpPerm_take rfl rfl (.slice (some ⟨X2, 0, none⟩) size c2) (fun W' hS => ?_) (fun K hK => ?_)
      · obtain ⟨s0, s1, s2, s3⟩ := hS; go_simp
      go_simp
      refine hK _ _ ?_
      clear hK K
      refine wpPerm_take rfl rfl (.int .i64 0) (fun W' hS => ?_) (fun K hK => ?_)
      · obtain ⟨s0, s1, s2, s3⟩ := hS; go_simp
      go_simp
      refine hK _ _ ?_
      clear hK K
      refine wpPerm_take rfl rfl (.slice (some ⟨X2, 0, none⟩) size c2) (fun W' hS => ?_) (fun K hK => ?_)
      · obtain ⟨s0, s1, s2, s3⟩ := hS; go_simp
      go_simp
      refine hK _ _ ?_
      clear hK K
      refine wpPerm_take rfl rfl (.int .i64 0) (fun W' hS => ?_) (fun K hK => ?_)
      · obtain ⟨s0, s1, s2, s3⟩ := hS; go_simp
      go_simp
      refine hK _ _ ?_
      clear hK K
      refine wpPerm_end ?_
      have hBrX : Br < X2 := by
        obtain ⟨cells, h7, _⟩ := HTh'.out
        have h6 := (Array.getElem?_eq_some_iff.1 h7).1
        have := hE1.size
        simp at this
        omega
      have hWX : W.heap.size ≤ X2 := by rw [HBr.out]; omega
      have hEW3 : Ext W w3 := hE.trans hEw3
      have hTh3 : Hid (Three w3 Bs size 3 R cc) := hThw.out.ext hEW3
      have hR3 : Hid (Row w3 25 (R k) size (U (NttM.T (primeV k) (rootV k L) size (turnV m size P)))) := (hRw.out k hlt).ext hEW3
      have hRkW : R k < W.heap.size := (hRw.out k hlt).lt
      have hBsW : Bs < W.heap.size := by
        obtain ⟨cells, h7, _⟩ := hThw.out
        exact (Array.getElem?_eq_some_iff.1 h7).1
      have hg0 : Hid (∀ j, 0 ≤ NttM.T (primeV k) (rootV k L) size (extV (mn - at') (fun j => T (at' + j))) j) := fun j => Int.emod_nonneg _ (by have := primeV_pos k; omega)
      have hss0 : Hid (∀ j, 0 ≤ NttM.T (primeV k) (rootV k L) size (turnV m size P) j) := fun j => Int.emod_nonneg _ (by have := primeV_pos k; omega)
      have hres : Hid (∀ i, resV k L m size P (extV (mn - at') (fun j => T (at' + j))) i = NttM.T (primeV k) (backV k L) size (fun x => NttM.T (primeV k) (rootV k L) size (extV (mn - at') (fun j => T (at' + j))) x * NttM.T (primeV k) (rootV k L) size (turnV m size P) x % primeV k) i * manyV k size % primeV k) := fun _ => rfl
      generalize hgg : NttM.T (primeV k) (rootV k L) size (extV (mn - at') (fun j => T (at' + j))) = g at *
      generalize hsg : NttM.T (primeV k) (rootV k L) size (turnV m size P) = sg at *
      have Hgg := Lib.hid hgg
      have Hsg := Lib.hid hsg
      clear hgg hsg
      gi_wp2_with fail
      gi_loopw [21, 86] (fun _ c wr' => MulRel k size X2 g sg w3 c wr') (fun _ c _ => size - (intOf c).toNat)
      case atStart => exact ⟨0, Nat.zero_le _, rfl, World.grownBy.refl _ _, HRow2.out.congr fun j _ => congrArg (Value.int .u64) (by simp only []; rw [if_neg (by omega)])⟩
      case round =>
        obtain ⟨t, ht, rfl, hgr4, hrow4⟩ := hrel
        by_cases hlt4 : t < size
        · have cx : wr.cell? ⟨X2, t, none⟩ = some (.int .u64 (g t)) := by
            rw [hrow4.cell hlt4]; show some (Value.int .u64 (if t < t then _ else _)) = _; rw [if_neg (by omega)]
          have cs : wr.cell? ⟨Bs, k, none⟩ = some (.slice (some ⟨R k, 0, none⟩) size (cc k)) := by
            have h5 := hTh3.out.cell hlt
            rw [if_pos hlt] at h5
            exact hgr4.cell h5 (ne_some (a := Bs) (by omega))
          have ck : wr.cell? ⟨R k, t, none⟩ = some (.int .u64 (sg t)) := hgr4.cell (hR3.out.cell hlt4) (ne_some (a := R k) (by omega))
          have HRow4 := Lib.hid hrow4
          have HG4 := Lib.hid hgr4
          have gt0 := hg0.out t
          have st0 := hss0.out t
          clear hrow4 hgr4
          generalize hgt : g t = gt at *
          generalize hst : sg t = st at *
          have Hgt := Lib.hid hgt
          have Hst := Lib.hid hst
          clear hgt hst
          have hRl : Ext wr wr := Ext.refl wr
          gi_wp2_with fail
          refine wpIn_region_permE (last := 15) (S := fun W' => Ext wr W' ∧ W'.cell? ⟨X2, t, none⟩ = some (.int .u64 gt) ∧ W'.cell? ⟨Bs, k, none⟩ = some (.slice (some ⟨R k, 0, none⟩) size (cc k)) ∧ W'.cell? ⟨R k, t, none⟩ = some (.int .u64 st)) [(0, true), (1, true), (2, true), (3, true), (4, true), (5, true), (6, true), (7, true), (8, true), (9, true), (10, true), (11, true), (12, true), (13, false), (14, true), (15, false)] (by kernel_rfl) rfl (by kernel_rfl) (by kernel_rfl) (by kernel_rfl) (fun _ _ _ h => h) (fun _ _ h => h) ⟨hRl.drew, cx, cs, ck⟩ ?_
          refine wpPermE_take rfl rfl (.slice (some ⟨X2, 0, none⟩) size c2) (fun W' hS => ?_) (fun K hK => ?_)
          · obtain ⟨s0, s1, s2, s3⟩ := hS; go_simp
          go_simp
          refine hK _ _ ?_
          clear hK K
          refine wpPermE_take rfl rfl ((.int .i64 (t : Int))) (fun W' hS => ?_) (fun K hK => ?_)
          · obtain ⟨s0, s1, s2, s3⟩ := hS; go_simp
          go_simp
          refine hK _ _ ?_
          clear hK K
          refine wpPermE_take rfl rfl ((.int .i64 (k : Int))) (fun W' hS => ?_) (fun K hK => ?_)
          · obtain ⟨s0, s1, s2, s3⟩ := hS; go_simp
          go_simp
          refine hK _ _ ?_
          clear hK K
          refine wpPermE_take rfl rfl (.slice (some ⟨X2, 0, none⟩) size c2) (fun W' hS => ?_) (fun K hK => ?_)
          · obtain ⟨s0, s1, s2, s3⟩ := hS; go_simp
          go_simp
          refine hK _ _ ?_
          clear hK K
          refine wpPermE_take rfl rfl ((.int .i64 (t : Int))) (fun W' hS => ?_) (fun K hK => ?_)
          · obtain ⟨s0, s1, s2, s3⟩ := hS; go_simp
          go_simp
          refine hK _ _ ?_
          clear hK K
          refine wpPermE_take rfl rfl (.pointer (some ⟨X2, t, none⟩)) (fun W' hS => ?_) (fun K hK => ?_)
          · obtain ⟨s0, s1, s2, s3⟩ := hS; go_simp
          go_simp
          refine hK _ _ ?_
          clear hK K
          refine wpPermE_take rfl rfl (.int .u64 gt) (fun W' hS => ?_) (fun K hK => ?_)
          · obtain ⟨s0, s1, s2, s3⟩ := hS; go_simp
          go_simp
          refine hK _ _ ?_
          clear hK K
          refine wpPermE_take rfl rfl ((.int .i64 (k : Int))) (fun W' hS => ?_) (fun K hK => ?_)
          · obtain ⟨s0, s1, s2, s3⟩ := hS; go_simp
          go_simp
          refine hK _ _ ?_
          clear hK K
          refine wpPermE_take rfl rfl (.pointer (some ⟨Bs, k, none⟩)) (fun W' hS => ?_) (fun K hK => ?_)
          · obtain ⟨s0, s1, s2, s3⟩ := hS; go_simp
          go_simp
          refine hK _ _ ?_
          clear hK K
          refine wpPermE_take rfl rfl (.slice (some ⟨R k, 0, none⟩) size (cc k)) (fun W' hS => ?_) (fun K hK => ?_)
          · obtain ⟨s0, s1, s2, s3⟩ := hS; go_simp
          go_simp
          refine hK _ _ ?_
          clear hK K
          refine wpPermE_take rfl rfl ((.int .i64 (t : Int))) (fun W' hS => ?_) (fun K hK => ?_)
          · obtain ⟨s0, s1, s2, s3⟩ := hS; go_simp
          go_simp
          refine hK _ _ ?_
          clear hK K
          refine wpPermE_take rfl rfl (.pointer (some ⟨R k, t, none⟩)) (fun W' hS => ?_) (fun K hK => ?_)
          · obtain ⟨s0, s1, s2, s3⟩ := hS; go_simp
          go_simp
          refine hK _ _ ?_
          clear hK K
          refine wpPermE_take rfl rfl (.int .u64 st) (fun W' hS => ?_) (fun K hK => ?_)
          · obtain ⟨s0, s1, s2, s3⟩ := hS; go_simp
          go_simp
          refine hK _ _ ?_
          clear hK K
          refine wpPermE_bar rfl rfl (fun K hK => ?_)
          go_simp
          refine (mul_any k gt st (by omega) (by omega) gt0 st0 _).mono ?_
          rintro e w5 ⟨rfl, hb5⟩
          have hE5 : Ext wr w5 := hRl.drew.trans hb5
          refine hK _ _ (fun _ => ⟨hE5, hE5.cell cx, hE5.cell cs, hE5.cell ck⟩) ?_
          clear hK K
          have HRow5 := Lib.hid (HRow4.out.ext hE5)
          have cx5 := hE5.cell cx
          have fx5 := HRow5.out.frozen t
          refine wpPermE_take rfl rfl (.pointer (some ⟨X2, t, none⟩)) (fun W' hS => ?_) (fun K hK => ?_)
          · obtain ⟨s0, s1, s2, s3⟩ := hS; go_simp
          go_simp
          refine hK _ _ ?_
          clear hK K
          refine wpPermE_bar rfl rfl (fun K hK => ?_)
          go_simp
          refine hK _ _ (fun h => absurd rfl h) ?_
          clear hK K
          refine wpPermE_end ?_
          have HG6 : Hid (w3.grownBy (w5.setCell ⟨X2, t, none⟩ (.int .u64 (gt * st % primeV k))) (some X2)) := grownBy_trans (grownBy_trans HG4.out (hE5.grownBy _)) (grownBy_setCell _ _ _ _)
          have HR6 : Hid (Row (w5.setCell ⟨X2, t, none⟩ (.int .u64 (gt * st % primeV k))) 25 X2 size (U (fun i => if i < t + 1 then g i * sg i % primeV k else g i))) :=
            (HRow5.out.setU t _).congr fun j _ => congrArg (Value.int .u64) (by
              simp only []
              by_cases e : j = t
              · subst e; rw [if_pos rfl, if_pos (by omega), Hgt.out, Hst.out]
              · rw [if_neg e]
                by_cases h9 : j < t
                · rw [if_pos h9, if_pos (by omega)]
                · rw [if_neg h9, if_neg (by omega)])
          gi_wp2_with fail
          go_roundw
          case rel => exact ⟨t + 1, by omega, by go_num, HG6.out, HR6.out⟩
          case measure => simp [intOf]; omega
        · have hfull : Hid (Row wr 25 X2 size (U (fun i => g i * sg i % primeV k))) := hrow4.congr fun j hj => congrArg (Value.int .u64) (by simp only []; rw [if_pos (by omega)])
          have HG4 := Lib.hid hgr4
          have hmul0 : Hid (∀ j, 0 ≤ g j * sg j % primeV k) := fun j => (mod_bd k _).1
          clear hrow4 hgr4
          gi_wp2_with fail
          refine ⟨trivial, rfl, (CallsIn.inRound l (callsIn_wide.2 (inverse_any k (by omega) (by omega) L size hL Hsz.out X2 0 c2 (fun j => g j * sg j % primeV k) hmul0.out _ (fun j hj => by rw [Nat.zero_add]; exact hfull.out.cell hj)))).mono ?_⟩
          rintro e w7 ⟨X3, c3, rfl, hc3, hX3, hrow7, hE7⟩
          have hTh7 : Three w7 Br many k R' cc' := by
            refine Three.ext ?_ hE7
            have h5 := HTh'.out.ext hEw3
            obtain ⟨cells, h6, h7⟩ := h5
            exact ⟨cells, (HG4.out.block Br (Array.getElem?_eq_some_iff.1 h6).1 (ne_some (by omega))).trans h6, h7⟩
          have c7 := hTh7.cell hlt
          rw [if_neg (by omega)] at c7
          have f7 := hTh7.frozen k
          have hX3' : Br < X3 := by
            have h5 := HG4.out.size
            have h6 := hEw3.size
            obtain ⟨cells, h7, _⟩ := HTh'.out
            have h8 := (Array.getElem?_eq_some_iff.1 h7).1
            omega
          have hmanyI : (many : Int) ≤ (c3 : Int) := by omega
          have hrel' : Hid (Three ((w7.setCell ⟨Br, k, none⟩ (.slice (some ⟨X3, 0, none⟩) size c3)).setCell ⟨Br, k, none⟩ (.slice (some ⟨X3, 0, none⟩) many c3)) Br many (k + 1) (fun j => if j = k then X3 else R' j) (fun j => if j = k then c3 else cc' j) ∧
              ∀ j, j < k + 1 → Br < (if j = k then X3 else R' j) ∧ Row ((w7.setCell ⟨Br, k, none⟩ (.slice (some ⟨X3, 0, none⟩) size c3)).setCell ⟨Br, k, none⟩ (.slice (some ⟨X3, 0, none⟩) many c3)) 25 (if j = k then X3 else R' j) size (U (resV j L m size P (extV (min n (at' + size) - at') (fun j => T (at' + j)))))) := by
            refine ⟨hTh7.set2 hlt _ _ _, fun j hj => ?_⟩
            by_cases e : j = k
            · subst e
              rw [if_pos rfl]
              refine ⟨hX3', ((hrow7.kept (grownBy_setCell _ _ _ _) (ne_some (by omega))).kept (grownBy_setCell _ _ _ _) (ne_some (by omega))).congr fun i hi => congrArg (Value.int .u64) ?_⟩
              rw [← Hmn.out]
              exact (hres.out i).symm
            · rw [if_neg e]
              obtain ⟨h5, h6⟩ := HRes.out j (by omega)
              refine ⟨h5, ?_⟩
              have h7 := h6.ext hEw3
              have h8 := h6.lt
              have h9 := hE1.size
              simp at h9
              have h10 := h7.kept HG4.out (ne_some (by omega))
              exact ((h10.ext hE7).kept (grownBy_setCell _ _ _ _) (ne_some (by omega))).kept (grownBy_setCell _ _ _ _) (ne_some (by omega))
          have hEn : Hid (Ext W ((w7.setCell ⟨Br, k, none⟩ (.slice (some ⟨X3, 0, none⟩) size c3)).setCell ⟨Br, k, none⟩ (.slice (some ⟨X3, 0, none⟩) many c3))) := by
            have h5 : Ext W w7 := (hEW3.grown HG4.out (by intro q hq; injection hq with hq; omega)).trans hE7
            exact (h5.setCell (by rw [HBr.out]; exact Nat.le_refl _) _).setCell (by rw [HBr.out]; exact Nat.le_refl _) _
          have HRow7 := Lib.hid hrow7
          clear hTh7 hrow7
          gi_wp2_with fail
          go_roundw
          case rel => exact ⟨k + 1, _, _, by omega, by go_num, hEn.out, hrel'.out.1, hrel'.out.2⟩
          case measure => simp [intOf]; omega
    · have hk3 : k = 3 := by omega
      have hThE : Hid (Three wo Br many 3 R' cc') := by rw [← hk3]; exact HTh'.out
      have hRE : Hid (∀ j, j < 3 → Br < R' j ∧ Row wo 25 (R' j) size (U (resV j L m size P (extV (min n (at' + size) - at') (fun j => T (at' + j)))))) := by rw [← hk3]; exact HRes.out
      have q0 := hThE.out.cell (j := 0) (by omega)
      have q1 := hThE.out.cell (j := 1) (by omega)
      have q2 := hThE.out.cell (j := 2) (by omega)
      rw [if_pos (by omega)] at q0 q1 q2
      have hval : ∀ (j : Nat), j < 3 → ∀ i, i < many → wo.cell? ⟨R' j, 0 + i, none⟩ = some (.int .u64 (slideV P T m (at' + i) % primeV j)) := by
        intro j hj i hi
        rw [Nat.zero_add, (hRE.out j hj).2.cell (by omega)]
        show some (Value.int .u64 (resV _ _ _ _ _ _ _)) = _
        rw [res_is j (by omega) (by omega) L m size hL Hsz.out P _ i (by omega) (by omega)]
        unfold slideV
        rw [NttM.sm_congr (g := fun u => P u * T (at' + i + u)) (fun u hu => by
          unfold extV
          rw [if_pos (by omega), Nat.add_assoc])]
      have Hval := Lib.hid hval
      have hX0 : Hid (∀ j, 0 ≤ slideV P T m (at' + j)) := fun j => sm_nn (fun u _ => Int.mul_nonneg (HP0.out _) (HT0.out _))
      have hXb : Hid (∀ j, slideV P T m (at' + j) < 18446744073709551616) := fun j =>
        Int.lt_of_le_of_lt (sm_le (c := X * Y) (fun u _ => Int.mul_le_mul (HP.out _) (HT.out _) (HT0.out _) hX)) Hbd.out
      clear hval
      gi_wp2_with fail
      refine ⟨trivial, rfl, (CallsIn.inRound l (callsIn_wide.2 (rows_any many (by omega) (fun j => slideV P T m (at' + j)) hX0.out hXb.out (R' 0) 0 (cc' 0) (R' 1) 0 (cc' 1) (R' 2) 0 (cc' 2) _ (Hval.out 0 (by omega)) (Hval.out 1 (by omega)) (Hval.out 2 (by omega))))).mono ?_⟩
      rintro e w2 ⟨v2, rfl, hown2, hE2⟩
      obtain ⟨g2, c2, rfl, hc2, hg2, hrow2⟩ := Row.owns hown2 hm1
      have hEW2 : Ext W w2 := hE.trans hE2
      have hBo2 : w2.heap[Bo]? = some (.cells #[v0] 31 (0, 0)) := hEW2.heap HBv.out
      have co2 : w2.cell? ⟨Bo, 0, none⟩ = some v0 := cell_of_row _ _ _ _ _ _ hBo2
      have HBo2 := Lib.hid hBo2
      have Hown2 := Lib.hid (hEW2.owns Hown.out)
      have hcells2 : Hid (∀ (j : Nat) (u : Value), ((List.range many).map (U fun j => slideV P T m (at' + j)))[j]? = some u → w2.cell? ((⟨g2, 0, none⟩ : Addr).add j) = some u) := hown2.cells rfl
      have hdone : doneV m n size pre = at' := by unfold doneV; rw [← Z1.out]; omega
      have hdone2 : doneV m n size (pre ++ [(at', many)]) = at' + many := by
        unfold doneV
        rw [List.length_append, List.length_singleton, Nat.mul_succ, ← Z1.out]
        have := Z3.out
        omega
      have hsz2 := Hgr.out.size
      have hszW2 := hEW2.size
      rw [hdone] at Hown2
      have Hdone2 := Lib.hid hdone2
      obtain ⟨i0, hi, hz0, hz1, hz2⟩ := info_parts info_u64
      clear hown2 hBo2 hdone hdone2 hrow2
      gi_wp2_with (gi_at_builtin; refine wpListIn_append_own _ rfl (.tmp 131) (.tmp 132) 31 rfl W0.heap.size 25 i0 (.int .u64 0) 1 8 Try.underlying31 hi hz0 hz1 hz2 rfl (by decide) _ _ _ rfl Hown2.out ⟨g2, 0, none⟩ many c2 ((List.range many).map (U fun j => slideV P T m (at' + j))) rfl (by simp) hcells2.out ?c2 ?c3 ?c4 ?c5 ?_)
      case c2 => intro u hu; obtain ⟨j, _, rfl⟩ := List.mem_map.1 hu; rfl
      case c3 => unfold maxLen; omega
      case c4 => omega
      case c5 => omega
      intro v' w3 hown3 hgrow _
      have hbo : v0.ownBlock ≠ some Bo := by
        intro h
        have := (Hown2.out.lt Bo h).1
        omega
      have hBo3 : w3.heap[Bo]? = some (.cells #[v0] 31 (0, 0)) := (hgrow.block Bo (by omega) (fun h => hbo h.symm)).trans HBo2.out
      have co3 : w3.cell? ⟨Bo, 0, none⟩ = some v0 := cell_of_row _ _ _ _ _ _ hBo3
      have fo3 : w3.frozen? ⟨Bo, 0, none⟩ = false := frozen_of_row _ _ _ _ _ hBo3
      have HBo3 := Lib.hid hBo3
      have Hown3 := Lib.hid hown3
      have Hgrow := Lib.hid hgrow
      obtain ⟨g', cap', rfl⟩ : ∃ g' cap', v' = .slice (some ⟨g', 0, none⟩) (at' + many) cap' := by
        obtain ⟨B, cap, h5, _, _, _⟩ := Row.owns hown3 (by omega)
        exact ⟨B, cap, h5⟩
      clear hBo3 hown3 hgrow
      gi_wp2
      have hs3 := Hgrow.out.size
      have hsz3 : (w3.setCell ⟨Bo, 0, none⟩ (.slice (some ⟨g', 0, none⟩) (at' + many) cap')).heap.size = w3.heap.size := by simp
      have hoth : ∀ k, k ≠ Bo → (w3.setCell ⟨Bo, 0, none⟩ (.slice (some ⟨g', 0, none⟩) (at' + many) cap')).heap[k]? = w3.heap[k]? := fun k hk => heap_setCell_other _ _ _ _ hk
      have hlow : ∀ k, k < W0.heap.size → k ≠ Bo → (w3.setCell ⟨Bo, 0, none⟩ (.slice (some ⟨g', 0, none⟩) (at' + many) cap')).heap[k]? = W.heap[k]? := by
        intro k hk hkB
        rw [hoth k hkB, Hgrow.out.block k (by omega) (fun h => by have := (Hown2.out.lt k h.symm).1; omega)]
        exact Below.block hEW2 k (by omega)
      refine ⟨by rw [hsz3]; omega, ?_, ?_, ?_, .slice (some ⟨g', 0, none⟩) (at' + many) cap', ?_, ?_⟩
      · intro k o hk ho hoc
        have hkW := (Array.getElem?_eq_some_iff.1 ho).1
        rw [hoth k (by omega), Hgrow.out.block k (by omega) (fun h => ?_), hEW2.heap ho]
        rcases Hown2.out.2 with ⟨rfl, _⟩ | ⟨g, cap, cur, rfl, _, hg, _⟩
        · cases h
        · have h9 : k = g := by injection h
          have h8 := hEW2.heap ho
          rw [h9, hg] at h8
          injection h8 with h8
          rw [← h8] at hoc
          cases hoc
      · rintro k (rfl | rfl) _
        · exact hlow _ hB1 e1
        · exact hlow _ hB2 e2
      · refine ⟨?_, ?_, ?_, by rw [hsz3]; omega, fun k hk hne => ?_⟩
        · exact (Hgrow.out.os.trans (Below.os hEW2)).trans Hgr.out.os
        · exact (Hgrow.out.tape.trans (Below.tape hEW2)).trans Hgr.out.tape
        · exact (Hgrow.out.output.trans (Below.output hEW2)).trans Hgr.out.output
        · have hkB : k ≠ Bo := fun h => hne (by rw [h])
          rw [hlow k hk hkB]
          exact Hgr.out.block k hk hne
      · exact heap_setCell_same _ _ 0 _ _ _ HBo3.out
      · rw [Hdone2.out, List.range_add, List.map_append, List.map_map]
        exact ownsRow_setCell_below Hown3.out hBo _
end Go.Proofs.Ytmadelflnjhibaa
