import Derived.Test.YtmadelflnjhibaaCrt
namespace Go.Proofs.Ytmadelflnjhibaa
open Go.RowKit

theorem slides_yes (m n : Nat) (h1 : 1 ≤ m) (h2 : m ≤ n) (w : World) : Calls Try.prog 61 #[.int .i64 m, .int .i64 n] w fun e w' => e = .returned (.bool true) ∧ w = w' := by
  go_enter Try.func61, Try.ntmps61
  go_wp2
  go_ret
  exact ⟨rfl, rfl⟩
theorem slides_no (m n : Nat) (h1 : 1 ≤ m) (h2 : n < m) (w : World) : Calls Try.prog 61 #[.int .i64 m, .int .i64 n] w fun e w' => e = .returned (.bool false) ∧ w = w' := by
  have hd : decide (m ≤ n) = false := decide_eq_false (by omega)
  go_enter Try.func61, Try.ntmps61
  go_wp2
  go_ret
  exact ⟨rfl, rfl⟩

/-- May blocks of m be of a size? -/
def szOk (m : Nat) (size : Int) : Bool := (logV size).isSome && decide ((m : Int) ≤ size)
theorem szOk_true {m : Nat} {size : Int} (h : szOk m size = true) : ∃ L, L ≤ 12 ∧ size = ((2 ^ L : Nat) : Int) ∧ m ≤ 2 ^ L := by
  unfold szOk at h
  rw [Bool.and_eq_true, decide_eq_true_eq] at h
  cases hl : logV size with
  | none => rw [hl] at h; simp at h
  | some L =>
    obtain ⟨a, b⟩ := logV_some hl
    have e : ((2 ^ L : Nat) : Int) = 2 ^ L := Int.natCast_pow 2 L
    refine ⟨L, a, by rw [b, e], ?_⟩
    have h2 := h.2
    rw [b, ← e] at h2
    omega

theorem sized_any (m : Nat) (size : Int) (w : World) : Calls Try.prog 93 #[.int .i64 m, .int .i64 size] w fun e w' => e = .returned (.bool (szOk m size)) ∧ w = w' := by
  cases hl : logV size with
  | none =>
    have h1 : logOut size = .tuple #[.int .i64 0, .bool false] := by unfold logOut; rw [hl]
    have h2 : szOk m size = false := by unfold szOk; rw [hl]; rfl
    rw [h2]
    have H1 := Lib.hid h1
    clear h1 h2 hl
    go_enter Try.func93, Try.ntmps93
    go_wp2_with fail
    refine (log_any size _).mono ?_
    rw [H1.out]
    rintro e w' ⟨rfl, rfl⟩
    go_wp2
    go_ret
    exact ⟨rfl, rfl⟩
  | some L =>
    have h1 : logOut size = .tuple #[.int .i64 L, .bool true] := by unfold logOut; rw [hl]
    have H1 := Lib.hid h1
    by_cases hm : (m : Int) ≤ size
    · have h2 : szOk m size = true := by unfold szOk; rw [hl]; simpa using hm
      rw [h2]
      clear h1 h2 hl
      go_enter Try.func93, Try.ntmps93
      go_wp2_with fail
      refine (log_any size _).mono ?_
      rw [H1.out]
      rintro e w' ⟨rfl, rfl⟩
      go_wp2
      go_ret
      exact ⟨rfl, rfl⟩
    · have h2 : szOk m size = false := by unfold szOk; rw [hl]; simpa using hm
      rw [h2]
      have hd : decide ((m : Int) ≤ size) = false := decide_eq_false hm
      clear h1 h2 hl
      go_enter Try.func93, Try.ntmps93
      go_wp2_with fail
      refine (log_any size _).mono ?_
      rw [H1.out]
      rintro e w' ⟨rfl, rfl⟩
      go_wp2
      go_ret
      first | exact ⟨rfl, rfl⟩ | exact ⟨congrArg (fun x => Ending.returned (.bool x)) hd, rfl⟩

def GreatPost (bd : Int) (w : World) (e : Ending) (w' : World) : Prop := ∃ G : Int, 0 ≤ G ∧ G ≤ bd ∧ e = .returned (.int .u64 G) ∧ w = w'
def GreatRel (bd : Int) (n : Nat) (g c : Value) : Prop := ∃ (G : Int) (t : Nat), 0 ≤ G ∧ G ≤ bd ∧ t ≤ n ∧ g = .int .u64 G ∧ c = .int .i64 t

theorem greatest_any (bd : Int) (hbd : 0 ≤ bd) (n : Nat) (b off c : Nat) (l : Nat → Int) (hl0 : ∀ j, j < n → 0 ≤ l j) (hl : ∀ j, j < n → l j ≤ bd) (hn : n ≤ 4611686018427387904) (w : World) (hr : ∀ j, j < n → w.cell? ⟨b, off + j, none⟩ = some (.int .u64 (l j))) :
    Calls Try.prog 94 #[.slice (some ⟨b, off, none⟩) n c] w (GreatPost bd w) := by
  have Hr := Lib.hid hr
  have H0 := Lib.hid hl0
  have H1 := Lib.hid hl
  clear hr hl0 hl
  go_enter Try.func94, Try.ntmps94
  go_wp2
  go_loop [3, 5, 8] (fun g _ c => GreatRel bd n g c) (fun _ _ c => n - (intOf c).toNat)
  case atStart => exact ⟨0, 0, by omega, hbd, by omega, rfl, rfl⟩
  case round =>
    obtain ⟨G, t, g0, g1, ht, rfl, rfl⟩ := hrel
    by_cases hlt : t < n
    · have hc := Hr.out t hlt
      have x0 := H0.out t hlt
      have x1 := H1.out t hlt
      generalize l t = x at *
      go_wp2
      go_round
      case rel =>
        by_cases hx : G < x
        · rw [if_pos hx]; exact ⟨x, t + 1, x0, x1, by omega, rfl, by go_num⟩
        · rw [if_neg hx]; exact ⟨G, t + 1, g0, g1, by omega, rfl, by go_num⟩
      case measure => simp [intOf]; omega
    · go_wp2
      go_ret
      exact ⟨G, g0, g1, rfl, rfl⟩

theorem bcheck_no (m n : Nat) (size : Int) (h1 : 1 ≤ m) (h2 : n < m) (p q : Option Addr) (c d : Nat) (w : World) :
    Calls Try.prog 60 #[.slice p m c, .slice q n d, .int .i64 size] w fun e w' => e = .returned (.int .i64 0) ∧ w = w' := by
  go_enter Try.func60, Try.ntmps60
  go_wp2_with (go_at_call 61; refine (slides_no m n h1 h2 _).mono ?_; rintro e w' ⟨rfl, rfl⟩)
  go_ret
  exact ⟨rfl, rfl⟩

theorem bcheck_bad (m n : Nat) (size : Int) (h1 : 1 ≤ m) (h2 : m ≤ n) (h3 : szOk m size = false) (p q : Option Addr) (c d : Nat) (w : World) :
    Calls Try.prog 60 #[.slice p m c, .slice q n d, .int .i64 size] w fun e w' => e = .returned (.int .i64 50) ∧ w = w' := by
  have H3 := Lib.hid h3
  clear h3
  go_enter Try.func60, Try.ntmps60
  go_wp2_with fail
  refine (slides_yes m n h1 h2 _).mono ?_
  rintro e w' ⟨rfl, rfl⟩
  go_wp2_with fail
  refine (sized_any m size _).mono ?_
  rw [H3.out]
  rintro e w' ⟨rfl, rfl⟩
  go_wp2
  go_ret
  exact ⟨rfl, rfl⟩

set_option maxHeartbeats 1000000 in
theorem bcheck_ok (m n : Nat) (size : Int) (h1 : 1 ≤ m) (h2 : m ≤ n) (h3 : szOk m size = true) (bp op cp bt ot ct : Nat) (P T : Nat → Int) (X Y : Int) (hX : 0 ≤ X) (hY : 0 ≤ Y) (hP0 : ∀ j, j < m → 0 ≤ P j) (hP : ∀ j, j < m → P j ≤ X) (hT0 : ∀ j, j < n → 0 ≤ T j) (hT : ∀ j, j < n → T j ≤ Y)
    (hbd : (m : Int) * (X * Y) < 18446744073709551616) (hn : n ≤ 4611686018427387904) (w : World) (hp : ∀ j, j < m → w.cell? ⟨bp, op + j, none⟩ = some (.int .u64 (P j))) (ht : ∀ j, j < n → w.cell? ⟨bt, ot + j, none⟩ = some (.int .u64 (T j))) :
    Calls Try.prog 60 #[.slice (some ⟨bp, op, none⟩) m cp, .slice (some ⟨bt, ot, none⟩) n ct, .int .i64 size] w fun e w' => e = .returned (.int .i64 0) ∧ w = w' := by
  have H3 := Lib.hid h3
  have Hg1 := Lib.hid (greatest_any X hX m bp op cp P hP0 hP (by omega) w hp)
  have Hg2 := Lib.hid (greatest_any Y hY n bt ot ct T hT0 hT hn w ht)
  have Hbd := Lib.hid hbd
  clear h3 hp ht hP0 hP hT0 hT hbd
  go_enter Try.func60, Try.ntmps60
  go_wp2_with fail
  refine (slides_yes m n h1 h2 _).mono ?_
  rintro e w' ⟨rfl, rfl⟩
  go_wp2_with fail
  refine (sized_any m size _).mono ?_
  rw [H3.out]
  rintro e w' ⟨rfl, rfl⟩
  go_wp2_with fail
  refine Hg1.out.mono ?_
  rintro e w' ⟨x, x0, x1, rfl, rfl⟩
  go_wp2_with fail
  refine Hg2.out.mono ?_
  rintro e w' ⟨y, y0, y1, rfl, rfl⟩
  have hxy0 : 0 ≤ x * y := Int.mul_nonneg x0 y0
  have hxy1 : x * y ≤ X * Y := Int.mul_le_mul x1 y1 y0 hX
  have hXY : X * Y < 18446744073709551616 := by
    have h5 : 1 * (X * Y) ≤ (m : Int) * (X * Y) := Int.mul_le_mul_of_nonneg_right (by omega) (Int.mul_nonneg hX hY)
    have := Hbd.out
    omega
  have hmxy : (m : Int) * (x * y) < 18446744073709551616 := by
    have h5 : (m : Int) * (x * y) ≤ (m : Int) * (X * Y) := Int.mul_le_mul_of_nonneg_left hxy1 (by omega)
    have := Hbd.out
    omega
  by_cases hx : x = 0
  · subst hx
    go_wp2
    go_ret
    exact ⟨rfl, rfl⟩
  · have hx' : (x == 0) = false := by simpa using hx
    have hx'' : (x != 0) = true := by simpa using hx
    have hq : ¬ (18446744073709551615 / x < y) := by
      have : y ≤ 18446744073709551615 / x := by
        rw [Int.le_ediv_iff_mul_le (by omega), Int.mul_comm]
        omega
      omega
    have hq' : decide (18446744073709551615 / x < y) = false := decide_eq_false hq
    have hwr : IntKind.u64.wrap (x * y) = x * y := IntWalk.u64_in _ ⟨hxy0, by omega⟩
    by_cases hz : x * y = 0
    · have hz1 : (x * y != 0) = false := by simpa using hz
      have hz2 : IntKind.u64.wrap (x * y) = 0 := by rw [hwr]; exact hz
      have HZ := Lib.hid hz
      clear hz hwr hz1
      go_wp2
      go_ret
      exact ⟨rfl, rfl⟩
    · have hz1 : (x * y != 0) = true := by simpa using hz
      have hr : ¬ (18446744073709551615 / (x * y) < (m : Int)) := by
        have : (m : Int) ≤ 18446744073709551615 / (x * y) := by
          rw [Int.le_ediv_iff_mul_le (by omega)]
          omega
        omega
      have hr' : decide (18446744073709551615 / (x * y) < (m : Int)) = false := decide_eq_false hr
      have hv1 : 1 ≤ x * y := by omega
      have hv2 : x * y ≤ 18446744073709551615 := by omega
      go_wp2
      all_goals go_ret
      all_goals exact ⟨rfl, rfl⟩

/-- How many transforms there are, where there is something to slide and the size is right. -/
def countV (m n size : Nat) : Nat := 3 + 6 * ((n - m) / (size - m + 1) + 1)

set_option maxHeartbeats 1000000 in
theorem count_yes (m n size : Nat) (h1 : 1 ≤ m) (h2 : m ≤ n) (hn : n ≤ 1099511627776) (hs : m ≤ size) (hs' : size ≤ 4096) (h3 : szOk m size = true) (w : World) :
    Calls Try.prog 69 #[.int .i64 m, .int .i64 n, .int .i64 size] w fun e w' => e = .returned (.int .i64 (countV m n size)) ∧ w = w' := by
  have H3 := Lib.hid h3
  clear h3
  have hq : ((n : Int) - m) / ((size : Int) - m + 1) = (((n - m) / (size - m + 1) : Nat) : Int) := by
    rw [Int.natCast_ediv]; congr 1 <;> omega
  have hqb : (n - m) / (size - m + 1) ≤ n - m := Nat.div_le_self _ _
  have hc : countV m n size = 3 + 6 * ((n - m) / (size - m + 1) + 1) := rfl
  generalize (n - m) / (size - m + 1) = q at *
  have HC := Lib.hid hc
  clear hc
  go_enter Try.func69, Try.ntmps69
  go_wp2_with fail
  refine (slides_yes m n h1 h2 _).mono ?_
  rintro e w' ⟨rfl, rfl⟩
  go_wp2_with fail
  refine (sized_any m size _).mono ?_
  rw [H3.out]
  rintro e w' ⟨rfl, rfl⟩
  go_wp2
  go_ret
  refine ⟨congrArg (fun z => Ending.returned (.int .i64 z)) ?_, rfl⟩
  rw [HC.out]
  omega

def extV (m : Nat) (l : Nat → Int) (j : Nat) : Int := if j < m then l j else 0

theorem copy_into (w1 : World) (B n cap m c b off : Nat) (f : Nat → Value) (l : Nat → Int) (hrow : Row w1 25 B n f) (hm : m ≤ n) (hr : ∀ j, j < m → w1.cell? ⟨b, off + j, none⟩ = some (.int .u64 (l j))) :
    ∃ w2, (Builtin.copy_ #[31, 31] 3 #[.slice (some ⟨B, 0, none⟩) n cap, .slice (some ⟨b, off, none⟩) m c]).run Try.prog w1 = .ok (.int .i64 m) w2 ∧ Row w2 25 B n (fun j => if j < m then .int .u64 (l j) else f j) ∧ w1.grownBy w2 (some B) := by
  obtain ⟨cur, hg, hc⟩ := hrow
  have hsize : n ≤ cur.size := by
    rcases Nat.eq_zero_or_pos n with h | h
    · omega
    · have := (Array.getElem?_eq_some_iff.1 (hc (n - 1) (by omega))).1; omega
  have hlen : ((List.range m).map (U l)).length = m := by simp
  have h := run_copy_row (P := Try.prog) w1 31 31 3 25 B 0 n cap ⟨b, off, none⟩ m c cur 25 ((List.range m).map (U l)) Try.underlying31 (by kernel_rfl) hg (by rw [hlen]; exact (Nat.min_eq_left hm).symm)
    (by
      intro j v hj
      have hjm : j < m := by have := (List.getElem?_eq_some_iff.1 hj).1; simpa using this
      have e : (⟨b, off, none⟩ : Addr).add j = ⟨b, off + j, none⟩ := by unfold Addr.add; split <;> simp_all
      rw [e, hr j hjm, ← hj]
      simp [List.getElem?_range hjm, U])
    (by rw [hlen]; omega)
    (by intro v hv; obtain ⟨j, _, rfl⟩ := List.mem_map.1 hv; rfl)
  refine ⟨_, by rw [hlen] at h; exact h, ⟨_, setRow_heap w1 B cur _ 25 _ hg, fun j hj => ?_⟩, ⟨rfl, rfl, rfl, by simp, fun k _ hk => setRow_other w1 B k _ (fun e => hk (by rw [e]))⟩⟩
  simp only [List.take_zero, List.nil_append, Nat.zero_add, List.getElem?_toArray]
  rw [List.getElem?_append]
  simp only [List.length_map, List.length_range]
  by_cases h1 : j < m
  · rw [if_pos h1, if_pos h1]
    simp [List.getElem?_range h1, U]
  · rw [if_neg h1, if_neg h1, List.getElem?_drop, show m + (j - m) = j by omega]
    rw [Array.getElem?_toList]
    exact hc j hj

set_option maxHeartbeats 1000000 in
theorem wide_any (m size : Nat) (hms : m ≤ size) (hs : size ≤ 4096) (b off c : Nat) (l : Nat → Int) (w : World) (hr : ∀ j, j < m → w.cell? ⟨b, off + j, none⟩ = some (.int .u64 (l j))) :
    Calls Try.prog 65 #[.slice (some ⟨b, off, none⟩) m c, .int .i64 size] w (NewU w size (extV m l)) := by
  obtain ⟨w1, hmk, hrow1, hE1⟩ := make_u64 w size (by omega)
  obtain ⟨w2, hcp, hrow2, hg2⟩ := copy_into w1 w.heap.size size size m c b off _ l hrow1 hms (fun j hj => hE1.cell (hr j hj))
  have Hr := Lib.hid hr
  have HR2 : Hid (Row w2 25 w.heap.size size (U (extV m l))) := hrow2.congr fun j _ => by
    show (if j < m then _ else _) = Value.int .u64 (if j < m then _ else _)
    split <;> rfl
  have hE2 : Ext w w2 := hE1.grown hg2 (by intro q hq; injection hq with hq; omega)
  clear hr hrow1 hrow2 hg2 hE1
  go_enter Try.func65, Try.ntmps65
  go_wp2
  go_ret
  exact ⟨_, _, rfl, Nat.le_refl _, Nat.le_refl _, HR2.out, hE2⟩

def TurnRel (m size B : Nat) (l : Nat → Int) (w : World) (c : Value) (wr : World) : Prop :=
  ∃ t, t ≤ m ∧ c = .int .i64 ((t : Nat) : Int) ∧ Row wr 25 B size (U (fun u => if (size - u) % size < t then l ((size - u) % size) else 0)) ∧ Ext w wr

theorem turn_step {size t : Nat} (ht : t < size) {l : Nat → Int} (u : Nat) (hu : u < size) :
    (if u = (size - t) % size then l t else if (size - u) % size < t then l ((size - u) % size) else 0) = if (size - u) % size < t + 1 then l ((size - u) % size) else 0 := by
  have hinv : u = (size - t) % size ↔ (size - u) % size = t := by
    rcases Nat.eq_zero_or_pos u with h0 | h0
    · subst h0
      rcases Nat.eq_zero_or_pos t with h1 | h1
      · subst h1; simp
      · rw [Nat.mod_eq_of_lt (show size - t < size by omega), Nat.sub_zero, Nat.mod_self]; omega
    · rw [Nat.mod_eq_of_lt (show size - u < size by omega)]
      rcases Nat.eq_zero_or_pos t with h1 | h1
      · subst h1; rw [Nat.sub_zero, Nat.mod_self]; omega
      · rw [Nat.mod_eq_of_lt (show size - t < size by omega)]; omega
  by_cases e : u = (size - t) % size
  · have e2 := hinv.1 e
    rw [if_pos e, e2, if_pos (by omega)]
  · have e2 : ¬ (size - u) % size = t := fun h => e (hinv.2 h)
    rw [if_neg e]
    by_cases h : (size - u) % size < t
    · rw [if_pos h, if_pos (by omega)]
    · rw [if_neg h, if_neg (by omega)]

set_option maxHeartbeats 1000000 in
theorem turned_any (m size : Nat) (hm : 1 ≤ m) (hms : m ≤ size) (hs : size ≤ 4096) (b off c : Nat) (l : Nat → Int) (w : World) (hr : ∀ j, j < m → w.cell? ⟨b, off + j, none⟩ = some (.int .u64 (l j))) :
    Calls Try.prog 63 #[.slice (some ⟨b, off, none⟩) m c, .int .i64 size] w (NewU w size (fun u => if (size - u) % size < m then l ((size - u) % size) else 0)) := by
  obtain ⟨w1, hmk, hrow1, hE1⟩ := make_u64 w size (by omega)
  have Hr := Lib.hid hr
  have HR1 := Lib.hid hrow1
  clear hr hrow1
  have hBw : w.heap.size ≤ w.heap.size := Nat.le_refl _
  go_enter Try.func63, Try.ntmps63
  go_wp2_with fail
  generalize hB : w.heap.size = B at *
  have HB := Lib.hid hB
  clear hB hmk
  go_loopw [6, 7, 12] (fun _ _ c wr => TurnRel m size B l w c wr) (fun _ _ c _ => m - (intOf c).toNat)
  case atStart => exact ⟨0, Nat.zero_le _, rfl, HR1.out.congr fun j _ => by (show _ = Value.int .u64 (if _ then _ else _); rw [if_neg (by omega)]), hE1⟩
  case round =>
    obtain ⟨t, ht, rfl, hrow, hE⟩ := hrel
    have HRow := Lib.hid hrow
    clear hrow
    by_cases hlt : t < m
    · have hc := hE.cell (Hr.out t hlt)
      have hr1 : (size - t) % size < size := Nat.mod_lt _ (by omega)
      have hst : Hid (∀ u, u < size → (if u = (size - t) % size then l t else if (size - u) % size < t then l ((size - u) % size) else 0) = if (size - u) % size < t + 1 then l ((size - u) % size) else 0) := fun u hu => turn_step (by omega) u hu
      have hq : ((size : Int) - (t : Int)) % (size : Int) = (((size - t) % size : Nat) : Int) := by
        rw [Int.natCast_emod, Int.natCast_sub (by omega)]
      have hcr := HRow.out.cell hr1
      have hfr := HRow.out.frozen ((size - t) % size)
      generalize (size - t) % size = r at *
      generalize l t = lt at *
      go_wp2
      go_roundw
      case rel => exact ⟨t + 1, by omega, by go_num, (HRow.out.setU r _).congr fun u hu => congrArg (Value.int .u64) (hst.out u hu), hE.setCell (by rw [HB.out]; exact Nat.le_refl _) _⟩
      case measure => simp [intOf]; omega
    · have e : t = m := by omega
      subst e
      go_wp2
      go_ret
      exact ⟨_, _, rfl, Nat.le_refl _, by rw [HB.out]; exact Nat.le_refl _, HRow.out, hE⟩
end Go.Proofs.Ytmadelflnjhibaa
