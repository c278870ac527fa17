namespace Go.Proofs.Ytmadelflnjhibaa.NttM

/-- The sum of f 0 .. f (n-1). -/
def sm : Nat → (Nat → Int) → Int
  | 0, _ => 0
  | n + 1, f => sm n f + f n

theorem sm_zero (f : Nat → Int) : sm 0 f = 0 := rfl
theorem sm_succ (n : Nat) (f : Nat → Int) : sm (n + 1) f = sm n f + f n := rfl

theorem sm_congr {n : Nat} {f g : Nat → Int} (h : ∀ i, i < n → f i = g i) : sm n f = sm n g := by
  induction n with
  | zero => rfl
  | succ n ih => rw [sm_succ, sm_succ, ih (fun i hi => h i (by omega)), h n (by omega)]

theorem sm_add (n : Nat) (f g : Nat → Int) : sm n (fun i => f i + g i) = sm n f + sm n g := by
  induction n with
  | zero => rfl
  | succ n ih => simp only [sm_succ, ih]; omega

theorem sm_mul (n : Nat) (c : Int) (f : Nat → Int) : sm n (fun i => c * f i) = c * sm n f := by
  induction n with
  | zero => simp [sm]
  | succ n ih => simp only [sm_succ, ih, Int.mul_add]

theorem sm_mul_right (n : Nat) (c : Int) (f : Nat → Int) : sm n (fun i => f i * c) = sm n f * c := by
  induction n with
  | zero => simp [sm]
  | succ n ih => simp only [sm_succ, ih, Int.add_mul]

theorem sm_const_zero (n : Nat) : sm n (fun _ => 0) = 0 := by
  induction n with
  | zero => rfl
  | succ n ih => simp only [sm_succ, ih, Int.add_zero]

theorem sm_one (n : Nat) : sm n (fun _ => 1) = (n : Int) := by
  induction n with
  | zero => rfl
  | succ n ih => simp only [sm_succ, ih]; omega

theorem sm_swap (n m : Nat) (f : Nat → Nat → Int) : sm n (fun i => sm m (fun j => f i j)) = sm m (fun j => sm n (fun i => f i j)) := by
  induction n with
  | zero => simp only [sm_zero]; rw [sm_const_zero]
  | succ n ih => simp only [sm_succ, ih]; rw [sm_add]

theorem sm_split (n m : Nat) (f : Nat → Int) : sm (n + m) f = sm n f + sm m (fun i => f (n + i)) := by
  induction m with
  | zero => simp [sm]
  | succ m ih => rw [← Nat.add_assoc, sm_succ, ih, sm_succ]; omega

theorem sm_even_odd (n : Nat) (f : Nat → Int) : sm (2 * n) f = sm n (fun i => f (2 * i)) + sm n (fun i => f (2 * i + 1)) := by
  induction n with
  | zero => rfl
  | succ n ih =>
    rw [show 2 * (n + 1) = 2 * n + 1 + 1 by omega, sm_succ, sm_succ, ih, sm_succ, sm_succ]; omega

theorem sm_single {n k : Nat} (h : k < n) (f : Nat → Int) (hz : ∀ i, i < n → i ≠ k → f i = 0) : sm n f = f k := by
  induction n with
  | zero => omega
  | succ n ih =>
    rw [sm_succ]
    by_cases e : k = n
    · subst e
      rw [sm_congr (g := fun _ => 0) (fun i hi => hz i (by omega) (by omega)), sm_const_zero]; omega
    · rw [ih (by omega) (fun i hi hne => hz i (by omega) hne), hz n (by omega) (by omega)]; omega

theorem sm_front (n : Nat) (f : Nat → Int) : sm (n + 1) f = f 0 + sm n (fun i => f (i + 1)) := by
  rw [show n + 1 = 1 + n by omega, sm_split]
  simp only [sm, Int.zero_add]
  congr 1
  exact sm_congr fun i _ => by rw [Nat.add_comm]

theorem sm_back (n : Nat) (f : Nat → Int) : sm n (fun i => f (n - 1 - i)) = sm n f := by
  induction n generalizing f with
  | zero => rfl
  | succ n ih =>
    rw [sm_front n (fun i => f (n + 1 - 1 - i)), sm_succ]
    have : sm n (fun i => f (n + 1 - 1 - (i + 1))) = sm n f := by
      rw [← ih f]
      exact sm_congr fun i hi => by congr 1; omega
    rw [this]
    simp only [Nat.add_sub_cancel, Nat.sub_zero]
    omega

/-- a and b are the same modulo p. -/
def Cg (p a b : Int) : Prop := ∃ c, a = b + p * c

theorem Cg.refl (p a : Int) : Cg p a a := ⟨0, by simp⟩
theorem Cg.of_eq {p a b : Int} (h : a = b) : Cg p a b := h ▸ Cg.refl p a
theorem Cg.symm {p a b : Int} : Cg p a b → Cg p b a := fun ⟨c, h⟩ => ⟨-c, by grind⟩
theorem Cg.trans {p a b c : Int} : Cg p a b → Cg p b c → Cg p a c := fun ⟨x, h⟩ ⟨y, h'⟩ => ⟨x + y, by grind⟩
theorem Cg.add {p a b c d : Int} : Cg p a b → Cg p c d → Cg p (a + c) (b + d) := fun ⟨x, h⟩ ⟨y, h'⟩ => ⟨x + y, by grind⟩
theorem Cg.sub {p a b c d : Int} : Cg p a b → Cg p c d → Cg p (a - c) (b - d) := fun ⟨x, h⟩ ⟨y, h'⟩ => ⟨x - y, by grind⟩
theorem Cg.mul {p a b c d : Int} : Cg p a b → Cg p c d → Cg p (a * c) (b * d) := fun ⟨x, h⟩ ⟨y, h'⟩ => ⟨x * d + b * y + p * x * y, by grind⟩
theorem Cg.neg {p a b : Int} : Cg p a b → Cg p (-a) (-b) := fun ⟨x, h⟩ => ⟨-x, by grind⟩
theorem Cg.mod (p a : Int) : Cg p (a % p) a := ⟨-(a / p), by have := Int.emod_add_mul_ediv a p; grind⟩
theorem Cg.emod_eq {p a b : Int} : Cg p a b → a % p = b % p := fun ⟨c, h⟩ => by rw [h, Int.add_mul_emod_self_left]
theorem Cg.of_emod {p a b : Int} (h : a % p = b % p) : Cg p a b := (Cg.mod p a).symm.trans (h ▸ Cg.mod p b)
theorem Cg.self (p : Int) : Cg p p 0 := ⟨1, by simp⟩

theorem Cg.pow {p a b : Int} (h : Cg p a b) (n : Nat) : Cg p (a ^ n) (b ^ n) := by
  induction n with
  | zero => exact Cg.of_eq (by simp)
  | succ n ih => rw [Int.pow_succ, Int.pow_succ]; exact ih.mul h

theorem Cg.sm {p : Int} {n : Nat} {f g : Nat → Int} (h : ∀ i, i < n → Cg p (f i) (g i)) : Cg p (sm n f) (sm n g) := by
  induction n with
  | zero => exact Cg.refl _ _
  | succ n ih => exact (ih (fun i hi => h i (by omega))).add (h n (by omega))

theorem pow_mul' (w : Int) (a b : Nat) : w ^ (a * b) = (w ^ a) ^ b := by
  induction b with
  | zero => simp
  | succ b ih => rw [Nat.mul_succ, Int.pow_add, ih, Int.pow_succ]

theorem one_pow' (n : Nat) : (1 : Int) ^ n = 1 := by
  induction n with
  | zero => rfl
  | succ n ih => rw [Int.pow_succ, ih]; rfl

/-- w is a root of 1 whose power with half as many is -1: of as many as 2^L. -/
def Rt (p w : Int) : Nat → Prop
  | 0 => Cg p w 1
  | L + 1 => Cg p (w ^ 2 ^ L) (-1)

theorem Rt.one {p w : Int} {L : Nat} (h : Rt p w L) : Cg p (w ^ 2 ^ L) 1 := by
  cases L with
  | zero => rw [show (2 : Nat) ^ 0 = 0 + 1 from rfl, Int.pow_succ, Int.pow_zero, Int.one_mul]; exact h
  | succ L =>
    have h' : Cg p (w ^ 2 ^ L) (-1) := h
    rw [show 2 ^ (L + 1) = 2 ^ L * 2 by rw [Nat.pow_succ], pow_mul']
    exact (h'.pow 2).trans (Cg.of_eq (by decide))

theorem Rt.sq {p w : Int} {L : Nat} (h : Rt p w (L + 1)) : Rt p (w ^ 2) L := by
  cases L with
  | zero =>
    have h' : Cg p (w ^ 2 ^ 0) (-1) := h
    have h2 : Cg p w (-1) := by rw [show (2 : Nat) ^ 0 = 0 + 1 from rfl, Int.pow_succ, Int.pow_zero, Int.one_mul] at h'; exact h'
    exact (h2.pow 2).trans (Cg.of_eq (by decide))
  | succ L =>
    have h' : Cg p (w ^ 2 ^ (L + 1)) (-1) := h
    show Cg p ((w ^ 2) ^ 2 ^ L) (-1)
    rw [← pow_mul', show 2 * 2 ^ L = 2 ^ (L + 1) by rw [Nat.pow_succ, Nat.mul_comm]]
    exact h'

theorem neg_one_odd (d : Nat) : ((-1 : Int)) ^ (2 * d + 1) = -1 := by
  induction d with
  | zero => decide
  | succ d ih => rw [show 2 * (d + 1) + 1 = (2 * d + 1) + 1 + 1 by omega, Int.pow_succ, Int.pow_succ, ih]; decide

/-- The sum of a root's powers is 0. -/
theorem Rt.orth {p : Int} (L : Nat) : ∀ (w : Int) (d : Nat), Rt p w L → 0 < d → d < 2 ^ L → Cg p (sm (2 ^ L) (fun j => w ^ (d * j))) 0 := by
  induction L with
  | zero => intro w d _ h0 h1; simp at h1; omega
  | succ L ih =>
    intro w d hw h0 h1
    have hs : 2 ^ (L + 1) = 2 ^ L + 2 ^ L := by rw [Nat.pow_succ]; omega
    rw [hs, sm_split]
    rcases Nat.mod_two_eq_zero_or_one d with e | e
    · obtain ⟨f, rfl⟩ : ∃ f, d = 2 * f := ⟨d / 2, by omega⟩
      have hh := ih (w ^ 2) f hw.sq (by omega) (by omega)
      have h1' : Cg p (sm (2 ^ L) (fun j => w ^ (2 * f * j))) 0 :=
        (Cg.sm (fun j _ => Cg.of_eq (by rw [Nat.mul_assoc, pow_mul']))).trans hh
      have h2' : Cg p (sm (2 ^ L) (fun j => w ^ (2 * f * (2 ^ L + j)))) 0 := by
        refine (Cg.sm (g := fun j => w ^ (2 * f * j)) fun j _ => ?_).trans h1'
        rw [Nat.mul_add, Int.pow_add]
        have : Cg p (w ^ (2 * f * 2 ^ L)) 1 := by
          rw [show 2 * f * 2 ^ L = 2 ^ (L + 1) * f by rw [Nat.pow_succ]; grind, pow_mul']
          exact (hw.one.pow f).trans (Cg.of_eq (one_pow' f))
        exact (this.mul (Cg.refl p _)).trans (Cg.of_eq (by simp))
      exact (h1'.add h2').trans (Cg.of_eq (by simp))
    · obtain ⟨f, rfl⟩ : ∃ f, d = 2 * f + 1 := ⟨d / 2, by omega⟩
      have hx : Cg p (w ^ ((2 * f + 1) * 2 ^ L)) (-1) := by
        rw [Nat.mul_comm, pow_mul']
        have h' : Cg p (w ^ 2 ^ L) (-1) := hw
        exact (h'.pow _).trans (Cg.of_eq (neg_one_odd f))
      have h2' : Cg p (sm (2 ^ L) (fun j => w ^ ((2 * f + 1) * (2 ^ L + j)))) (-(sm (2 ^ L) (fun j => w ^ ((2 * f + 1) * j)))) := by
        rw [show (-(sm (2 ^ L) (fun j => w ^ ((2 * f + 1) * j)))) = -1 * sm (2 ^ L) (fun j => w ^ ((2 * f + 1) * j)) by omega, ← sm_mul]
        refine Cg.sm fun j _ => ?_
        rw [Nat.mul_add, Int.pow_add]
        exact hx.mul (Cg.refl p _)
      exact ((Cg.refl p _).add h2').trans (Cg.of_eq (by omega))
/-- The m bits of i, the other way round. -/
def R : Nat → Nat → Nat
  | 0, _ => 0
  | m + 1, i => (i % 2) * 2 ^ m + R m (i / 2)

theorem R_lt (m i : Nat) : R m i < 2 ^ m := by
  induction m generalizing i with
  | zero => simp [R]
  | succ m ih =>
    have h := ih (i / 2)
    have h2 : i % 2 = 0 ∨ i % 2 = 1 := by omega
    rw [Nat.pow_succ]
    show (i % 2) * 2 ^ m + R m (i / 2) < _
    rcases h2 with e | e <;> rw [e] <;> omega

theorem R_even (m b : Nat) : R (m + 1) (2 * b) = R m b := by
  show ((2 * b) % 2) * 2 ^ m + R m (2 * b / 2) = _
  rw [show 2 * b % 2 = 0 by omega, show 2 * b / 2 = b by omega]; omega

theorem R_odd (m b : Nat) : R (m + 1) (2 * b + 1) = 2 ^ m + R m b := by
  show ((2 * b + 1) % 2) * 2 ^ m + R m ((2 * b + 1) / 2) = _
  rw [show (2 * b + 1) % 2 = 1 by omega, show (2 * b + 1) / 2 = b by omega]; omega

theorem R_top (m x y : Nat) (hx : x ≤ 1) (hy : y < 2 ^ m) : R (m + 1) (x * 2 ^ m + y) = x + 2 * R m y := by
  induction m generalizing y with
  | zero =>
    have : y = 0 := by simpa using hy
    subst this
    show ((x * 2 ^ 0 + 0) % 2) * 2 ^ 0 + R 0 _ = x + 2 * R 0 0
    simp [R]; omega
  | succ m ih =>
    have hp : 2 ^ (m + 1) = 2 * 2 ^ m := by rw [Nat.pow_succ, Nat.mul_comm]
    have e1 : (x * 2 ^ (m + 1) + y) % 2 = y % 2 := by
      rw [hp, show x * (2 * 2 ^ m) + y = 2 * (x * 2 ^ m) + y by rw [Nat.mul_left_comm]]; omega
    have e2 : (x * 2 ^ (m + 1) + y) / 2 = x * 2 ^ m + y / 2 := by
      rw [hp, show x * (2 * 2 ^ m) + y = 2 * (x * 2 ^ m) + y by rw [Nat.mul_left_comm]]; omega
    show ((x * 2 ^ (m + 1) + y) % 2) * 2 ^ (m + 1) + R (m + 1) ((x * 2 ^ (m + 1) + y) / 2) = _
    rw [e1, e2, ih (y / 2) (by omega)]
    show (y % 2) * 2 ^ (m + 1) + (x + 2 * R m (y / 2)) = x + 2 * ((y % 2) * 2 ^ m + R m (y / 2))
    rw [hp]
    have : y % 2 * (2 * 2 ^ m) = 2 * (y % 2 * 2 ^ m) := by rw [Nat.mul_left_comm]
    omega

theorem R_R (m i : Nat) (h : i < 2 ^ m) : R m (R m i) = i := by
  induction m generalizing i with
  | zero => simp at h; subst h; rfl
  | succ m ih =>
    have hp : 2 ^ (m + 1) = 2 * 2 ^ m := by rw [Nat.pow_succ, Nat.mul_comm]
    show R (m + 1) ((i % 2) * 2 ^ m + R m (i / 2)) = i
    rw [R_top m _ _ (by omega) (R_lt m _), ih (i / 2) (by omega)]
    omega

theorem R_inj {m i j : Nat} (hi : i < 2 ^ m) (hj : j < 2 ^ m) (h : R m i = R m j) : i = j := by
  rw [← R_R m i hi, ← R_R m j hj, h]

/-- What ntt.order computes, from out and i on, n rounds. -/
def rv : Nat → Nat → Nat → Nat
  | 0, out, _ => out
  | n + 1, out, i => rv n (2 * out + i % 2) (i / 2)

theorem rv_R (n out i : Nat) : rv n out i = out * 2 ^ n + R n i := by
  induction n generalizing out i with
  | zero => simp [rv, R]
  | succ n ih =>
    show rv n (2 * out + i % 2) (i / 2) = out * 2 ^ (n + 1) + ((i % 2) * 2 ^ n + R n (i / 2))
    rw [ih, Nat.pow_succ, Nat.add_mul]
    have : out * (2 ^ n * 2) = 2 * out * 2 ^ n := by grind
    omega

/-- The block behind s stages. -/
def dftS (p W : Int) (L : Nat) (l : Nat → Int) (s x : Nat) : Int :=
  sm (2 ^ s) (fun i => l (R (L - s) (x / 2 ^ s) + i * 2 ^ (L - s)) * W ^ (2 ^ (L - s) * (i * (x % 2 ^ s)))) % p

/-- One stage. -/
def stageF (p w : Int) (half : Nat) (G : Nat → Int) (x : Nat) : Int :=
  if x % (2 * half) < half then (G x + G (x + half) * (w ^ (x % (2 * half)) % p) % p) % p
  else (G (x - half) - G x * (w ^ (x % (2 * half) - half) % p) % p) % p

theorem dftS_zero (p W : Int) (L : Nat) (l : Nat → Int) (x : Nat) : dftS p W L l 0 x = l (R L x) % p := by
  unfold dftS
  simp [sm, Nat.mod_one]

theorem dftS_last (p W : Int) (L : Nat) (l : Nat → Int) (x : Nat) (h : x < 2 ^ L) : dftS p W L l L x = sm (2 ^ L) (fun i => l i * W ^ (i * x)) % p := by
  unfold dftS
  rw [Nat.sub_self, Nat.div_eq_of_lt h, Nat.mod_eq_of_lt h]
  simp [R]

theorem pow_cg_one {p a : Int} (h : Cg p a 1) (n : Nat) : Cg p (a ^ n) 1 := (h.pow n).trans (Cg.of_eq (one_pow' n))

theorem dft_stage {p W : Int} {L s : Nat} (hs : s < L) (hW : Rt p W L) (l : Nat → Int) (x : Nat) :
    stageF p (W ^ (2 ^ (L - s - 1)) % p) (2 ^ s) (dftS p W L l s) x = dftS p W L l (s + 1) x := by
  obtain ⟨m, hm⟩ : ∃ m, L - s = m + 1 := ⟨L - s - 1, by omega⟩
  have hm1 : L - s - 1 = m := by omega
  have hm2 : L - (s + 1) = m := by omega
  have hL : L = s + m + 1 := by omega
  have hh : 2 ^ (s + 1) = 2 * 2 ^ s := by rw [Nat.pow_succ, Nat.mul_comm]
  have hD : 2 ^ (m + 1) = 2 * 2 ^ m := by rw [Nat.pow_succ, Nat.mul_comm]
  have hpos : 0 < 2 ^ s := Nat.pow_pos (by omega)
  have hneg : Cg p (W ^ (2 ^ m * 2 ^ s)) (-1) := by
    rw [← Nat.pow_add, Nat.add_comm]
    subst hL
    exact hW
  unfold dftS
  rw [hm, hm2, hh, sm_even_odd, Nat.add_sub_cancel]
  generalize hb : x / (2 * 2 ^ s) = b
  generalize hr : x % (2 * 2 ^ s) = r
  have hx : x = 2 * 2 ^ s * b + r := by rw [← hb, ← hr]; exact (Nat.div_add_mod _ _).symm
  have hrl : r < 2 * 2 ^ s := by rw [← hr]; exact Nat.mod_lt _ (by omega)
  -- the two halves
  have key : ∀ (q : Nat), q < 2 ^ s → ∀ y z, y = 2 * 2 ^ s * b + q → z = 2 * 2 ^ s * b + 2 ^ s + q →
      sm (2 ^ s) (fun i => l (R (m + 1) (y / 2 ^ s) + i * 2 ^ (m + 1)) * W ^ (2 ^ (m + 1) * (i * (y % 2 ^ s)))) = sm (2 ^ s) (fun i => l (R m b + 2 * i * 2 ^ m) * W ^ (2 ^ m * (2 * i * q))) ∧
      sm (2 ^ s) (fun i => l (R (m + 1) (z / 2 ^ s) + i * 2 ^ (m + 1)) * W ^ (2 ^ (m + 1) * (i * (z % 2 ^ s)))) = sm (2 ^ s) (fun i => l (R m b + (2 * i + 1) * 2 ^ m) * W ^ (2 ^ m * (2 * i * q))) := by
    intro q hq y z hy hz
    have y1 : y / 2 ^ s = 2 * b := by
      rw [hy, show 2 * 2 ^ s * b + q = 2 ^ s * (2 * b) + q by grind, Nat.mul_add_div hpos, Nat.div_eq_of_lt hq, Nat.add_zero]
    have y2 : y % 2 ^ s = q := by
      rw [hy, show 2 * 2 ^ s * b + q = q + 2 ^ s * (2 * b) by grind, Nat.add_mul_mod_self_left, Nat.mod_eq_of_lt hq]
    have z1 : z / 2 ^ s = 2 * b + 1 := by
      rw [hz, show 2 * 2 ^ s * b + 2 ^ s + q = 2 ^ s * (2 * b + 1) + q by grind, Nat.mul_add_div hpos, Nat.div_eq_of_lt hq, Nat.add_zero]
    have z2 : z % 2 ^ s = q := by
      rw [hz, show 2 * 2 ^ s * b + 2 ^ s + q = q + 2 ^ s * (2 * b + 1) by grind, Nat.add_mul_mod_self_left, Nat.mod_eq_of_lt hq]
    rw [y1, y2, z1, z2, R_even, R_odd, hD]
    refine ⟨sm_congr fun i _ => ?_, sm_congr fun i _ => ?_⟩
    · rw [show i * (2 * 2 ^ m) = 2 * i * 2 ^ m by grind, show 2 * 2 ^ m * (i * q) = 2 ^ m * (2 * i * q) by grind]
    · rw [show 2 ^ m + R m b + i * (2 * 2 ^ m) = R m b + (2 * i + 1) * 2 ^ m by grind, show 2 * 2 ^ m * (i * q) = 2 ^ m * (2 * i * q) by grind]
  unfold stageF
  rw [hr]
  by_cases hc : r < 2 ^ s
  · rw [if_pos hc]
    obtain ⟨k1, k2⟩ := key r hc x (x + 2 ^ s) hx (by omega)
    simp only []
    rw [k1, k2]
    refine Cg.emod_eq ((Cg.mod _ _).add ((Cg.mod _ _).trans ?_))
    refine ((Cg.mod _ _).mul ((Cg.mod _ _).trans ((Cg.mod _ _).pow r))).trans (Cg.of_eq ?_)
    rw [← sm_mul_right]
    refine sm_congr fun i _ => ?_
    rw [Int.mul_assoc, ← pow_mul', ← Int.pow_add, show 2 ^ m * (2 * i * r) + 2 ^ m * r = 2 ^ m * ((2 * i + 1) * r) by grind]
  · rw [if_neg hc]
    obtain ⟨k1, k2⟩ := key (r - 2 ^ s) (by omega) (x - 2 ^ s) x (by omega) (by omega)
    simp only []
    rw [k1, k2]
    refine Cg.emod_eq (((Cg.mod _ _).sub ((Cg.mod _ _).trans ((Cg.mod _ _).mul ((Cg.mod _ _).trans ((Cg.mod _ _).pow _))))).trans ?_)
    generalize hq : r - 2 ^ s = q
    have hrq : r = 2 ^ s + q := by omega
    have he : Cg p (sm (2 ^ s) (fun i => l (R m b + 2 * i * 2 ^ m) * W ^ (2 ^ m * (2 * i * q)))) (sm (2 ^ s) (fun i => l (R m b + 2 * i * 2 ^ m) * W ^ (2 ^ m * (2 * i * r)))) := by
      refine Cg.sm fun i _ => (Cg.refl _ _).mul ?_
      rw [hrq, show 2 ^ m * (2 * i * (2 ^ s + q)) = (2 ^ m * 2 ^ s) * (2 * i) + 2 ^ m * (2 * i * q) by grind, Int.pow_add, pow_mul' W (2 ^ m * 2 ^ s) (2 * i)]
      have h1 : Cg p ((W ^ (2 ^ m * 2 ^ s)) ^ (2 * i)) 1 := by
        rw [pow_mul']
        exact pow_cg_one ((hneg.pow 2).trans (Cg.of_eq (by decide))) i
      exact ((h1.mul (Cg.refl p _)).trans (Cg.of_eq (Int.one_mul _))).symm
    have ho : Cg p (sm (2 ^ s) (fun i => l (R m b + (2 * i + 1) * 2 ^ m) * W ^ (2 ^ m * (2 * i * q))) * (W ^ 2 ^ m) ^ q) (-(sm (2 ^ s) (fun i => l (R m b + (2 * i + 1) * 2 ^ m) * W ^ (2 ^ m * ((2 * i + 1) * r))))) := by
      rw [← sm_mul_right, show ∀ y : Int, -y = -1 * y by intro y; omega, ← sm_mul]
      refine Cg.sm fun i _ => ?_
      rw [Int.mul_assoc, ← pow_mul', ← Int.pow_add, hrq]
      have h1 : Cg p (W ^ (2 ^ m * ((2 * i + 1) * (2 ^ s + q)))) (-1 * W ^ (2 ^ m * (2 * i * q) + 2 ^ m * q)) := by
        rw [show 2 ^ m * ((2 * i + 1) * (2 ^ s + q)) = (2 ^ m * 2 ^ s) * (2 * i + 1) + (2 ^ m * (2 * i * q) + 2 ^ m * q) by grind, Int.pow_add, pow_mul']
        exact ((hneg.pow _).trans (Cg.of_eq (neg_one_odd i))).mul (Cg.refl _ _)
      exact (((Cg.refl p (-1)).mul ((Cg.refl p _).mul h1)).trans (Cg.of_eq (by grind))).symm
    exact (he.sub ho).trans (Cg.of_eq (by omega))

theorem orth_all {p w : Int} {L : Nat} (hw : Rt p w L) (e : Nat) : Cg p (sm (2 ^ L) (fun x => w ^ (e * x))) (if e % 2 ^ L = 0 then ((2 ^ L : Nat) : Int) else 0) := by
  have hd : e = 2 ^ L * (e / 2 ^ L) + e % 2 ^ L := (Nat.div_add_mod _ _).symm
  generalize hq : e / 2 ^ L = q at hd
  generalize hr : e % 2 ^ L = r at hd
  have h1 : Cg p (sm (2 ^ L) (fun x => w ^ (e * x))) (sm (2 ^ L) (fun x => w ^ (r * x))) := by
    refine Cg.sm fun x _ => ?_
    rw [hd, show (2 ^ L * q + r) * x = 2 ^ L * (q * x) + r * x by grind, Int.pow_add, pow_mul']
    exact ((pow_cg_one hw.one (q * x)).mul (Cg.refl p _)).trans (Cg.of_eq (Int.one_mul _))
  refine h1.trans ?_
  by_cases h0 : r = 0
  · rw [if_pos h0, h0]
    refine Cg.of_eq ?_
    rw [← sm_one]
    exact sm_congr fun i _ => by simp
  · rw [if_neg h0]
    exact Rt.orth L w r hw (by omega) (by rw [← hr]; exact Nat.mod_lt _ (Nat.pow_pos (by omega)))

theorem inv_pow {p w v : Int} {n i : Nat} (h : Cg p (w * v) 1) (hw : Cg p (w ^ n) 1) (hi : i ≤ n) : Cg p (v ^ i) (w ^ (n - i)) := by
  have h1 : Cg p (w ^ (n - i) * (w * v) ^ i) (w ^ (n - i)) := ((Cg.refl p _).mul (pow_cg_one h i)).trans (Cg.of_eq (Int.mul_one _))
  refine Cg.trans ?_ h1
  have : w ^ (n - i) * (w * v) ^ i = w ^ n * v ^ i := by
    have e : w ^ n = w ^ (n - i) * w ^ i := by rw [← Int.pow_add]; congr 1; omega
    rw [e, Int.mul_pow, Int.mul_assoc]
  rw [this]
  exact ((hw.mul (Cg.refl p _)).trans (Cg.of_eq (Int.one_mul _))).symm

/-- Summing over the places the other way round. -/
theorem sm_turn {n : Nat} (hn : 0 < n) (F : Nat → Int) : sm n (fun u => F ((n - u) % n)) = sm n F := by
  obtain ⟨m, rfl⟩ : ∃ m, n = m + 1 := ⟨n - 1, by omega⟩
  rw [sm_front, sm_front]
  congr 1
  · simp
  · rw [← sm_back m]
    refine sm_congr fun i hi => ?_
    rw [Nat.mod_eq_of_lt (by omega)]
    congr 1
    omega

/-- The transform's numbers. -/
def T (p W : Int) (n : Nat) (l : Nat → Int) (x : Nat) : Int := sm n (fun i => l i * W ^ (i * x)) % p

theorem corr {p W V N : Int} {L m i : Nat} (hW : Rt p W L) (hV : Cg p (W * V) 1) (hN : Cg p (N * ((2 ^ L : Nat) : Int)) 1) (pat t : Nat → Int) (hi : i + m ≤ 2 ^ L) (hm : 0 < m) :
    (T p V (2 ^ L) (fun x => T p W (2 ^ L) t x * T p W (2 ^ L) (fun u => if (2 ^ L - u) % 2 ^ L < m then pat ((2 ^ L - u) % 2 ^ L) else 0) x % p) i * N) % p = sm m (fun j => pat j * t (i + j)) % p := by
  have hn : 0 < 2 ^ L := Nat.pow_pos (by omega)
  generalize hn' : 2 ^ L = n at *
  refine Cg.emod_eq ?_
  generalize ha : (fun u => if (n - u) % n < m then pat ((n - u) % n) else 0) = a
  have h1 : Cg p (T p V n (fun x => T p W n t x * T p W n a x % p) i) (sm n (fun x => (sm n (fun v => t v * W ^ (v * x)) * sm n (fun u => a u * W ^ (u * x))) * W ^ ((n - i) * x))) := by
    refine (Cg.mod _ _).trans (Cg.sm fun x _ => Cg.mul ((Cg.mod _ _).trans ((Cg.mod _ _).mul (Cg.mod _ _))) ?_)
    have hw1 : Cg p (W ^ n) 1 := by rw [← hn']; exact hW.one
    rw [Nat.mul_comm x i, pow_mul', pow_mul']
    exact (inv_pow hV hw1 (by omega)).pow x
  have h2 : sm n (fun x => (sm n (fun v => t v * W ^ (v * x)) * sm n (fun u => a u * W ^ (u * x))) * W ^ ((n - i) * x)) =
      sm n (fun u => sm n (fun v => a u * t v * sm n (fun x => W ^ ((u + v + (n - i)) * x)))) := by
    have e1 : ∀ x, (sm n (fun v => t v * W ^ (v * x)) * sm n (fun u => a u * W ^ (u * x))) * W ^ ((n - i) * x) = sm n (fun u => sm n (fun v => a u * t v * W ^ ((u + v + (n - i)) * x))) := by
      intro x
      rw [← sm_mul, ← sm_mul_right]
      refine sm_congr fun u _ => ?_
      rw [← sm_mul_right, ← sm_mul_right]
      refine sm_congr fun v _ => ?_
      rw [show (u + v + (n - i)) * x = v * x + u * x + (n - i) * x by grind, Int.pow_add, Int.pow_add]
      grind
    rw [sm_congr (fun x _ => e1 x), sm_swap]
    refine sm_congr fun u _ => ?_
    rw [sm_swap]
    refine sm_congr fun v _ => ?_
    rw [sm_mul]
  rw [h2] at h1
  have h3 : Cg p (sm n (fun u => sm n (fun v => a u * t v * sm n (fun x => W ^ ((u + v + (n - i)) * x))))) (((n : Nat) : Int) * sm m (fun j => pat j * t (i + j))) := by
    have e1 : Cg p (sm n (fun u => sm n (fun v => a u * t v * sm n (fun x => W ^ ((u + v + (n - i)) * x))))) (sm n (fun u => sm n (fun v => a u * t v * (if (u + v + (n - i)) % n = 0 then ((n : Nat) : Int) else 0)))) := by
      refine Cg.sm fun u _ => Cg.sm fun v _ => (Cg.refl p _).mul ?_
      have := orth_all hW (u + v + (n - i))
      rw [hn'] at this
      exact this
    refine e1.trans (Cg.of_eq ?_)
    have e2 : ∀ u, u < n → sm n (fun v => a u * t v * (if (u + v + (n - i)) % n = 0 then ((n : Nat) : Int) else 0)) = (fun j => if j < m then ((n : Nat) : Int) * (pat j * t (i + j)) else 0) ((n - u) % n) := by
      intro u hu
      simp only []
      have hau : a u = if (n - u) % n < m then pat ((n - u) % n) else 0 := by rw [← ha]
      generalize hj : (n - u) % n = j at hau
      have hjn : j < n := by rw [← hj]; exact Nat.mod_lt _ hn
      by_cases hjm : j < m
      · rw [if_pos hjm] at hau ⊢
        rw [sm_single (k := i + j) (by omega)]
        · rw [hau, if_pos]
          · grind
          · have : u = 0 ∧ j = 0 ∨ u + j = n := by
              rcases Nat.eq_zero_or_pos u with h | h
              · left; subst h; simp at hj; exact ⟨rfl, hj.symm⟩
              · right; rw [Nat.mod_eq_of_lt (by omega)] at hj; omega
            rcases this with ⟨h1, h2⟩ | h
            · rw [h1, h2, show 0 + (i + 0) + (n - i) = n by omega, Nat.mod_self]
            · rw [show u + (i + j) + (n - i) = n + n by omega, Nat.add_mod_right, Nat.mod_self]
        · intro v hv hne
          rw [if_neg, Int.mul_zero]
          intro h0
          apply hne
          have hd := Nat.dvd_of_mod_eq_zero h0
          obtain ⟨q, hq⟩ := hd
          have : u = 0 ∧ j = 0 ∨ u + j = n := by
            rcases Nat.eq_zero_or_pos u with h | h
            · left; subst h; simp at hj; exact ⟨rfl, hj.symm⟩
            · right; rw [Nat.mod_eq_of_lt (by omega)] at hj; omega
          have hq1 : q = 1 ∨ q = 2 ∨ q = 0 ∨ 3 ≤ q := by omega
          rcases hq1 with e | e | e | e
          · rw [e] at hq; omega
          · rw [e] at hq; omega
          · rw [e] at hq; omega
          · have : n * 3 ≤ n * q := Nat.mul_le_mul_left _ e
            omega
      · rw [if_neg hjm] at hau ⊢
        rw [hau, sm_congr (g := fun _ => 0) (fun v _ => by simp), sm_const_zero]
    rw [sm_congr e2, sm_turn hn (fun j => if j < m then ((n : Nat) : Int) * (pat j * t (i + j)) else 0)]
    have hsplit : n = m + (n - m) := by omega
    rw [show sm n (fun j => if j < m then ((n : Nat) : Int) * (pat j * t (i + j)) else 0) = sm (m + (n - m)) (fun j => if j < m then ((n : Nat) : Int) * (pat j * t (i + j)) else 0) by rw [← hsplit], sm_split]
    rw [sm_congr (g := fun j => ((n : Nat) : Int) * (pat j * t (i + j))) (fun j hj => if_pos hj), sm_mul, sm_congr (g := fun _ => 0) (fun j _ => if_neg (by omega)), sm_const_zero, Int.add_zero]
  have h4 := (h1.trans h3).mul (Cg.refl p N)
  refine h4.trans ?_
  rw [show ((n : Nat) : Int) * sm m (fun j => pat j * t (i + j)) * N = N * ((n : Nat) : Int) * sm m (fun j => pat j * t (i + j)) by grind]
  exact (hN.mul (Cg.refl p _)).trans (Cg.of_eq (Int.one_mul _))

/-- a to the e, modulo p, by squares. -/
def pm (p : Nat) : Nat → Nat → Nat → Nat
  | 0, _, _ => 1
  | f + 1, a, e => if e = 0 then 1 else if e % 2 = 1 then a * pm p f (a * a % p) (e / 2) % p else pm p f (a * a % p) (e / 2)

theorem pm_cg (p : Nat) : ∀ (f a e : Nat), e < 2 ^ f → Cg (p : Int) ((pm p f a e : Nat) : Int) ((a : Int) ^ e)
  | 0, a, e, h => by
    have : e = 0 := by simpa using h
    subst this
    exact Cg.of_eq (by simp [pm])
  | f + 1, a, e, h => by
    unfold pm
    by_cases h0 : e = 0
    · rw [if_pos h0, h0]; exact Cg.of_eq (by simp)
    · rw [if_neg h0]
      have ih := pm_cg p f (a * a % p) (e / 2) (by rw [Nat.pow_succ] at h; omega)
      have hsq : Cg (p : Int) ((a * a % p : Nat) : Int) ((a : Int) * a) := by
        rw [Int.natCast_emod, Int.natCast_mul]; exact Cg.mod _ _
      have h2 : Cg (p : Int) ((pm p f (a * a % p) (e / 2) : Nat) : Int) ((a : Int) ^ (2 * (e / 2))) := by
        refine ih.trans ((hsq.pow _).trans (Cg.of_eq ?_))
        rw [pow_mul', show (2 : Nat) = 0 + 1 + 1 from rfl, Int.pow_succ, Int.pow_succ, Int.pow_zero, Int.one_mul]
      by_cases h1 : e % 2 = 1
      · rw [if_pos h1, Int.natCast_emod, Int.natCast_mul]
        refine (Cg.mod _ _).trans (((Cg.refl _ _).mul h2).trans (Cg.of_eq ?_))
        rw [Int.mul_comm, ← Int.pow_succ]
        congr 1; omega
      · rw [if_neg h1]
        refine h2.trans (Cg.of_eq ?_)
        congr 1; omega

theorem facts_of (p : Nat) (h12 : 4096 ∣ p - 1) (hp : 2 ≤ p) (hp' : p < 2 ^ 32) (h3 : pm p 32 3 ((p - 1) / 2) = p - 1) (h2 : pm p 32 2 (p - 1) = 1) (L : Nat) (hL : L ≤ 12) (W : Int)
    (hW : Cg (p : Int) W (3 ^ ((p - 1) / 2 ^ L))) : Rt (p : Int) W L ∧ Cg (p : Int) (W * W ^ (p - 2)) 1 ∧ Cg (p : Int) ((((2 ^ L : Nat) : Int) ^ (p - 2)) * ((2 ^ L : Nat) : Int)) 1 := by
  have c3 : Cg (p : Int) ((3 : Int) ^ ((p - 1) / 2)) (-1) := by
    have := (pm_cg p 32 3 ((p - 1) / 2) (by omega)).symm
    rw [h3] at this
    refine this.trans ⟨1, ?_⟩
    omega
  have c2 : Cg (p : Int) ((2 : Int) ^ (p - 1)) 1 := by
    have := (pm_cg p 32 2 (p - 1) (by omega)).symm
    rw [h2] at this
    exact this
  have hdiv : 2 ^ L ∣ p - 1 := Nat.dvd_trans (by rw [show 4096 = 2 ^ 12 from rfl]; exact Nat.pow_dvd_pow 2 hL) h12
  obtain ⟨q, hq⟩ := hdiv
  have hpos : 0 < 2 ^ L := Nat.pow_pos (by omega)
  have hqq : (p - 1) / 2 ^ L = q := by rw [hq, Nat.mul_div_cancel_left _ hpos]
  rw [hqq] at hW
  have hpe : ∃ r, p - 1 = 2 * r := by obtain ⟨z, hz⟩ := h12; exact ⟨2048 * z, by omega⟩
  obtain ⟨r, hr⟩ := hpe
  rw [show (p - 1) / 2 = r by omega] at c3
  have hone : Cg (p : Int) (3 ^ (p - 1)) 1 := by
    rw [hr, Nat.mul_comm, pow_mul']
    exact (c3.pow 2).trans (Cg.of_eq (by decide))
  have hRt : Rt (p : Int) W L := by
    cases L with
    | zero =>
      show Cg _ W 1
      refine hW.trans ?_
      rw [show q = p - 1 by simpa using hq.symm]
      exact hone
    | succ L =>
      show Cg _ (W ^ 2 ^ L) (-1)
      refine (hW.pow _).trans ?_
      rw [← pow_mul']
      have : q * 2 ^ L = r := by
        have h5 : 2 ^ (L + 1) * q = 2 * (q * 2 ^ L) := by rw [Nat.pow_succ]; grind
        omega
      rw [this]
      exact c3
  refine ⟨hRt, ?_, ?_⟩
  · have : W * W ^ (p - 2) = (W ^ 2 ^ L) ^ q := by
      rw [← pow_mul', ← hq, Int.mul_comm, ← Int.pow_succ]
      congr 1; omega
    rw [this]
    exact pow_cg_one hRt.one q
  · have : (((2 ^ L : Nat) : Int) ^ (p - 2)) * ((2 ^ L : Nat) : Int) = ((2 : Int) ^ (p - 1)) ^ L := by
      rw [← Int.pow_succ, Int.natCast_pow, ← pow_mul', ← pow_mul']
      show (2 : Int) ^ _ = 2 ^ _
      congr 1
      rw [Nat.mul_comm]
      congr 1
      omega
    rw [this]
    exact pow_cg_one c2 L


end Go.Proofs.Ytmadelflnjhibaa.NttM
