import Derived.Test.YtmadelflnjhibaaSl
namespace Go.Proofs.Ytmadelflnjhibaa
open Go.RowKit

theorem bits_zero : ∀ (n : Nat) (x : Int), 0 ≤ x → x < 2 ^ n → (∀ i, i < n → x / 2 ^ i % 2 = 0) → x = 0
  | 0, x, h0, h1, _ => by simp at h1; omega
  | n + 1, x, h0, h1, h => by
    have hp : (2 : Int) ^ (n + 1) = 2 ^ n * 2 := Int.pow_succ 2 n
    have h2 : x / 2 = 0 := by
      refine bits_zero n (x / 2) (by omega) (by omega) (fun i hi => ?_)
      have := h (i + 1) (by omega)
      rw [Int.pow_succ, Int.mul_comm, ← Int.ediv_ediv_of_nonneg (by omega : (0 : Int) ≤ 2)] at this
      exact this
    have h3 := h 0 (by omega)
    simp at h3
    omega

theorem bits_full : ∀ (n : Nat) (x : Int), 0 ≤ x → x < 2 ^ n → (∀ i, i < n → x / 2 ^ i % 2 = 1) → x = 2 ^ n - 1
  | 0, x, h0, h1, _ => by simp at h1 ⊢; omega
  | n + 1, x, h0, h1, h => by
    have hp : (2 : Int) ^ (n + 1) = 2 ^ n * 2 := Int.pow_succ 2 n
    have h2 : x / 2 = 2 ^ n - 1 := by
      refine bits_full n (x / 2) (by omega) (by omega) (fun i hi => ?_)
      have := h (i + 1) (by omega)
      rw [Int.pow_succ, Int.mul_comm, ← Int.ediv_ediv_of_nonneg (by omega : (0 : Int) ≤ 2)] at this
      exact this
    have h3 := h 0 (by omega)
    simp at h3
    omega

theorem cnt_zero {f : Nat → Bool} : ∀ {n : Nat}, cnt f n = 0 ↔ ∀ i, i < n → f i = false
  | 0 => by simp [cnt]
  | n + 1 => by
    have ih := cnt_zero (f := f) (n := n)
    unfold cnt
    constructor
    · intro h i hi
      by_cases e : i = n
      · subst e
        cases hf : f i
        · rfl
        · rw [hf] at h; simp at h
      · exact ih.1 (by omega) i (by omega)
    · intro h
      have := ih.2 (fun i hi => h i (by omega))
      rw [this, h n (by omega)]
      rfl
theorem cnt_full {f : Nat → Bool} : ∀ {n : Nat}, cnt f n = n ↔ ∀ i, i < n → f i = true
  | 0 => by simp [cnt]
  | n + 1 => by
    have ih := cnt_full (f := f) (n := n)
    have hle := cnt_le f n
    unfold cnt
    constructor
    · intro h i hi
      cases hf : f n
      · rw [hf] at h; simp at h; omega
      · by_cases e : i = n
        · subst e; exact hf
        · rw [hf] at h
          simp at h
          exact ih.1 h i (by omega)
    · intro h
      rw [ih.2 (fun i hi => h i (by omega)), h n (by omega)]
      rfl

theorem word_of {c d : Cls} (h : ∀ k, k < 4 → c.word k = d.word k) : c = d := by
  have h0 := h 0 (by decide)
  have h1 := h 1 (by decide)
  have h2 := h 2 (by decide)
  have h3 := h 3 (by decide)
  obtain ⟨c0, c1, c2, c3⟩ := c
  obtain ⟨d0, d1, d2, d3⟩ := d
  simp [Cls.word] at h0 h1 h2 h3
  simp [h0, h1, h2, h3]

theorem has_at (c : Cls) (k i : Nat) (hi : i < 64) : has c (64 * k + i) = (c.word k / 2 ^ i % 2 == 1) := by
  unfold has
  rw [show (64 * k + i) / 64 = k by omega, show (64 * k + i) % 64 = i by omega]

theorem size_none {c : Cls} (hc : c.ok) : sizeV c = 0 ↔ c = clsNone := by
  unfold sizeV
  rw [cnt_zero]
  constructor
  · intro h
    refine word_of fun k hk => ?_
    have hz : c.word k = 0 := bits_zero 64 _ (hc k).1 (by have := (hc k).2; omega) fun i hi => by
      have := h (64 * k + i) (by omega)
      rw [has_at c k i hi] at this
      simp at this
      omega
    rw [hz]
    simp [Cls.word, clsNone]
  · rintro rfl i hi
    have : (clsNone.word (i / 64)) = 0 := by simp [Cls.word, clsNone]
    unfold has
    rw [this]
    simp

theorem size_full {c : Cls} (hc : c.ok) : sizeV c = 256 ↔ c = clsAll := by
  unfold sizeV
  rw [cnt_full]
  have hall : ∀ k, clsAll.word k = 2 ^ 64 - 1 := by intro k; unfold Cls.word clsAll; split; rfl; split; rfl; split <;> rfl
  constructor
  · intro h
    refine word_of fun k hk => ?_
    have hz : c.word k = 2 ^ 64 - 1 := bits_full 64 _ (hc k).1 (by have := (hc k).2; omega) fun i hi => by
      have := h (64 * k + i) (by omega)
      rw [has_at c k i hi] at this
      simpa using this
    rw [hz, hall]
  · rintro rfl i hi
    unfold has
    rw [hall]
    have hm : i % 64 < 64 := by omega
    generalize i % 64 = j at *
    have key : ∀ j : Fin 64, (((2 : Int) ^ 64 - 1) / 2 ^ j.val % 2 == 1) = true := by decide
    exact key ⟨j, hm⟩

/-- As the document says it: which leaves may be. -/
theorem rightB_sizes {f : Nat → Cls} {n : Nat} {K : Int} (hcls : ∀ j, (f j).ok) : rightB f n K = (decide (1 ≤ n) && decide (n ≤ 64) && decide (0 ≤ K) && decide (K ≤ 64) && (List.range n).all fun j => !decide (sizeV (f j) = 0)) := by
  have h1 : inB f clsNone n = !((List.range n).all fun j => !decide (sizeV (f j) = 0)) := by
    rw [Bool.eq_iff_iff, inB_iff]
    unfold inV
    simp only [Bool.not_eq_true', List.all_eq_false, List.mem_range]
    constructor
    · rintro ⟨j, hj, e⟩
      exact ⟨j, hj, by simp [(size_none (hcls j)).2 e]⟩
    · rintro ⟨j, hj, e⟩
      exact ⟨j, hj, (size_none (hcls j)).1 (by simpa using e)⟩
  unfold rightB
  rw [h1]
  generalize ((List.range n).all fun j => !decide (sizeV (f j) = 0)) = b
  generalize decide (1 ≤ n) = b1
  generalize decide (n ≤ 64) = b2
  generalize decide (0 ≤ K) = b3
  generalize decide (K ≤ 64) = b4
  cases b <;> cases b1 <;> cases b2 <;> cases b3 <;> cases b4 <;> rfl
end Go.Proofs.Ytmadelflnjhibaa
