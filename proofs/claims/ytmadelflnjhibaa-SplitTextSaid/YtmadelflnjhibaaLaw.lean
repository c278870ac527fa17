import Derived.Test.YtmadelflnjhibaaRefE
namespace Go.Proofs.Ytmadelflnjhibaa
open NttM

theorem cnt_sm (f : Nat → Bool) : ∀ n, (cnt f n : Int) = sm n fun j => one (f j)
  | 0 => rfl
  | n + 1 => by
    rw [sm_succ, ← cnt_sm f n, show cnt f (n + 1) = cnt f n + if f n then 1 else 0 from rfl]
    cases f n <;> simp [one]

theorem sm_sub (n : Nat) (f g : Nat → Int) : sm n (fun i => f i - g i) = sm n f - sm n g := by
  induction n with
  | zero => rfl
  | succ n ih => simp only [sm_succ, ih]; omega

/-- The hits of some kinds, each once: of each place how many elements of these kinds are not missed. -/
theorem hitSum_sm (f : Nat → Cls) (s : ByteArray) (n i : Nat) : ∀ ks : List Cls, ks.Nodup → hitSum f s n ks i = sm n fun j => one (decide (f j ∈ ks) && has (f j) (byteV s (i + j)))
  | [], _ => by
    unfold hitSum
    rw [sm_congr (g := fun _ => 0) (fun j _ => by simp [one]), sm_const_zero]
  | c :: cs, h => by
    obtain ⟨h1, h2⟩ := List.nodup_cons.1 h
    unfold hitSum
    rw [hitSum_sm f s n i cs h2]
    unfold hitV slideV
    rw [← sm_add]
    refine sm_congr fun j _ => ?_
    dsimp only
    by_cases e : f j = c
    · have e2 : f j ∉ cs := by rw [e]; exact h1
      rw [show decide (f j ∈ c :: cs) = true from decide_eq_true (by rw [e]; exact List.mem_cons_self ..), decide_eq_false e2, decide_eq_true e, e]
      simp [one]
    · rw [decide_eq_false e]
      by_cases e2 : f j ∈ cs
      · rw [show decide (f j ∈ c :: cs) = true from decide_eq_true (List.mem_cons_of_mem _ e2), decide_eq_true e2]
        simp [one]
      · rw [show decide (f j ∈ c :: cs) = false from decide_eq_false (by rw [List.mem_cons]; rintro (h | h); exact e h; exact e2 h), decide_eq_false e2]
        simp [one]

theorem kindsV_nodup (f : Nat → Cls) (n : Nat) : (kindsV f n).Nodup ∧ clsAll ∉ kindsV f n := by
  induction n with
  | zero => exact ⟨List.nodup_nil, List.not_mem_nil⟩
  | succ n ih =>
    unfold kindsV
    split
    · exact ih
    · rename_i h
      rw [List.mem_cons, not_or] at h
      refine ⟨List.nodup_append.2 ⟨ih.1, by simp, ?_⟩, ?_⟩
      · intro a ha b hb
        rw [List.mem_singleton] at hb
        rintro rfl
        rw [hb] at ha
        exact h.2 ha
      · rw [List.mem_append, List.mem_singleton]
        rintro (h3 | h3)
        · exact ih.2 h3
        · exact h.1 h3.symm

theorem kindsV_mem (f : Nat → Cls) (n : Nat) : ∀ j, j < n → (f j ∈ kindsV f n ↔ f j ≠ clsAll) := by
  have key : ∀ n j, j < n → f j ≠ clsAll → f j ∈ kindsV f n := by
    intro n
    induction n with
    | zero => intro j hj; omega
    | succ n ih =>
      intro j hj hne
      unfold kindsV
      by_cases e : j = n
      · subst e
        split
        · rename_i h
          rcases List.mem_cons.1 h with h | h
          · exact absurd h hne
          · exact h
        · exact List.mem_append_right _ (List.mem_singleton.2 rfl)
      · split
        · exact ih j (by omega) hne
        · exact List.mem_append_left _ (ih j (by omega) hne)
  intro j hj
  exact ⟨fun h e => (kindsV_nodup f n).2 (e ▸ h), key n j hj⟩

theorem has_all (b : Nat) (hb : b < 256) : has clsAll b = true := by
  have h : sizeV clsAll = 256 := (size_full (fun k => by unfold Cls.word clsAll; split; simp; split; simp; split <;> simp)).2 rfl
  exact cnt_full.1 h b hb

theorem bound_sm (f : Nat → Cls) (n : Nat) : (boundV f n : Int) = sm n fun j => one (decide (f j ≠ clsAll)) := by
  have h : ∀ n, ((whereV f clsAll n).length : Int) = sm n fun j => one (decide (f j = clsAll)) := by
    intro n
    induction n with
    | zero => rfl
    | succ n ih =>
      rw [sm_succ, ← ih]
      unfold whereV
      rw [List.range_succ, List.filter_append, List.length_append]
      by_cases e : f n = clsAll <;> simp [e, one]
  have h2 : sm n (fun j => one (decide (f j ≠ clsAll))) = sm n (fun j => 1 - one (decide (f j = clsAll))) := sm_congr fun j _ => by by_cases e : f j = clsAll <;> simp [e, one]
  have h3 := whereV_len f clsAll n
  rw [h2, sm_sub, sm_one, ← h n]
  unfold boundV
  omega

/-- What is counted by kinds is what is counted element by element. -/
theorem outV_miss (f : Nat → Cls) (s : ByteArray) (n i : Nat) : outV f s n (kindsV f n) i = missV f s n i := by
  unfold outV missV
  rw [cnt_sm, bound_sm, hitSum_sm f s n i _ (kindsV_nodup f n).1, ← sm_sub]
  refine sm_congr fun j hj => ?_
  have h1 := kindsV_mem f n j hj
  by_cases e : f j = clsAll
  · rw [decide_eq_false (fun h => h1.1 h e), e, has_all _ (byteV_lt _ _)]
    simp [one]
  · rw [decide_eq_true (h1.2 e), decide_eq_true e]
    cases has (f j) (byteV s (i + j)) <;> rfl

theorem countsL_eq (f : Nat → Cls) (s : ByteArray) (n : Nat) (K : Int) (h : rightB f n K = true) : countsL f s n K (s.size + 1) = (List.range (sumsN n s.size)).map (missV f s n) := by
  unfold countsL
  congr 1
  have h1 := (Go.Proofs.Ytmadelflnjhibaa.rightB_true h).1
  have key : ∀ k, (List.range k).filter (fun i => atB f n K s.size i) = List.range (min k (sumsN n s.size)) := by
    intro k
    induction k with
    | zero => simp
    | succ k ih =>
      rw [List.range_succ, List.filter_append, ih]
      unfold atB
      rw [h]
      by_cases e : k + n ≤ s.size
      · rw [show min (k + 1) (sumsN n s.size) = k + 1 by unfold sumsN; omega, show min k (sumsN n s.size) = k by unfold sumsN; omega, List.range_succ]
        simp [e]
      · rw [show min (k + 1) (sumsN n s.size) = sumsN n s.size by unfold sumsN; omega, show min k (sumsN n s.size) = sumsN n s.size by unfold sumsN; omega]
        simp [e]
  rw [key, Nat.min_eq_right (by unfold sumsN; omega)]

theorem countsL_none (f : Nat → Cls) (s : ByteArray) (n : Nat) (K : Int) (h : rightB f n K = false) (k : Nat) : countsL f s n K k = [] := by
  unfold countsL atB
  rw [h]
  simp

theorem missV_le (f : Nat → Cls) (s : ByteArray) (n i : Nat) : missV f s n i ≤ n := cnt_le _ _
end Go.Proofs.Ytmadelflnjhibaa
