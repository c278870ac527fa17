import Derived.Test.YtmadelflnjhibaaLawC
namespace Go.Proofs.Ytmadelflnjhibaa
open NttM

/-- The other way round. -/
def Back (f f' : Nat → Cls) (n : Nat) : Prop := ∀ j, j < n → f' j = f (n - 1 - j)
def BackT (s s' : ByteArray) : Prop := s'.size = s.size ∧ ∀ i, i < s.size → byteV s' i = byteV s (s.size - 1 - i)

theorem missV_back {f f' : Nat → Cls} {s s' : ByteArray} {n i : Nat} (hf : Back f f' n) (hs : BackT s s') (hi : i + n ≤ s.size) : missV f' s' n i = missV f s n (s.size - n - i) := by
  have h : ((missV f' s' n i : Nat) : Int) = missV f s n (s.size - n - i) := by
    unfold missV
    rw [cnt_sm, cnt_sm, ← sm_back n (fun j => one (!has (f j) (byteV s (s.size - n - i + j))))]
    refine sm_congr fun j hj => ?_
    rw [hf j hj, hs.2 (i + j) (by omega), show s.size - 1 - (i + j) = s.size - n - i + (n - 1 - j) by omega]
  exact_mod_cast h

theorem inB_back {f f' : Nat → Cls} {n : Nat} (hf : Back f f' n) (c : Cls) : inB f' c n = inB f c n := by
  rw [Bool.eq_iff_iff, inB_iff, inB_iff]
  constructor
  · rintro ⟨j, hj, h⟩
    exact ⟨n - 1 - j, by omega, by rw [← hf j hj]; exact h⟩
  · rintro ⟨j, hj, h⟩
    exact ⟨n - 1 - j, by omega, by rw [hf _ (by omega), show n - 1 - (n - 1 - j) = j by omega]; exact h⟩

theorem rightB_back {f f' : Nat → Cls} {n : Nat} (hf : Back f f' n) (K : Int) : rightB f' n K = rightB f n K := by
  unfold rightB
  rw [inB_back hf]

theorem checkV_back {f f' : Nat → Cls} {n : Nat} (hf : Back f f' n) (K : Int) (tn : Nat) (size : Int) : checkV f' n K tn size = checkV f n K tn size := by
  unfold checkV
  rw [rightB_back hf]

theorem mem_kindsV (f : Nat → Cls) (n : Nat) (c : Cls) : c ∈ kindsV f n ↔ c ≠ clsAll ∧ ∃ j, j < n ∧ f j = c := by
  constructor
  · intro h
    refine ⟨fun e => (kindsV_nodup f n).2 (e ▸ h), ?_⟩
    have key : ∀ n, c ∈ kindsV f n → ∃ j, j < n ∧ f j = c := by
      intro n
      induction n with
      | zero => intro h; cases h
      | succ n ih =>
        intro h
        unfold kindsV at h
        split at h
        · obtain ⟨j, h1, h2⟩ := ih h
          exact ⟨j, by omega, h2⟩
        · rcases List.mem_append.1 h with h | h
          · obtain ⟨j, h1, h2⟩ := ih h
            exact ⟨j, by omega, h2⟩
          · exact ⟨n, by omega, (List.mem_singleton.1 h).symm⟩
    exact key n h
  · rintro ⟨h1, j, hj, rfl⟩
    exact (kindsV_mem f n j hj).2 h1

theorem nodup_len : ∀ (a b : List Cls), a.Nodup → (∀ c, c ∈ a → c ∈ b) → a.length ≤ b.length
  | [], b, _, _ => Nat.zero_le _
  | c :: a, b, h, hs => by
    obtain ⟨h1, h2⟩ := List.nodup_cons.1 h
    have hc : c ∈ b := hs c (List.mem_cons_self ..)
    have h3 := nodup_len a (b.erase c) h2 (fun d hd => (List.mem_erase_of_ne (fun (e : d = c) => h1 (by rw [← e]; exact hd))).2 (hs d (List.mem_cons_of_mem _ hd)))
    rw [List.length_erase_of_mem hc] at h3
    have : 0 < b.length := List.length_pos_of_mem hc
    rw [List.length_cons]
    omega

theorem kindsV_back {f f' : Nat → Cls} {n : Nat} (hf : Back f f' n) : (kindsV f' n).length = (kindsV f n).length := by
  have hm : ∀ c, c ∈ kindsV f' n ↔ c ∈ kindsV f n := by
    intro c
    rw [mem_kindsV, mem_kindsV]
    have := inB_back hf c
    rw [Bool.eq_iff_iff, inB_iff, inB_iff] at this
    unfold inV at this
    rw [this]
  exact Nat.le_antisymm (nodup_len _ _ (kindsV_nodup f' n).1 fun c h => (hm c).1 h) (nodup_len _ _ (kindsV_nodup f n).1 fun c h => (hm c).2 h)

theorem cntsN_back {f f' : Nat → Cls} {n : Nat} (hf : Back f f' n) (tn : Nat) (size z : Int) : cntsN f' n tn size z = cntsN f n tn size z := by
  unfold cntsN
  rw [kindsV_back hf]

/-- The counts the other way round. -/
theorem cntsL_back {f f' : Nat → Cls} {s s' : ByteArray} {n : Nat} {K size : Int} (hf : Back f f' n) (hs : BackT s s') :
    (cntsL f' s' n K (checkV f n K s.size size)).length = (cntsL f s n K (checkV f n K s.size size)).length ∧
    ∀ i, i < (cntsL f s n K (checkV f n K s.size size)).length → IL (cntsL f s n K (checkV f n K s.size size)) i = IL (cntsL f' s' n K (checkV f n K s.size size)) ((cntsL f s n K (checkV f n K s.size size)).length - 1 - i) := by
  by_cases hz : checkV f n K s.size size = 0
  · obtain ⟨h1, _⟩ := checkV_zero hz
    have h1' : rightB f' n K = true := by rw [rightB_back hf]; exact h1
    have e1 : cntsL f s n K (checkV f n K s.size size) = (List.range (sumsN n s.size)).map (missV f s n) := by rw [hz]; exact (if_pos rfl).trans (countsL_eq f s n K h1)
    have e2 : cntsL f' s' n K (checkV f n K s.size size) = (List.range (sumsN n s.size)).map (missV f' s' n) := by
      rw [hz]
      have : cntsL f' s' n K 0 = (List.range (sumsN n s'.size)).map (missV f' s' n) := (if_pos rfl).trans (countsL_eq f' s' n K h1')
      rw [hs.1] at this
      exact this
    have h3 := (rightB_true h1).1
    rw [e1, e2]
    simp only [List.length_map, List.length_range, true_and]
    intro i hi
    rw [IL_map _ _ _ hi, IL_map _ _ _ (by omega)]
    have hb : sumsN n s.size = s.size + 1 - n := rfl
    rw [missV_back hf hs (by omega), show s.size - n - (sumsN n s.size - 1 - i) = i by omega]
  · have e1 : cntsL f s n K (checkV f n K s.size size) = [] := if_neg hz
    have e2 : cntsL f' s' n K (checkV f n K s.size size) = [] := if_neg hz
    rw [e1, e2]
    exact ⟨rfl, fun i hi => by cases hi⟩
end Go.Proofs.Ytmadelflnjhibaa
