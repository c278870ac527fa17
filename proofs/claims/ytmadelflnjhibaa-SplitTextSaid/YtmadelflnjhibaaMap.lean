import Derived.Test.YtmadelflnjhibaaSymb
namespace Go.Proofs.Ytmadelflnjhibaa
open Go.RowKit

/-- The block r is a table whose keys are these sets, each told. -/
def MapAt (w : World) (r : Nat) (ks : List Cls) : Prop :=
  ∃ es clock, w.heap[r]? = some (.map es clock) ∧ es.toList.map (·.key) = ks.map Cls.val ∧ ∀ e ∈ es.toList, e.val = .bool true

theorem MapAt.ext {w w' : World} {r : Nat} {ks : List Cls} (h : MapAt w r ks) (he : Ext w w') : MapAt w' r ks := by
  obtain ⟨es, clock, h1, h2⟩ := h
  exact ⟨es, clock, he.heap h1, h2⟩

theorem run_equal_cls (c d : Cls) (w : World) : (Op.equal 27 c.val d.val).run Try.prog w = .ok (decide (c = d)) w := run_equalIn_cls 9998 c d w

theorem run_checkKey_cls (em : Bool) (c : Cls) (w : World) : (Instr.checkKey em 10000 27 c.val).run Try.prog w = .ok () w := by
  unfold Cls.val
  kernel_rfl

theorem run_findAsking_cls (c : Cls) (w : World) : ∀ (es : List MapEntry) (ks : List Cls) (i : Nat), es.map (·.key) = ks.map Cls.val → (∀ e ∈ es, e.val = .bool true) →
    ∃ r, (Instr.findAsking 27 c.val es i).run Try.prog w = .ok r w ∧ (c ∈ ks → ∃ j, r = some (j, .bool true)) ∧ (c ∉ ks → r = none)
  | [], ks, i, h, _ => by
    have : ks = [] := by cases ks with | nil => rfl | cons => cases h
    subst this
    exact ⟨none, rfl, fun h => absurd h List.not_mem_nil, fun _ => rfl⟩
  | e :: es, ks, i, h, hv => by
    cases ks with
    | nil => cases h
    | cons k ks =>
      simp only [List.map_cons, List.cons.injEq] at h
      obtain ⟨hk, h⟩ := h
      have hev := hv e (List.mem_cons_self ..)
      simp only [Instr.findAsking, Sem.run_bind, hk, run_equal_cls, Result.andThen_ok]
      by_cases hx : c = k
      · rw [decide_eq_true hx, if_pos rfl, hev]
        exact ⟨_, rfl, fun _ => ⟨i, rfl⟩, fun hn => absurd (by rw [hx]; exact List.mem_cons_self ..) hn⟩
      · rw [decide_eq_false hx, if_neg (by decide)]
        obtain ⟨r, h1, h2, h3⟩ := run_findAsking_cls c w es ks (i + 1) h (fun e' he => hv e' (List.mem_cons_of_mem _ he))
        exact ⟨r, h1, fun hm => h2 (by rcases List.mem_cons.1 hm with h | h; exact absurd h hx; exact h), fun hn => h3 fun hm => hn (List.mem_cons_of_mem _ hm)⟩

theorem run_findKey_cls (c : Cls) (w : World) (es : List MapEntry) (ks : List Cls) (h : es.map (·.key) = ks.map Cls.val) (hv : ∀ e ∈ es, e.val = .bool true) :
    ∃ r, (Instr.findKey 27 c.val es).run Try.prog w = .ok r w ∧ (c ∈ ks → ∃ j, r = some (j, .bool true)) ∧ (c ∉ ks → r = none) := by
  cases es with
  | nil =>
    have : ks = [] := by cases ks with | nil => rfl | cons => cases h
    subst this
    refine ⟨none, ?_, fun h => absurd h List.not_mem_nil, fun _ => rfl⟩
    simp [Instr.findKey, run_underlying Try.underlying27, Instr.findNow]
  | cons e es =>
    obtain ⟨r, h1, h2⟩ := run_findAsking_cls c w (e :: es) ks 0 h hv
    refine ⟨r, ?_, h2⟩
    have hf : Instr.findNow (.array 4 25) c.val (e :: es) 0 = none := by
      unfold Cls.val
      simp [Instr.findNow, Instr.sameNow]
    simp only [Instr.findKey, Sem.run_bind, run_underlying Try.underlying27, Result.andThen_ok, hf]
    exact h1

theorem lookup_met (w : World) (r : Nat) (ks : List Cls) (c : Cls) (h : MapAt w r ks) :
    (Instr.lookup 75 (.map (some r)) c.val false).run Try.prog w = .ok (.bool (decide (c ∈ ks))) w := by
  obtain ⟨es, clock, hb, hk, hv⟩ := h
  obtain ⟨q, h1, h2, h3⟩ := run_findKey_cls c w es.toList ks hk hv
  have hz : (zeroValue 4).run Try.prog w = .ok (.bool false) w := by kernel_rfl
  simp only [Instr.lookup, Sem.run_bind, run_underlying Try.underlying75, MapKept.run_getObj_map hb, run_checkKey_cls, Result.andThen_ok]
  by_cases hc : c ∈ ks
  · obtain ⟨j, rfl⟩ := h2 hc
    rw [decide_eq_true hc]
    simp [h1]
  · rw [h3 hc] at h1
    rw [decide_eq_false hc]
    simp [h1, hz]

theorem update_met (w : World) (r : Nat) (ks : List Cls) (c : Cls) (h : MapAt w r ks) (hc : c ∉ ks) :
    ∃ o, (Instr.mapUpdate 75 (.map (some r)) c.val (.bool true)).run Try.prog w = .ok () (w.putObj r o) ∧ MapAt (w.putObj r o) r (ks ++ [c]) := by
  obtain ⟨es, clock, hb, hk, hv⟩ := h
  obtain ⟨q, h1, h2, h3⟩ := run_findKey_cls c w es.toList ks hk hv
  rw [h3 hc] at h1
  refine ⟨.map (es.push { key := c.val, val := .bool true, born := clock }) (clock + 1), ?_, ?_⟩
  · simp only [Instr.mapUpdate, Sem.run_bind, run_underlying Try.underlying75, MapKept.run_getObj_map hb, run_checkKey_cls, h1, Result.andThen_ok]
    simp only [MapKept.run_setObj_map _ hb]
    rfl
  · refine ⟨_, _, World.putObj_heap_same (Array.getElem?_eq_some_iff.1 hb).1, ?_, ?_⟩
    · simp [hk]
    · intro e he
      simp only [Array.toList_push, List.mem_append, List.mem_singleton] at he
      rcases he with he | rfl
      · exact hv e he
      · rfl
end Go.Proofs.Ytmadelflnjhibaa
