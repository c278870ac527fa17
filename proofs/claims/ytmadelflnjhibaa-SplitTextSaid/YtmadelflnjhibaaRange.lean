import Derived.Test.YtmadelflnjhibaaBase
import Derived.RangeFuncNested
import Derived.RangeFuncBound
import Derived.RangeFuncCalls
import Derived.RangeFuncLeaves
import Derived.RangeFuncFrom
import Derived.OrdersIn
import Derived.OrdersHeld
namespace Go.Proofs.Ytmadelflnjhibaa
open Go.RowKit

/-- What is asked behind a round: it has run to its end. -/
def roundEnds (R : World → Prop) : Exit → Act → World → Prop
  | .normal, _, W => R W
  | _, _, _ => False

/-- An iterator, by what it does with whatever round: between two rounds it makes new blocks alone; the rounds leave the blocks C as they are; at each it hands over an x of which Z holds; at the end S holds of all. -/
def Iter {α : Type} (P : Program) (gf : FuncId) (lb : Array Value) (encs : α → Array Value) (C : Nat → Prop) (Z : List α → α → World → Prop) (S : List α → Prop) (w : World) : Prop :=
  ∀ (l : Nat) (J : List α → World → Prop) (W : World), Ext w W → w.heap.size + 2 ≤ W.heap.size → (∀ pre A B, J pre A → Ext A B → J pre B) →
    (∀ pre x W1, J pre W1 → Z pre x W1 → YieldAt Fence.wide 0 P l (encs x) W1 fun e W' => e = .returned (.bool true) ∧ J (pre ++ [x]) W' ∧ W1.heap.size ≤ W'.heap.size ∧ ∀ k, C k → k < W1.heap.size → W'.heap[k]? = W1.heap[k]?) →
    J [] W →
    CallsIn Fence.wide 0 P gf (#[.func (.yield l) #[] #[]] ++ lb) W fun e W' => (∃ v, e = .returned v) ∧ ∃ xs, S xs ∧ J xs W'

theorem Ext.noncell {w w' : World} {l : Nat} {o : Obj} (h : Ext w w') (hl : w.heap[l]? = some o) : w'.heap[l]? = some o := h.heap hl

theorem wp_range {α : Type} {P : Program} {g : Operand} {ps : Array Tmp} {assign body : Code} {Q : Exit → Act → World → Prop} {a : Act} {w : World}
    {gf : Nat} {lb : Array Value} (hg : a.eval g = .func (.func gf) #[] lb) (eg : ∀ args w, (callFunc gf args).run P w = .ok (.enter gf args) w)
    {encs : α → Array Value} (hps : ∀ x, (encs x).size = ps.size) (C : Nat → Prop) (Z : List α → α → World → Prop) (S : List α → Prop) (hit : Iter P gf lb encs C Z S w)
    (hC : ∀ k, C k → k < w.heap.size ∨ w.heap.size + 2 ≤ k)
    (hZ : ∀ pre x A l o o', w.heap.size ≤ l → A.heap[l]? = some o → o.isCells = false → Z pre x A → Z pre x (A.putObj l o'))
    (I : List α → World → Prop) (hIe : ∀ pre A B, I pre A → Ext A B → I pre B)
    (hIp : ∀ pre A l o o', w.heap.size ≤ l → A.heap[l]? = some o → o.isCells = false → I pre A → I pre (A.putObj l o'))
    (h0 : I [] w) (a₁ : α → Act)
    (hassign : ∀ (l : Nat) (x : α) (W : World) (K : Act → World → Prop), K (a₁ x) W →
      assign.wpIn (Fence.wide.inRound l) 0 P (Exit.then K (fun _ _ _ => False)) { tmps := (ps.zip (encs x)).foldl (fun t (p, v) => t.setIfInBounds p v) a.tmps, defers := [] } W)
    (hbody : ∀ (l : Nat) (pre : List α) (x : α) (W : World), w.heap.size ≤ W.heap.size → I pre W → Z pre x W →
      body.wpIn (Fence.wide.inRound l) 0 P (roundEnds fun W' => W.heap.size ≤ W'.heap.size ∧ (∀ k o, w.heap.size ≤ k → W.heap[k]? = some o → o.isCells = false → W'.heap[k]? = some o) ∧ (∀ k, C k → k < W.heap.size → W'.heap[k]? = W.heap[k]?) ∧ I (pre ++ [x]) W') (a₁ x) W)
    (hdone : ∀ (D : Nat) (xs : List α) (W : World), w.heap.size ≤ D → S xs → I xs W → W.heap[D]? = some (.deferred (some [])) → Q .normal { a with defers := { target := .collected D, args := #[] } :: a.defers } W) :
    (Code.rangeFunc g ps assign body).wp P Q a w := by
  refine (wpIn_wide (n := 0)).1 ?_
  refine wpIn_rangeFunc ?_
  intro fn hfn
  obtain ⟨rec, hrec⟩ : ∃ rec : LoopState → Loop, rec = fun st => { state := st, pending := none, fn, tmps := a.tmps, params := ps, assign, body, defers := w.heap.size } := ⟨_, rfl⟩
  obtain ⟨W1, hW1⟩ : ∃ W1, (w.alloc (.deferred (some []))).alloc (.loop (rec .ready)) = W1 := ⟨_, rfl⟩
  have hL1 : W1.heap[w.heap.size + 1]? = some (.loop (rec .ready)) := by
    rw [← hW1]; have := World.alloc_heap_new (w.alloc (.deferred (some []))) (.loop (rec .ready)); rwa [World.size_alloc] at this
  have hK1 : W1.heap[w.heap.size]? = some (.deferred (some [])) := by
    rw [← hW1]; exact (Below.heap_alloc _ _ _ (by simp)).trans (World.alloc_heap_new w _)
  have hE1 : Ext w W1 := by rw [← hW1]; exact ((Ext.refl w).alloc _).alloc _
  refine ⟨w.heap.size + 1, [{ target := .collected w.heap.size, args := #[] }], W1, { target := .fn (.func gf) lb, args := #[.func (.yield (w.heap.size + 1)) #[] #[]] }, W1, gf,
    #[.func (.yield (w.heap.size + 1)) #[] #[]] ++ lb, W1, ?_, ?_, ?_, ?_, (fun h => by cases h), ?_⟩
  · rw [← hW1, hrec]; exact run_enterLoop_outer _ _ _ _ _
  · simp only [resolve, hg]
    simp [go_sem]
  · intro f' _; trivial
  · simp [invoke, go_sem, eg]
  · refine (hit (w.heap.size + 1)
      (fun pre W => I pre W ∧ W.heap[w.heap.size + 1]? = some (.loop (rec .ready)) ∧ W.heap[w.heap.size]? = some (.deferred (some [])))
      W1 hE1 (by rw [← hW1]; simp) (fun pre A B h he => ⟨hIe _ _ _ h.1 he, he.heap h.2.1, he.heap h.2.2⟩) ?_ ⟨hIe _ _ _ h0 hE1, hL1, hK1⟩).mono ?_
    · rintro pre x W ⟨hi, hl, hk⟩ hz
      have hlt : w.heap.size + 1 < W.heap.size := (Array.getElem?_eq_some_iff.1 hl).1
      have hy := run_yield (P := P) (args := encs x) hl (by rw [hrec]; exact hps x)
      rw [hrec] at hy
      refine ⟨fn, _, assign, body, hy, roundIn_of_wpIn hfn (hassign _ x W _ ⟨_, run_beginRound hl (by rw [hrec]), ?_⟩)⟩
      have hl2 : (W.putObj (w.heap.size + 1) (.loop { rec .ready with state := .busy })).heap[w.heap.size + 1]? = some (.loop { rec .ready with state := .busy }) := World.putObj_heap_same hlt
      have hk2 : (W.putObj (w.heap.size + 1) (.loop { rec .ready with state := .busy })).heap[w.heap.size]? = some (.deferred (some [])) := (World.putObj_heap_other (by omega)).trans hk
      refine wpIn_mono (hbody _ pre x _ (by simp [World.putObj]; omega) (hIp _ _ _ _ _ (by omega) hl rfl hi) (hZ _ _ _ _ _ _ (by omega) hl rfl hz)) ?_
      rintro e a3 W3 hp
      cases e with
      | normal =>
        obtain ⟨hs3, hkeep, hc3, hi3⟩ := hp
        have hl3 := hkeep _ _ (by omega) hl2 rfl
        have hk3 := hkeep _ _ (Nat.le_refl _) hk2 rfl
        have hend := run_endRound (P := P) none hl3
        rw [hrec] at hend
        refine ⟨_, _, hend, rfl, ⟨hIp _ _ _ _ _ (by omega) hl3 rfl hi3, ?_, (World.putObj_heap_other (by omega)).trans hk3⟩, ?_, ?_⟩
        · rw [hrec]; exact World.putObj_heap_same (Array.getElem?_eq_some_iff.1 hl3).1
        · have : W.heap.size ≤ W3.heap.size := by have := hs3; simp [World.putObj] at this; omega
          simp [World.putObj]; omega
        · intro k hk hkW
          have hkl := hC k hk
          rw [World.putObj_heap_other (by omega), hc3 k hk (by simpa [World.putObj] using hkW), World.putObj_heap_other (by omega)]
      | ret => exact hp.elim
      | exit id => exact hp.elim
      | goto t => exact hp.elim
      | panic ch => exact hp.elim
      | outgrown => exact hp.elim
    · rintro e W2 ⟨⟨v, rfl⟩, xs, hS, hi, hl, hk⟩
      exact ⟨none, _, by have := run_endLoop (P := P) hl (by rw [hrec]; simp); rw [hrec] at this; exact this, hdone _ xs _ (Nat.le_refl _) hS (hIp _ _ _ _ _ (by omega) hl rfl hi) ((World.putObj_heap_other (by omega)).trans hk)⟩

/-- A function that ranges over a function, entered. -/
theorem calls_marks {P : Program} {f : FuncId} {fn : Func} {c : Code} {args : Array Value} {w : World} {R : Ending → World → Prop} (hf : P.funcs[f]? = some fn) (hb : fn.body = some c)
    (h : c.wp P (bodyPostM Fence.wide 0 P fn R) { tmps := args ++ Array.replicate (fn.ntmps - args.size) undef, defers := [] } w) : Calls P f args w R :=
  (callsIn_wide (n := 0)).1 (callsIn_of_wp_marks hf hb trivial ((wpIn_wide (n := 0)).2 h))

/-- A region that draws its order, in a round: out of the law for a plain one. -/
theorem wpAnyIn_round {P : Program} {md : Region.Mode} {ops : Array Oper} {Q : Exit → Act → World → Prop} {S : World → Prop} {l n : Nat} (hQ : ∀ a w, ¬ Q .outgrown a w) (hd : ∀ (j : Nat) o c, ops[j]? = some o → o.op ≠ .defer c) :
    ∀ (fuel : Nat) (listed : Array Bool) (a : Act) (w : World), wpAnyH P md ops Q S fuel listed a w → wpAnyIn (Fence.wide.inRound l) n P md ops Q fuel listed a w
  | 0, _, _, _, h => h
  | fuel + 1, listed, a, w, h => by
    refine ⟨h.1, fun i hi => ?_⟩
    have h2 := h.2 i hi
    unfold wpOp at h2
    unfold wpOpIn
    cases ho : ops[i]? with
    | none => simp only [ho] at h2; exact wpAnyIn_round hQ hd fuel _ _ _ h2.2
    | some o =>
      simp only [ho] at h2
      by_cases hw : Region.wanted o (yielded ops a.tmps) = true
      · simp only [hw, if_true] at h2 ⊢
        rcases h2 with h2 | ⟨_, a', w', hq⟩
        · refine ⟨fun _ _ => trivial, ?_⟩
          rw [Oper.semAt_eq _ _ _ (fun c => hd i o c ho)]
          unfold Oper.wp at h2
          generalize (execOp a.eval o).run P w = r at *
          cases r with
          | ok x w' =>
            cases x <;> simp only [Oper.upon] at h2 <;> simp only [Oper.uponIn]
            case value v => exact wpAnyIn_round hQ hd fuel _ _ _ h2.2
            case skip => exact wpAnyIn_round hQ hd fuel _ _ _ h2.2
            case defer d => exact wpAnyIn_round hQ hd fuel _ _ _ h2.2
            case enter f args =>
              refine ⟨(fun h => by cases h), CallsIn.inRound l ((callsIn_wide (n := n - 1)).2 (Calls.mono h2 fun e w'' he => ?_))⟩
              cases e with
              | returned v => exact wpAnyIn_round hQ hd fuel _ _ _ he.2
              | panicked c => exact he
              | outgrown => exact he
            case row row args =>
              refine ⟨(fun h => by cases h), fun c cs _ => ?_⟩
              obtain ⟨v, w'', hR, hs⟩ := h2 c cs
              exact ⟨v, w'', wpAnyIn_round hQ hd fuel _ _ _ hR.2, stepsIn_wide.2 hs⟩
          | halt x w' => cases x <;> simp only [Oper.upon] at h2 <;> simp only [Oper.uponIn] <;> exact h2
        · exact absurd hq (hQ a' w')
      · simp only [hw] at h2 ⊢
        exact ⟨fun _ _ => trivial, wpAnyIn_round hQ hd fuel _ _ _ h2.2⟩

/-- A region's operations in an order of my own: (i, true): taken as soon as it may come up (it yields its value in whatever world meets S); (i, false): nothing else may come up. -/
def wpPerm (P : Program) (ops : Array Oper) (Q : Exit → Act → World → Prop) (S : World → Prop) : List (Nat × Bool) → Act → World → Prop
  | [], a, w => Q .normal a w
  | (i, true) :: r, a, w => ∃ o v, ops[i]? = some o ∧ o.guard = none ∧ (∀ W, S W → (execOp a.eval o).run P W = .ok (.value v) W) ∧ wpPerm P ops Q S r (a.put o.dst v) w
  | (i, false) :: r, a, w => wpOp P ops Q i (fun a' w' => S w' ∧ wpPerm P ops Q S r a' w') a w

def permB (md : Region.Mode) (ops : Array Oper) : List (Nat × Bool) → Array Bool → Bool
  | [], listed => (Region.ready md ops listed) == []
  | (i, true) :: r, listed => (Region.ready md ops listed).contains i && Region.free md ops listed i && permB md ops r (listed.setIfInBounds i true)
  | (i, false) :: r, listed => (Region.ready md ops listed) == [i] && permB md ops r (listed.setIfInBounds i true)

theorem wpPerm_sound {P : Program} {md : Region.Mode} {ops : Array Oper} {Q : Exit → Act → World → Prop} {S : World → Prop} (hs : Region.noSelect ops = true) (hQ : ∀ c a w, ¬ Q (.panic c) a w) :
    ∀ (π : List (Nat × Bool)) (listed : Array Bool) (a : Act) (w : World), permB md ops π listed = true → S w → wpPerm P ops Q S π a w → wpAnyH P md ops Q S π.length listed a w
  | [], listed, a, w, hB, _, h => by
    simp only [permB, beq_iff_eq] at hB
    exact wpAnyH_done hB h _
  | (i, true) :: r, listed, a, w, hB, hS, h => by
    simp only [permB, Bool.and_eq_true] at hB
    obtain ⟨o, v, ho, hg, hv, h⟩ := h
    have hw : Region.wanted o (yielded ops a.tmps) = true := by unfold Region.wanted; rw [hg]
    exact wpAnyH_take ho hs hB.1.2 hB.1.1 (fun c a' w' hq => absurd hq (hQ _ _ _)) (.inl ⟨hw, hv⟩) hS (wpPerm_sound hs hQ r _ _ _ hB.2 hS h)
  | (i, false) :: r, listed, a, w, hB, hS, h => by
    simp only [permB, Bool.and_eq_true, beq_iff_eq] at hB
    refine wpAnyH_all hB.1 (by simp) (fun j hj => ?_)
    obtain rfl : j = i := by simpa using hj
    exact wpOp_mono (fun a' w' h' => ⟨h'.1, wpPerm_sound hs hQ r _ _ _ hB.2 h'.1 h'.2⟩) h

def noDeferB (ops : Array Oper) : Bool := ops.all fun o => match o.op with | .defer _ => false | _ => true
theorem noDefer_spec {ops : Array Oper} (h : noDeferB ops = true) : ∀ (j : Nat) o c, ops[j]? = some o → o.op ≠ .defer c := by
  intro j o c hj e
  unfold noDeferB at h
  rw [Array.all_eq_true'] at h
  have := h o (Array.mem_of_getElem? hj)
  rw [e] at this
  cases this

theorem wpIn_region_perm {P : Program} {ops : Array Oper} {Q : Exit → Act → World → Prop} {S : World → Prop} {l n id : Nat} {a : Act} {w : World} (π : List (Nat × Bool)) (hm : P.follows .mixedOrders = true) (hl : π.length = ops.size)
    (hB : permB .any ops π (Array.replicate ops.size false) = true) (hs : Region.noSelect ops = true) (hd : noDeferB ops = true) (hQ : ∀ c a w, ¬ Q (.panic c) a w) (hQo : ∀ a w, ¬ Q .outgrown a w) (hS : S w.drew)
    (h : wpPerm P ops Q S π a w.drew) : (Code.region id ops true).wpIn (Fence.wide.inRound l) n P Q a w := by
  refine wpIn_region_any hm (wpAnyIn_round (S := S) hQo (noDefer_spec hd) _ _ _ _ ?_)
  have key := wpPerm_sound hs hQ π _ _ _ hB hS h
  rw [hl] at key
  exact key

theorem wpPerm_take {P : Program} {ops : Array Oper} {Q : Exit → Act → World → Prop} {S : World → Prop} {i : Nat} {r : List (Nat × Bool)} {a : Act} {w : World} {o : Oper} (ho : ops[i]? = some o) (hg : o.guard = none) (v : Value)
    (hv : ∀ W, S W → (execOp a.eval o).run P W = .ok (.value v) W) (h : ∀ K : Act → World → Prop, (∀ a w, wpPerm P ops Q S r a w → K a w) → K (a.put o.dst v) w) : wpPerm P ops Q S ((i, true) :: r) a w :=
  ⟨o, v, ho, hg, hv, h _ (fun _ _ h => h)⟩
theorem wpPerm_bar {P : Program} {ops : Array Oper} {Q : Exit → Act → World → Prop} {S : World → Prop} {i : Nat} {r : List (Nat × Bool)} {a : Act} {w : World} {o : Oper} (ho : ops[i]? = some o) (hg : o.guard = none)
    (h : ∀ K : Act → World → Prop, (∀ a w, S w → wpPerm P ops Q S r a w → K a w) → Oper.wp P o a w K Q) : wpPerm P ops Q S ((i, false) :: r) a w := by
  have hw : Region.wanted o (yielded ops a.tmps) = true := by unfold Region.wanted; rw [hg]
  show wpOp _ _ _ _ _ _ _
  unfold wpOp
  simp only [ho, hw, if_true]
  exact .inl (h _ (fun a w h1 h2 => ⟨h1, h2⟩))
theorem wpPerm_end {P : Program} {ops : Array Oper} {Q : Exit → Act → World → Prop} {S : World → Prop} {a : Act} {w : World} (h : Q .normal a w) : wpPerm P ops Q S [] a w := h

/-- As wpAnyH, but nothing is asked of the world behind the operation 'last'. -/
def wpAnyE (P : Program) (md : Region.Mode) (ops : Array Oper) (Q : Exit → Act → World → Prop) (S : World → Prop) (last : Nat) : Nat → Array Bool → Act → World → Prop
  | 0, listed, a, w => Region.ready md ops listed = [] ∧ Q .normal a w
  | fuel + 1, listed, a, w =>
    (Region.ready md ops listed = [] → Q .normal a w) ∧
    ∀ i ∈ Region.ready md ops listed, wpOp P ops Q i (fun a' w' => (i ≠ last → S w') ∧ wpAnyE P md ops Q S last fuel (listed.setIfInBounds i true) a' w') a w

theorem wpAnyH_of_E {P : Program} {md : Region.Mode} {ops : Array Oper} {Q : Exit → Act → World → Prop} {S : World → Prop} {last : Nat} :
    ∀ (fuel : Nat) (listed : Array Bool) (a : Act) (w : World), wpAnyE P md ops Q S last fuel listed a w → wpAnyH P md ops Q (fun _ => True) fuel listed a w
  | 0, _, _, _, h => h
  | fuel + 1, _, _, _, h => ⟨h.1, fun i hi => wpOp_mono (fun a' w' h' => ⟨trivial, wpAnyH_of_E fuel _ a' w' h'.2⟩) (h.2 i hi)⟩

theorem wpAnyE_first {P : Program} {md : Region.Mode} {ops : Array Oper} {Q : Exit → Act → World → Prop} {S : World → Prop} {last i : Nat} {oi : Oper} {v : Value} (hi : ops[i]? = some oi) (hsel : ∀ (j : Nat) (o : Oper) cs b, ops[j]? = some o → o.op ≠ .select cs b)
    (hQ : ∀ c a w, ¬ Q (.panic c) a w) (hil : i ≠ last) (hwait : ∃ ol, ops[last]? = some ol ∧ ∃ e ∈ ol.after, Region.binds md e = true ∧ e.on = i) :
    ∀ (fuel : Nat) (listed : Array Bool) (a : Act) (w : World),
      (∀ j oj, ops[j]? = some oj → j ≠ i → listed.getD j true = false → (∀ e ∈ oj.after, Region.binds md e = true → e.on ≠ i) → oi.apart ops oj = true) →
      i ∈ Region.ready md ops listed → YieldsIf P ops S oi v a → S w →
      wpAnyE P md ops Q S last fuel (listed.setIfInBounds i true) (a.put oi.dst v) w → wpAnyE P md ops Q S last (fuel + 1) listed a w := by
  intro fuel
  induction fuel with
  | zero =>
    intro listed a w _ hr hy hS H
    refine ⟨fun h => (by rw [h] at hr; cases hr), fun j hj => ?_⟩
    by_cases hji : j = i
    · subst hji; exact hy.wpOp hi hS ⟨fun _ => hS, H⟩
    · have := ready_mono hj hji
      rw [H.1] at this
      cases this
  | succ fuel ih =>
    intro listed a w hfree hr hy hS H
    refine ⟨fun h => (by rw [h] at hr; cases hr), fun j hj => ?_⟩
    by_cases hji : j = i
    · subst hji; exact hy.wpOp hi hS ⟨fun _ => hS, H⟩
    · have h1 := H.2 j (ready_mono hj hji)
      obtain ⟨hjun, oj, hoj, hall⟩ := mem_ready.1 hj
      have hun : ∀ e ∈ oj.after, Region.binds md e = true → e.on ≠ i := fun e he hb heq => by
        have g1 := hall e he hb
        have g0 := (mem_ready.1 hr).1
        rw [heq] at g1
        rcases Nat.lt_or_ge i listed.size with h' | h'
        · simp [h'] at g0 g1; rw [g0] at g1; cases g1
        · simp [Array.getElem?_eq_none h'] at g1
      have hjl : j ≠ last := fun e => by
        obtain ⟨ol, hol, e', he', hb', hon⟩ := hwait
        rw [← e, hoj] at hol
        cases hol
        exact hun e' he' hb' hon
      have h2 := wpOp_putIf hoj (hfree j oj hoj hji hjun hun) (fun cs b => hsel i oi cs b hi) (fun cs b => hsel j oj cs b hoj) (fun c a' w' hq => absurd hq (hQ _ _ _)) hy h1
      have hfree' : ∀ k ok, ops[k]? = some ok → k ≠ i → (listed.setIfInBounds j true).getD k true = false →
          (∀ e ∈ ok.after, Region.binds md e = true → e.on ≠ i) → oi.apart ops ok = true := fun k ok hk hki hun' hno => by
        refine hfree k ok hk hki ?_ hno
        by_cases hjk : j = k
        · subst hjk; exact hjun
        · rw [getD_set_ne true hjk] at hun'; exact hun'
      refine wpOp_mono (fun a' w' h3 => ⟨h3.2.1, ih (listed.setIfInBounds j true) a' w' hfree' (ready_mono hr (Ne.symm hji)) h3.1 (h3.2.1 hjl) ?_⟩) h2
      rw [Array.setIfInBounds_comm _ _ hji]
      exact h3.2.2

def waitsB (md : Region.Mode) (ops : Array Oper) (last i : Nat) : Bool :=
  match ops[last]? with
  | some ol => i != last && ol.after.any fun e => Region.binds md e && e.on == i
  | none => false
theorem waitsB_spec {md : Region.Mode} {ops : Array Oper} {last i : Nat} (h : waitsB md ops last i = true) : i ≠ last ∧ ∃ ol, ops[last]? = some ol ∧ ∃ e ∈ ol.after, Region.binds md e = true ∧ e.on = i := by
  unfold waitsB at h
  split at h
  · rename_i ol hol
    rw [Bool.and_eq_true] at h
    obtain ⟨e, he, hb⟩ := Array.any_eq_true'.1 h.2
    simp only [Bool.and_eq_true, beq_iff_eq] at hb
    exact ⟨by simpa using h.1, ol, hol, e, he, hb.1, hb.2⟩
  · cases h

/-- The same order of my own, where behind the last operation nothing is asked of the world. -/
def wpPermE (P : Program) (ops : Array Oper) (Q : Exit → Act → World → Prop) (S : World → Prop) (last : Nat) : List (Nat × Bool) → Act → World → Prop
  | [], a, w => Q .normal a w
  | (i, true) :: r, a, w => ∃ o v, ops[i]? = some o ∧ o.guard = none ∧ (∀ W, S W → (execOp a.eval o).run P W = .ok (.value v) W) ∧ wpPermE P ops Q S last r (a.put o.dst v) w
  | (i, false) :: r, a, w => wpOp P ops Q i (fun a' w' => (i ≠ last → S w') ∧ wpPermE P ops Q S last r a' w') a w

def permEB (md : Region.Mode) (ops : Array Oper) (last : Nat) : List (Nat × Bool) → Array Bool → Bool
  | [], listed => (Region.ready md ops listed) == []
  | (i, true) :: r, listed => (Region.ready md ops listed).contains i && Region.free md ops listed i && waitsB md ops last i && permEB md ops last r (listed.setIfInBounds i true)
  | (i, false) :: r, listed => (Region.ready md ops listed) == [i] && (i != last || r.isEmpty) && permEB md ops last r (listed.setIfInBounds i true)

theorem wpPermE_sound {P : Program} {md : Region.Mode} {ops : Array Oper} {Q : Exit → Act → World → Prop} {S : World → Prop} {last : Nat} (hs : Region.noSelect ops = true) (hQ : ∀ c a w, ¬ Q (.panic c) a w) :
    ∀ (π : List (Nat × Bool)) (listed : Array Bool) (a : Act) (w : World), permEB md ops last π listed = true → (π ≠ [] → S w) → wpPermE P ops Q S last π a w → wpAnyE P md ops Q S last π.length listed a w
  | [], listed, a, w, hB, _, h => by
    simp only [permEB, beq_iff_eq] at hB
    exact ⟨hB, h⟩
  | (i, true) :: r, listed, a, w, hB, hS, h => by
    simp only [permEB, Bool.and_eq_true] at hB
    obtain ⟨o, v, ho, hg, hv, h⟩ := h
    have hw : Region.wanted o (yielded ops a.tmps) = true := by unfold Region.wanted; rw [hg]
    obtain ⟨hil, hwait⟩ := waitsB_spec hB.1.2
    have hS' := hS (by simp)
    exact wpAnyE_first ho (Region.noSelect_spec hs) hQ hil hwait _ _ _ _ (Region.free_spec ho hB.1.1.2) (by simpa using hB.1.1.1) (.inl ⟨hw, hv⟩) hS' (wpPermE_sound hs hQ r _ _ _ hB.2 (fun _ => hS') h)
  | (i, false) :: r, listed, a, w, hB, hS, h => by
    simp only [permEB, Bool.and_eq_true, beq_iff_eq] at hB
    refine ⟨fun h0 => (by rw [hB.1.1] at h0; cases h0), fun j hj => ?_⟩
    obtain rfl : j = i := by rw [hB.1.1] at hj; simpa using hj
    refine wpOp_mono (fun a' w' h' => ⟨h'.1, wpPermE_sound hs hQ r _ _ _ hB.2 (fun hr => h'.1 ?_) h'.2⟩) h
    intro e
    have h5 := hB.1.2
    rw [e] at h5
    cases r with
    | nil => exact hr rfl
    | cons x y => simp at h5

theorem wpIn_region_permE {P : Program} {ops : Array Oper} {Q : Exit → Act → World → Prop} {S : World → Prop} {l n id last : Nat} {a : Act} {w : World} (π : List (Nat × Bool)) (hm : P.follows .mixedOrders = true) (hl : π.length = ops.size)
    (hB : permEB .any ops last π (Array.replicate ops.size false) = true) (hs : Region.noSelect ops = true) (hd : noDeferB ops = true) (hQ : ∀ c a w, ¬ Q (.panic c) a w) (hQo : ∀ a w, ¬ Q .outgrown a w) (hS : S w.drew)
    (h : wpPermE P ops Q S last π a w.drew) : (Code.region id ops true).wpIn (Fence.wide.inRound l) n P Q a w := by
  refine wpIn_region_any hm (wpAnyIn_round (S := fun _ => True) hQo (noDefer_spec hd) _ _ _ _ (wpAnyH_of_E (S := S) (last := last) _ _ _ _ ?_))
  have key := wpPermE_sound hs hQ π _ _ _ hB (fun _ => hS) h
  rw [hl] at key
  exact key

theorem wpPermE_take {P : Program} {ops : Array Oper} {Q : Exit → Act → World → Prop} {S : World → Prop} {i last : Nat} {r : List (Nat × Bool)} {a : Act} {w : World} {o : Oper} (ho : ops[i]? = some o) (hg : o.guard = none) (v : Value)
    (hv : ∀ W, S W → (execOp a.eval o).run P W = .ok (.value v) W) (h : ∀ K : Act → World → Prop, (∀ a w, wpPermE P ops Q S last r a w → K a w) → K (a.put o.dst v) w) : wpPermE P ops Q S last ((i, true) :: r) a w :=
  ⟨o, v, ho, hg, hv, h _ (fun _ _ h => h)⟩
theorem wpPermE_bar {P : Program} {ops : Array Oper} {Q : Exit → Act → World → Prop} {S : World → Prop} {i last : Nat} {r : List (Nat × Bool)} {a : Act} {w : World} {o : Oper} (ho : ops[i]? = some o) (hg : o.guard = none)
    (h : ∀ K : Act → World → Prop, (∀ a w, (i ≠ last → S w) → wpPermE P ops Q S last r a w → K a w) → Oper.wp P o a w K Q) : wpPermE P ops Q S last ((i, false) :: r) a w := by
  have hw : Region.wanted o (yielded ops a.tmps) = true := by unfold Region.wanted; rw [hg]
  show wpOp _ _ _ _ _ _ _
  unfold wpOp
  simp only [ho, hw, if_true]
  exact .inl (h _ (fun a w h1 h2 => ⟨h1, h2⟩))
theorem wpPermE_end {P : Program} {ops : Array Oper} {Q : Exit → Act → World → Prop} {S : World → Prop} {last : Nat} {a : Act} {w : World} (h : Q .normal a w) : wpPermE P ops Q S last [] a w := h

/-- The body of the first range over a function in a function's code. -/
def findBody : Code → Option Code
  | .rangeFunc _ _ _ b => some b
  | .seq x y => (findBody x).or (findBody y)
  | .cond _ x y => (findBody x).or (findBody y)
  | .block _ c => findBody c
  | .loop c => findBody c
  | .scope c => findBody c
  | _ => none
def bodyOf (f : Func) : Code := ((f.body.bind findBody).getD .skip)
end Go.Proofs.Ytmadelflnjhibaa
