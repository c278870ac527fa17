import Derived.Test.YtmadelflnjhibaaBase
import Derived.Test.YtmadelflnjhibaaKinds
import Derived.Deep.Slices
import Derived.Lib.SmallJoins
import Derived.Laws.IdiomArrays
import Derived.DataReads
import Derived.Carry
import Derived.ProofKit
namespace Go.Proofs.Ytmadelflnjhibaa
set_option maxRecDepth 100000
open Go.RowKit Go.ChangeShapes Go.WideShapes Go.ChangeAt Go.Deep

section
variable {H : Type} {enc : TypeId × Value → H} {w : World} {base : Nat} {spare : Nat → Bool} {held : Bool}

/-- Four cells that read as a set. -/
theorem open_cls_cells {fuel : Nat} {cs : List Value} {x : DataW H × List MemPlace} (hl : cs.length = 4) (h : DataW.trod enc Try.prog w base spare held fuel 27 cs = some x) : ∃ c : Cls, c.ok ∧ cs = cells4 c := by
  match cs, hl with
  | [c0, c1, c2, c3], _ =>
    obtain ⟨y0, y1, y2, y3, n, _, h0, h1, h2, h3⟩ := trod_array4 Try.underlying27 (by kernel_rfl) h
    obtain ⟨a0, e0, _, w0⟩ := DataW.trod_int Try.underlying25 h0
    obtain ⟨a1, e1, _, w1⟩ := DataW.trod_int Try.underlying25 h1
    obtain ⟨a2, e2, _, w2⟩ := DataW.trod_int Try.underlying25 h2
    obtain ⟨a3, e3, _, w3⟩ := DataW.trod_int Try.underlying25 h3
    injection e0 with e0
    injection e1 with e1
    injection e2 with e2
    injection e3 with e3
    have wf : ∀ a : Int, (Lit.int .u64 a).wf = true → 0 ≤ a ∧ a ≤ 18446744073709551615 := by
      intro a h
      simp [Lit.wf, IntKind.min, IntKind.max, IntKind.signed, IntKind.bits] at h
      omega
    refine ⟨⟨a0, a1, a2, a3⟩, ?_, by simp [cells4, e0, e1, e2, e3]⟩
    intro k
    unfold Cls.word
    split
    · exact wf _ w0
    · split
      · exact wf _ w1
      · split
        · exact wf _ w2
        · exact wf _ w3

/-- A row of sets that comes in. -/
theorem open_cls_slice {fuel : Nat} {v : Value} {x : DataW H × List MemPlace} (h : DataW.trod enc Try.prog w base spare held fuel 22 [v] = some x) :
    ∃ (p : Option Addr) (n cap : Nat) (f : Nat → Cls), v = .slice p n cap ∧ n ≤ cap ∧ (∀ j, (f j).ok) ∧ RdC w p n f := by
  rcases open_slice Try.underlying22 h with ⟨h1, _⟩ | ⟨a, len, cap, m, n, D, Pl, h1, hb, hl, _, hm, _, hall⟩
  · injection h1 with h1
    exact ⟨none, 0, 0, fun _ => clsNone, h1, Nat.le_refl _, fun _ k => by unfold Cls.word clsNone; split; simp; split; simp; split <;> simp, .inl rfl⟩
  · injection h1 with h1
    have hlm : len ≤ m := by rw [hm]; split <;> omega
    have hc : Try.prog.cellsOf 27 = 4 := by kernel_rfl
    rw [hc] at hall
    by_cases h0 : len = 0
    · exact ⟨some a, len, cap, fun _ => clsNone, h1, hl, fun _ k => by unfold Cls.word clsNone; split; simp; split; simp; split <;> simp, .inl h0⟩
    have hs : a.spot = none := by
      obtain ⟨cs, h2, h3⟩ := hall 0 (by omega)
      obtain ⟨_, h4, h5⟩ := World.cells?_some h2
      obtain ⟨c, _, rfl⟩ := open_cls_cells h4 h3
      have h6 := h5 0 (by decide)
      have e : ((a.add (0 * 4)).add 0) = a := by simp [Addr.add]
      rw [e] at h6
      have h7 : w.cell? a = some (.int .u64 c.w0) := h6
      unfold World.cell? at h7
      split at h7
      · split at h7
        · cases h7
        · rename_i hs
          simpa using hs
      · cases h7
    obtain ⟨ab, ao, asp⟩ := a
    simp only [] at hs
    subst hs
    have hadd : ∀ o k, (⟨ab, o, none⟩ : Addr).add k = ⟨ab, o + k, none⟩ := by
      intro o k
      unfold Addr.add
      split
      · rename_i h; subst h; rfl
      · rfl
    have key : ∀ i, ∃ c : Cls, c.ok ∧ (i < len → ClsAt w ab (ao + i * 4) c) := by
      intro i
      by_cases hi : i < len
      · obtain ⟨cs, h2, h3⟩ := hall i (by omega)
        obtain ⟨_, h4, h5⟩ := World.cells?_some h2
        obtain ⟨c, hok, rfl⟩ := open_cls_cells h4 h3
        have g : ∀ k (u : Value), k < 4 → (cells4 c)[k]? = some u → w.cell? ⟨ab, ao + i * 4 + k, none⟩ = some u := by
          intro k u hk hu
          have h6 := h5 k hk
          rwa [hu, hadd, hadd] at h6
        exact ⟨c, hok, fun _ => ⟨g 0 _ (by decide) rfl, g 1 _ (by decide) rfl, g 2 _ (by decide) rfl, g 3 _ (by decide) rfl⟩⟩
      · exact ⟨clsNone, fun k => by unfold Cls.word clsNone; split; simp; split; simp; split <;> simp, fun h => absurd h hi⟩
    exact ⟨_, len, cap, fun i => Classical.choose (key i), h1, hl, fun i => (Classical.choose_spec (key i)).1, .inr ⟨ab, ao, rfl, fun j hj => (Classical.choose_spec (key j)).2 hj⟩⟩

theorem open_leaf {r : Reach} {b0 : Nat} {v : Value} {d : DataW H} {ps : List MemPlace} (hv : Value.okWide Try.prog w r b0 24 v) (h : DataW.Trod enc Try.prog w base spare held 24 v d ps) :
    ∃ (p : Option Addr) (n cap : Nat) (K : Int) (f : Nat → Cls), v = leafVal p n cap K ∧ n ≤ cap ∧ (∀ j, (f j).ok) ∧ RdC w p n f := by
  obtain ⟨v0, v1, y0, y1, m, rfl, _, _, h0, h1⟩ := Joins.open_agg2 Try.underlying24 (by kernel_rfl) (by kernel_rfl) hv h
  obtain ⟨p, n, cap, f, rfl, hcap, hok, hr⟩ := open_cls_slice h0
  obtain ⟨K, hK, _, _⟩ := DataW.trod_int Try.underlying3 h1
  injection hK with hK
  subst hK
  exact ⟨p, n, cap, K, f, rfl, hcap, hok, hr⟩

theorem open_cls {r : Reach} {b0 : Nat} {v : Value} {d : DataW H} {ps : List MemPlace} (hv : Value.okWide Try.prog w r b0 27 v) (h : DataW.Trod enc Try.prog w base spare held 27 v d ps) :
    ∃ c : Cls, c.ok ∧ v = c.val := by
  obtain ⟨fuel, hf⟩ := h
  unfold Value.okWide at hv
  simp only [Try.underlying27] at hv
  obtain ⟨cs, rfl, hsz, _⟩ := hv
  have hc : Try.prog.cellsOf 27 = 4 := by kernel_rfl
  rw [hc] at hsz
  obtain ⟨c, hok, h2⟩ := open_cls_cells (by simpa [Value.cells] using hsz) hf
  refine ⟨c, hok, ?_⟩
  have h3 : cs.toList = cells4 c := h2
  have : cs = (cells4 c).toArray := by rw [← h3]
  rw [this]
  rfl

/-- Two whole numbers in a row. -/
theorem open_arr2 {r : Reach} {b0 : Nat} {v : Value} {d : DataW H} {ps : List MemPlace} (hv : Value.okWide Try.prog w r b0 47 v) (h : DataW.Trod enc Try.prog w base spare held 47 v d ps) :
    ∃ a b : Int, v = .agg #[.int .i64 a, .int .i64 b] := by
  obtain ⟨fuel, hf⟩ := h
  unfold Value.okWide at hv
  simp only [Try.underlying47] at hv
  obtain ⟨cs, rfl, hsz, _⟩ := hv
  have hc : Try.prog.cellsOf 47 = 2 := by kernel_rfl
  have hc1 : Try.prog.cellsOf 3 = 1 := by kernel_rfl
  rw [hc] at hsz
  obtain ⟨c0, c1, rfl⟩ : ∃ c0 c1, cs = #[c0, c1] := by
    obtain ⟨l⟩ := cs
    match l, hsz with
    | [c0, c1], _ => exact ⟨c0, c1, rfl⟩
  obtain ⟨xs, m, _, _, _, hl, hall⟩ := DataW.trod_array Try.underlying47 hf
  rw [hc1] at hall
  have g0 := hall 0 (by decide)
  have g1 := hall 1 (by decide)
  obtain ⟨y0, e0⟩ : ∃ y, xs[0]? = some y := ⟨_, List.getElem?_eq_getElem (by omega)⟩
  obtain ⟨y1, e1⟩ : ∃ y, xs[1]? = some y := ⟨_, List.getElem?_eq_getElem (by omega)⟩
  rw [e0] at g0
  rw [e1] at g1
  obtain ⟨a, k0, _, _⟩ := DataW.trod_int Try.underlying3 g0
  obtain ⟨b, k1, _, _⟩ := DataW.trod_int Try.underlying3 g1
  simp [Value.cells] at k0 k1
  exact ⟨a, b, by rw [k0, k1]⟩

theorem trodAll_stays {W W' : World} (hE : Ext W W') : ∀ {ts : List TypeId} {vs : List Value} {ds : List (DataW H)} {p : List MemPlace}, (∀ t ∈ ts, Try.prog.readableRec t = true ∧ t < Try.prog.types.size) →
    DataW.TrodAll enc Try.prog W 0 (fun _ => true) true ts vs ds p → (∀ x ∈ p, x.block < W.heap.size) → DataW.TrodAll enc Try.prog W' 0 (fun b => decide (b < W.heap.size)) true ts vs ds p
  | [], _, _, _, _, h, _ => by
    obtain ⟨rfl, rfl, rfl⟩ := trodAll_nil h
    exact trodAll_mk0
  | t :: ts, _, _, _, hp, h, hlt => by
    obtain ⟨v, vs1, d, ds1, a, b, rfl, rfl, rfl, h1, h2⟩ := trodAll_cons h
    obtain ⟨r1, r2⟩ := hp t (List.mem_cons_self ..)
    exact ⟨a, b, Below.trod (by kernel_rfl) r1 r2 h1 hE (fun x hx => hlt x (List.mem_append_left _ hx)), trodAll_stays hE (fun t ht => hp t (List.mem_cons_of_mem _ ht)) h2 (fun x hx => hlt x (List.mem_append_right _ hx)), rfl⟩

noncomputable def paramsOk (ts : List TypeId) : Bool := ts.all fun t => Try.prog.readableRec t && decide (t < Try.prog.types.size)

/-- A law that holds and leaves old memory as it was: its row's post. -/
theorem law_post {f : Func} {s : ChangeSpec} {apart fresh : Bool} {W W' : World} {args : Array Value} {ds : List (DataW H)} {before : List MemPlace}
    (hW : DataW.Whole enc Try.prog f.params.toList s.vars apart W args.toList ds [] before) (hv : s.vars = []) (hr : f.resultTypes = #[4])
    (hs1 : (s.fn H (ds ++ [])).results = [.lit (.bool true)]) (hs2 : (s.fn H (ds ++ [])).args = ds) (hs3 : (s.fn H (ds ++ [])).vars = [])
    (hpo : paramsOk f.params.toList = true) (hE : Ext W W') :
    s.post enc Try.prog f apart fresh false false W args (.bool true) W' := by
  have hlt := hW.lt
  have hp : ∀ t ∈ f.params.toList, Try.prog.readableRec t = true ∧ t < Try.prog.types.size := fun t ht => by
    have h := List.all_eq_true.1 hpo t ht
    rw [Bool.and_eq_true, decide_eq_true_eq] at h
    exact h
  refine ⟨ds, [], before, [], before, [], hW, ?_, ?_, ?_, ?_, fun h => by cases h⟩
  · rw [hr, hs1]
    exact trodAll_mk1 (shut_bool Try.underlying4 true)
  · rw [hs2]
    obtain ⟨p, q, h1, h2, h3, _, _⟩ := hW
    rw [hv] at h2
    obtain ⟨_, rfl⟩ := trodVars_none h2
    rw [List.append_nil] at h3
    subst h3
    exact trodAll_stays hE hp h1 (fun x hx => by simpa using hlt x hx)
  · rw [hs3, hv]
    rfl
  · exact Below.frame hE _
end
end Go.Proofs.Ytmadelflnjhibaa
