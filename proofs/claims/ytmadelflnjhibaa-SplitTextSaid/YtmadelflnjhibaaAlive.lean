import Derived.Test.YtmadelflnjhibaaConst
namespace Go.Proofs.Ytmadelflnjhibaa
open Go.RowKit
attribute [local go_sem] Cls.val clsNone clsAll

theorem rd_lit {w : World} {g n : Nat} {T : TypeId} {cs : Array Value} {F : Nat → Value} (h : w.heap[g]? = some (.cells cs T (0, 0))) (hF : ∀ j, j < n → cs[j]? = some (F j)) : Sl w (.slice (some ⟨g, 0, none⟩) n n) n F :=
  ⟨_, _, rfl, Nat.le_refl _, .inr ⟨g, 0, rfl, fun j hj => by rw [Nat.zero_add, cell_of_row _ _ _ _ _ _ h]; exact hF j hj⟩⟩
theorem lt_three {P : Nat → Prop} (h0 : P 0) (h1 : P 1) (h2 : P 2) : ∀ j, j < 3 → P j
  | 0, _ => h0
  | 1, _ => h1
  | 2, _ => h2
  | j + 3, h => absurd h (by omega)
theorem lt_two {P : Nat → Prop} (h0 : P 0) (h1 : P 1) : ∀ j, j < 2 → P j
  | 0, _ => h0
  | 1, _ => h1
  | j + 2, h => absurd h (by omega)

/-- A literal row of three whole numbers is compared. -/
theorem places_lit {W : World} {v : Value} {a b c : Nat} (hv : Sl W v 3 (I (IL [a, b, c]))) {g : Nat} (hg : W.heap[g]? = some (.cells #[.int .i64 a, .int .i64 b, .int .i64 c] 3 (0, 0))) :
    Calls Try.prog 24 #[v, .slice (some ⟨g, 0, none⟩) 3 3] W fun e w' => e = .returned (.bool true) ∧ Ext W w' := by
  have h := places_same 3 3 (IL [a, b, c]) (IL [a, b, c]) (by decide) (by decide) v _ W hv (rd_lit hg (lt_three rfl rfl rfl))
  rwa [show sameB 3 3 (IL [a, b, c]) (IL [a, b, c]) = true from sameB_iff.2 ⟨rfl, fun _ _ => rfl⟩] at h

/-- What is told of a set made of a text; of a row that is compared with a literal one. -/
structure OfP (s : ByteArray) (c : Cls) : Prop where
  out : ∀ W, Calls Try.prog 45 #[.string s] W fun e w' => e = .returned c.val ∧ Ext W w'
structure SmP (W : World) (v : Value) (n : Nat) (cs : Array Value) : Prop where
  out : ∃ F : Nat → Int, n ≤ 3 ∧ Sl W v n (U F) ∧ ∀ j, j < n → cs[j]? = some (U F j)
theorem SmP.ext {W W' : World} {v : Value} {n : Nat} {cs : Array Value} (h : SmP W v n cs) (he : Ext W W') : SmP W' v n cs := by
  obtain ⟨F, h1, h2, h3⟩ := h
  exact ⟨F, h1, h2.ext he, h3⟩
theorem SmP.same {W : World} {v : Value} {n g : Nat} {cs : Array Value} (h : SmP W v n cs) (hg : W.heap[g]? = some (.cells cs 25 (0, 0))) :
    Calls Try.prog 17 #[v, .slice (some ⟨g, 0, none⟩) n n] W fun e w' => e = .returned (.bool true) ∧ Ext W w' := by
  obtain ⟨F, h1, h2, h3⟩ := h
  have h := same_u64 n n F F (by omega) (by omega) v _ W h2 (rd_lit hg h3)
  rwa [sameB_iff.2 ⟨rfl, fun _ _ => rfl⟩] at h
structure PlP (W : World) (v : Value) (n : Nat) (cs : Array Value) : Prop where
  out : ∃ F : Nat → Int, n ≤ 3 ∧ Sl W v n (I F) ∧ ∀ j, j < n → cs[j]? = some (I F j)
theorem PlP.ext {W W' : World} {v : Value} {n : Nat} {cs : Array Value} (h : PlP W v n cs) (he : Ext W W') : PlP W' v n cs := by
  obtain ⟨F, h1, h2, h3⟩ := h
  exact ⟨F, h1, h2.ext he, h3⟩
theorem PlP.same {W : World} {v : Value} {n g : Nat} {cs : Array Value} (h : PlP W v n cs) (hg : W.heap[g]? = some (.cells cs 3 (0, 0))) :
    Calls Try.prog 24 #[v, .slice (some ⟨g, 0, none⟩) n n] W fun e w' => e = .returned (.bool true) ∧ Ext W w' := by
  obtain ⟨F, h1, h2, h3⟩ := h
  have h := places_same n n F F (by omega) (by omega) v _ W h2 (rd_lit hg h3)
  rwa [sameB_iff.2 ⟨rfl, fun _ _ => rfl⟩] at h

theorem heap_alloc_drew (w : World) (o : Obj) : (w.alloc o).drew.heap[w.heap.size]? = some o := heap_alloc_new w o
def LiveS (B : Nat) (p : Option Addr) (n cap : Nat) (K : Int) (W W' : World) : Prop := Ext W W' ∧ W'.cell? ⟨B, 0, none⟩ = some (.slice p n cap) ∧ W'.cell? ⟨B, 1, none⟩ = some (.int .i64 K)
theorem LiveS.ext {B : Nat} {p : Option Addr} {n cap : Nat} {K : Int} {W A A' : World} (h : LiveS B p n cap K W A) (he : Ext A A') : LiveS B p n cap K W A' := ⟨h.1.trans he, he.cell h.2.1, he.cell h.2.2⟩
theorem LiveS.alloc {B : Nat} {p : Option Addr} {n cap : Nat} {K : Int} {W A : World} (h : LiveS B p n cap K W A) (o : Obj) : LiveS B p n cap K W (A.alloc o) := h.ext ((Ext.refl A).alloc o)

set_option maxRecDepth 100000 in
set_option maxHeartbeats 4000000 in
theorem alive_any (w : World) : Calls Try.prog 16 #[] w fun e w' => e = .returned (.bool true) ∧ Ext w w' := by
  have Htx : Hid (∀ W, Calls Try.prog 44 #[.string ⟨#[97, 98]⟩, .int .i64 1] W fun e w' => ∃ p cap, e = .returned (.agg #[.slice p 2 cap, .int .i64 1]) ∧ 2 ≤ cap ∧ RdC w' p 2 (fT sAB) ∧ Ext W w') := fun W => text_any sAB (by decide) 1 W
  have hco := fun p cap (hcap : 2 ≤ cap) W (hr : RdC W p 2 (fT sAB)) => scounts_all p 2 cap 1 (fT sAB) hcap (by decide) sABBB (by decide) 4 (txtL_ok sAB 2) W hr
  have hfi := fun p cap (hcap : 2 ≤ cap) W (hr : RdC W p 2 (fT sAB)) => sfind_all p 2 cap 1 (fT sAB) hcap (by decide) sABBB (by decide) 4 (txtL_ok sAB 2) W hr
  have hfe := fun p cap (hcap : 2 ≤ cap) W (hr : RdC W p 2 (fT sAB)) => sfind_all p 2 cap 1 (fT sAB) hcap (by decide) sABBB (by decide) 3 (txtL_ok sAB 2) W hr
  have hce := fun W => scounts_all none 0 0 0 (fun _ => clsNone) (by decide) (by decide) sA (by decide) 1 (fun _ => none_ok) W (.inl rfl)
  rw [show checkV (fT sAB) 2 1 sABBB.size 4 = 0 from k1, show cntsN (fT sAB) 2 sABBB.size 4 0 = 18 from k5, show cntsL (fT sAB) sABBB 2 1 0 = [0, 1, 1] from k4] at hco
  rw [show checkV (fT sAB) 2 1 sABBB.size 4 = 0 from k1, show cntsN (fT sAB) 2 sABBB.size 4 0 = 18 from k5, show fndL (fT sAB) sABBB 2 1 0 = [0, 1, 2] from k6] at hfi
  rw [show checkV (fT sAB) 2 1 sABBB.size 3 = 50 from k2] at hfe
  rw [show checkV (fun _ => clsNone) 0 0 sA.size 1 = 170 from k3 _] at hce
  generalize hN5 : cntsN (fT sAB) 2 sABBB.size 3 50 = N5 at hfe
  generalize hN6 : cntsN (fun _ => clsNone) 0 sA.size 1 170 = N6 at hce
  have Hco : Hid (∀ p cap, 2 ≤ cap → ∀ W, RdC W p 2 (fT sAB) → Calls Try.prog 22 #[.agg #[.slice p 2 cap, .int .i64 1], .string ⟨#[97, 98, 98, 98]⟩, .int .i64 4] W fun e w' => ∃ v, e = .returned (.tuple #[v, .int .i64 18, .int .i64 0]) ∧ Sl w' v 3 (I (IL [0, 1, 1])) ∧ Ext W w') := hco
  have Hfi : Hid (∀ p cap, 2 ≤ cap → ∀ W, RdC W p 2 (fT sAB) → Calls Try.prog 25 #[.agg #[.slice p 2 cap, .int .i64 1], .string ⟨#[97, 98, 98, 98]⟩, .int .i64 4] W fun e w' => ∃ v, e = .returned (.tuple #[v, .int .i64 18, .int .i64 0]) ∧ Sl w' v 3 (I (IL [0, 1, 2])) ∧ Ext W w') := hfi
  have Hfe : Hid (∀ p cap, 2 ≤ cap → ∀ W, RdC W p 2 (fT sAB) → Calls Try.prog 25 #[.agg #[.slice p 2 cap, .int .i64 1], .string ⟨#[97, 98, 98, 98]⟩, .int .i64 3] W fun e w' => ∃ v, e = .returned (.tuple #[v, .int .i64 N5, .int .i64 50]) ∧ Ext W w') := fun p cap h W hr => (hfe p cap h W hr).mono fun e w' ⟨v, h1, _, h2⟩ => ⟨v, h1, h2⟩
  have Hce : Hid (∀ W, Calls Try.prog 22 #[.agg #[.slice none 0 0, .int .i64 0], .string ⟨#[97]⟩, .int .i64 1] W fun e w' => ∃ v, e = .returned (.tuple #[v, .int .i64 N6, .int .i64 170]) ∧ Ext W w') := fun W => (hce W).mono fun e w' ⟨v, h1, _, h2⟩ => ⟨v, h1, h2⟩
  have Oa : OfP ⟨#[97]⟩ (ofV sA 1) := ⟨fun W => clsof_any sA (by decide) W⟩
  have Ob : OfP ⟨#[98]⟩ (ofV sB 1) := ⟨fun W => clsof_any sB (by decide) W⟩
  have Hmk : Hid (∀ W, Calls Try.prog 18 #[.string ⟨#[97, 98, 97]⟩, (ofV sA 1).val] W fun e w' => ∃ v, e = .returned v ∧ SmP w' v 3 #[.int .u64 1, .int .u64 0, .int .u64 1] ∧ Ext W w') := fun W =>
    (marks_any sABA (by decide) (ofV sA 1) (one_ok 97 (by decide)) W).mono fun e w' ⟨g, h1, _, h2, h3⟩ => ⟨_, h1, ⟨_, by decide, Sl.of_row h2, lt_three (by kernel_rfl) (by kernel_rfl) (by kernel_rfl)⟩, h3⟩
  have Hpl : Hid (∀ p cap, 2 ≤ cap → ∀ W, RdC W p 2 (fT sAB) → Calls Try.prog 20 #[.agg #[.slice p 2 cap, .int .i64 1], (ofV sB 1).val] W fun e w' => ∃ v, e = .returned v ∧ SmP w' v 2 #[.int .u64 0, .int .u64 1] ∧ Ext W w') := fun p cap hcap W hr =>
    (places_any p 2 cap 1 (fT sAB) (ofV sB 1) hcap (by decide) W hr).mono fun e w' ⟨g, h1, _, h2, h3⟩ => ⟨_, h1, ⟨_, by decide, Sl.of_row h2, lt_two (by kernel_rfl) (by kernel_rfl)⟩, h3⟩
  clear hco hfi hfe hce hN5 hN6
  generalize ofV sA 1 = ca at *
  generalize ofV sB 1 = cb at *
  generalize fT sAB = f at *
  go_enter Try.func16, Try.ntmps16
  go_wp2_with fail
  refine (Htx.out _).mono ?_
  rintro e w1 ⟨p, cap, rfl, hcap, hrd, hE1⟩
  have hb := heap_alloc_new w1 (.cells #[.slice p 2 cap, .int .i64 1] 24)
  have hEb := hE1.alloc (.cells #[.slice p 2 cap, .int .i64 1] 24)
  have hrb := hrd.ext ((Ext.refl w1).alloc (.cells #[.slice p 2 cap, .int .i64 1] 24))
  go_wp2_with fail
  generalize w1.alloc (.cells #[.slice p 2 cap, .int .i64 1] 24) = W1 at *
  generalize w1.heap.size = B at *
  clear hrd hE1
  refine (Hco.out p cap hcap _ hrb).mono ?_
  rintro e w2 ⟨v1, rfl, hv1, hE2⟩
  have c0 : w2.cell? ⟨B, 0, none⟩ = some (.slice p 2 cap) := hE2.cell (cell_of_row _ _ _ _ _ _ hb)
  have c1 : w2.cell? ⟨B, 1, none⟩ = some (.int .i64 1) := hE2.cell (cell_of_row _ _ _ _ _ _ hb)
  go_wp2_with fail
  refine (Hfi.out p cap hcap _ (hrb.ext hE2)).mono ?_
  rintro e w3 ⟨v2, rfl, hv2, hE3⟩
  go_wp2_with fail
  refine (Hce.out _).mono ?_
  rintro e w4 ⟨v3, rfl, hE4⟩
  have e0 := hE4.cell (hE3.cell c0)
  have e1 := hE4.cell (hE3.cell c1)
  go_wp2_with fail
  refine (Hfe.out p cap hcap _ (hrb.ext ((hE2.trans hE3).trans hE4))).mono ?_
  rintro e w5 ⟨v4, rfl, hE5⟩
  have HS : Hid (LiveS B p 2 cap 1 w5 w5) := ⟨Ext.refl _, hE5.cell e0, hE5.cell e1⟩
  have Hv1 := Lib.hid (hv1.ext ((hE3.trans hE4).trans hE5))
  have Hv2 := Lib.hid (hv2.ext (hE4.trans hE5))
  have HE5 := Lib.hid ((((hEb.trans hE2).trans hE3).trans hE4).trans hE5)
  have Hrd := Lib.hid (hrb.ext (((hE2.trans hE3).trans hE4).trans hE5))
  clear hE2 hE3 hE4 hE5 c0 c1 e0 e1 hv1 hv2 hb hEb hrb
  go_wp2_with fail
  have P1 : PlP w5 v1 3 #[.int .i64 0, .int .i64 1, .int .i64 1] := ⟨_, by decide, Hv1.out, lt_three rfl rfl rfl⟩
  have P2 : PlP w5 v2 3 #[.int .i64 0, .int .i64 1, .int .i64 2] := ⟨_, by decide, Hv2.out, lt_three rfl rfl rfl⟩
  have Hpl2 : Hid (∀ W, Ext w5 W → Calls Try.prog 20 #[.agg #[.slice p 2 cap, .int .i64 1], cb.val] W fun e w' => ∃ v, e = .returned v ∧ SmP w' v 2 #[.int .u64 0, .int .u64 1] ∧ Ext W w') := fun W h => Hpl.out p cap hcap W (Hrd.out.ext h)
  clear Hv1 Hv2 Hpl Hrd Htx Hco Hfi Hfe Hce
  have hPL : Hid (∀ W v n g cs, PlP w5 v n cs → Ext w5 W → W.heap[g]? = some (.cells cs 3 (0, 0)) → Calls Try.prog 24 #[v, .slice (some ⟨g, 0, none⟩) n n] W fun e w' => e = .returned (.bool true) ∧ Ext W w') := fun W v n g cs h1 h2 h3 => (h1.ext h2).same h3
  have hSM : Hid (∀ W v n g cs, SmP W v n cs → W.heap[g]? = some (.cells cs 25 (0, 0)) → Calls Try.prog 17 #[v, .slice (some ⟨g, 0, none⟩) n n] W fun e w' => e = .returned (.bool true) ∧ Ext W w') := fun W v n g cs h1 h3 => h1.same h3
  have hOF : Hid (∀ W s c, OfP s c → Calls Try.prog 45 #[.string s] W fun e w' => e = .returned c.val ∧ Ext W w') := fun W s c h => h.out W
  go_region_held3 (fun W' => Ext w5 W' ∧ W'.cell? ⟨B, 0, none⟩ = some (.slice p 2 cap) ∧ W'.cell? ⟨B, 1, none⟩ = some (.int .i64 1))
    ((first | exact HS.out | exact HS.out.ext (Ext.refl w5).drew | exact (HS.out.alloc _).ext (Ext.refl _).drew | exact ‹Ext w5 _ ∧ _ ∧ _› | exact LiveS.alloc ‹Ext w5 _ ∧ _ ∧ _› _ | exact LiveS.ext ‹Ext w5 _ ∧ _ ∧ _› hb2 | exact LiveS.ext ‹Ext w5 _ ∧ _ ∧ _› hbo | exact LiveS.ext ‹Ext w5 _ ∧ _ ∧ _› hbm | fail))
    (first
      | (go_at_call 24; refine Calls.mono (hPL.out _ _ _ _ _ (by first | exact P1 | exact P2) ?_ ?_) ?_; exact (‹Ext w5 _ ∧ _ ∧ _›).1; (first | exact heap_alloc_drew _ _ | exact heap_alloc_new _ _); rintro e w6 ⟨rfl, hb2⟩)
      | (go_at_call 45; refine Calls.mono (hOF.out _ _ _ (by first | exact Oa | exact Ob)) ?_; rintro e w6 ⟨rfl, hbo⟩)
      | (go_at_call 18; refine Calls.mono (Hmk.out _) ?_; rintro e w6 ⟨v5, rfl, hv5, hbm⟩)
      | (go_at_call 20; refine Calls.mono (Hpl2.out _ ?_) ?_; exact (‹Ext w5 _ ∧ _ ∧ _›).1; rintro e w6 ⟨v5, rfl, hv5, hbm⟩)
      | (go_at_call 17; refine Calls.mono (hSM.out _ _ _ _ _ (by first | exact hv5 | exact hv5.ext ((Ext.refl _).alloc _)) ?_) ?_; (first | exact heap_alloc_new _ _ | exact hbm.heap (heap_alloc_new _ _) | exact hbm.heap (hbo.heap (heap_alloc_new _ _))); rintro e w6 ⟨rfl, hb2⟩)
      | fail "no arm")
  all_goals
    have hEe := (‹Ext w5 _ ∧ _ ∧ _›).1
    go_wp2_with fail
    go_ret
    exact ⟨rfl, HE5.out.trans hEe⟩
end Go.Proofs.Ytmadelflnjhibaa
