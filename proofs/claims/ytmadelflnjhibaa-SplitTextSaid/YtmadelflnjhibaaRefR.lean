import Derived.Test.YtmadelflnjhibaaRefP
namespace Go.Proofs.Ytmadelflnjhibaa
open Go.RowKit
attribute [local go_sem] Cls.val clsNone clsAll

/-- How many transforms there are, whatever the size. -/
def count0 (m n : Nat) (size : Int) : Int := if szOk m size = true then kcount m n size else 0
theorem count0_ok {m n : Nat} {size : Int} (h : m ≤ n → szOk m size = true) : count0 m n size = kcount m n size := by
  unfold count0
  by_cases h1 : szOk m size = true
  · rw [if_pos h1]
  · rw [if_neg h1]
    unfold kcount
    rw [if_neg (fun h2 => h1 (h h2))]

set_option maxRecDepth 100000 in
set_option maxHeartbeats 1000000 in
theorem refcount_gen (m n : Nat) (size : Int) (h1 : 1 ≤ m) (hn : n ≤ 1099511627776) (w : World) :
    Calls Try.prog 55 #[.int .i64 m, .int .i64 n, .int .i64 size] w fun e w' => e = .returned (.int .i64 (count0 m n size)) ∧ w = w' := by
  by_cases hok : m ≤ n → szOk m size = true
  · rw [count0_ok hok]
    exact refcount_any m n size h1 hn hok w
  · have h2 : m ≤ n := by
      by_cases h : m ≤ n
      · exact h
      · exact absurd (fun h3 => absurd h3 h) hok
    have h3 : szOk m size = false := by
      cases h : szOk m size
      · rfl
      · exact absurd (fun _ => h) hok
    have h4 : count0 m n size = 0 := by unfold count0; rw [h3]; rfl
    rw [h4]
    have Hsl := Lib.hid (refslides_any m n)
    have Hsd := Lib.hid (refsized_any m size)
    rw [decide_eq_true h1, decide_eq_true h2] at Hsl
    rw [h3] at Hsd
    clear h3 h4 hok
    go_enter Try.func55, Try.ntmps55
    go_wp2_with fail
    refine (Hsl.out _).mono ?_
    rintro e w1 ⟨rfl, rfl⟩
    go_wp2_with fail
    refine (Hsd.out _).mono ?_
    rintro e w1 ⟨rfl, rfl⟩
    go_wp2_with fail
    go_ret
    exact ⟨rfl, rfl⟩

/-- How many elements of some kinds are not missed at a place. -/
def rareV (ks : Nat → Cls) (m : Nat) (f : Nat → Cls) (s : ByteArray) (n i : Nat) : Nat := cnt (fun j => inB ks (f j) m && has (f j) (byteV s (i + j))) n
theorem rareV_le (ks : Nat → Cls) (m : Nat) (f : Nat → Cls) (s : ByteArray) (n i : Nat) : rareV ks m f s n i ≤ n := cnt_le _ _
/-- The list of them. -/
def rareLs (ks : Nat → Cls) (m : Nat) (f : Nat → Cls) (s : ByteArray) (n : Nat) (K : Int) : List Nat := if rightB f n K = true then (List.range (sumsN n s.size)).map (rareV ks m f s n) else []

def RRRel (ks : Nat → Cls) (m : Nat) (f : Nat → Cls) (s : ByteArray) (n N : Nat) (w0 : World) (v i : Value) (wr : World) : Prop :=
  ∃ k : Nat, k ≤ N ∧ i = .int .i64 k ∧ wr.ownsRow w0.heap.size 3 1 v k (((List.range k).map (rareV ks m f s n)).map In) ∧ Ext w0 wr
def RRIn (g : Nat → Bool) (n : Nat) (w0 : World) (c j : Value) (wr : World) : Prop :=
  ∃ t : Nat, t ≤ n ∧ j = .int .i64 t ∧ c = .int .i64 (cnt g t) ∧ Ext w0 wr

set_option maxRecDepth 100000 in
set_option maxHeartbeats 4000000 in
theorem refrare_any (p : Option Addr) (n cap : Nat) (K : Int) (f : Nat → Cls) (hcap : n ≤ cap) (hn : n ≤ 1099511627776) (hcls : ∀ j, (f j).ok) (s : ByteArray) (hs : s.size ≤ 1099511627776) (pk : Option Addr) (m ck : Nat) (ks : Nat → Cls) (hck : m ≤ ck) (hm : m ≤ 1099511627776) (w : World) (hr : RdC w p n f) (hrk : RdC w pk m ks) :
    Calls Try.prog 39 #[leafVal p n cap K, .string s, .slice pk m ck] w fun e w' => ∃ v, e = .returned v ∧ w'.ownsRow w.heap.size 3 1 v (rareLs ks m f s n K).length ((rareLs ks m f s n K).map In) ∧ Ext w w' := by
  obtain ⟨i0, hi, hz0, hz1, hz2⟩ := info_parts info_int
  have hnew := heap_alloc_new w (.cells #[.slice p n cap, .int .i64 K] 24)
  have hE0 := (Ext.refl w).alloc (.cells #[.slice p n cap, .int .i64 K] 24)
  have Hrt := Lib.hid (fun W (hW : Ext w W) => refright_any p n cap K f hcap hn hcls W (hr.ext hW))
  have Hin := Lib.hid (fun c W (hW : Ext w W) => refin_any pk m ck ks c hm hck W (hrk.ext hW))
  have Hcls := Lib.hid hcls
  have Hr := Lib.hid hr
  have hval : rareLs ks m f s n K = if rightB f n K = true then (List.range (sumsN n s.size)).map (rareV ks m f s n) else [] := rfl
  have hrt := @rightB_true f n K
  generalize rightB f n K = r at *
  clear hr hrk hcls
  unfold leafVal at *
  cases r
  · rw [if_neg (by decide)] at hval
    rw [hval]
    clear hrt hval
    go_enter Try.func39, Try.ntmps39
    go_wp2_with fail
    generalize w.alloc (.cells #[.slice p n cap, .int .i64 K] 24) = W at *
    refine (Hrt.out _ hE0).mono ?_
    rintro e w2 ⟨rfl, hE2⟩
    have HE2 := Lib.hid (hE0.trans hE2)
    clear hE0 hE2 hnew
    go_wp2_with fail
    go_ret
    exact ⟨_, rfl, by simp [World.ownsRow], HE2.out⟩
  · obtain ⟨h1, h64, _, _⟩ := hrt rfl
    rw [if_pos rfl] at hval
    rw [hval, List.length_map, List.length_range]
    have hsum : ∀ k : Nat, (k : Int) + (n : Int) ≤ (s.size : Int) ↔ k < sumsN n s.size := by intro k; unfold sumsN; omega
    have hsm : sumsN n s.size ≤ s.size + 1 := by unfold sumsN; omega
    have Hsum := Lib.hid hsum
    clear hval hrt hsum
    generalize sumsN n s.size = N at *
    go_enter Try.func39, Try.ntmps39
    go_wp2_with fail
    generalize w.alloc (.cells #[.slice p n cap, .int .i64 K] 24) = W at *
    refine (Hrt.out _ hE0).mono ?_
    rintro e w2 ⟨rfl, hE2⟩
    have Hnew := Lib.hid (hE2.heap hnew)
    have HE2 := Lib.hid (hE0.trans hE2)
    clear hE0 hE2 hnew
    generalize hB : w.heap.size = B at *
    clear hB
    go_wp2_with fail
    go_loopw [7, 8, 9, 10] (fun v i _ _ wr => RRRel ks m f s n N w2 v i wr) (fun _ i _ _ _ => N - (intOf i).toNat)
    case atStart => exact ⟨0, by omega, rfl, by simp [World.ownsRow], Ext.refl _⟩
    case round =>
      obtain ⟨k, hk, rfl, hown, hE⟩ := hrel
      have l0 : wr.cell? ⟨B, 0, none⟩ = some (.slice p n cap) := hE.cell (cell_of_row _ _ _ _ _ _ Hnew.out)
      have hsk := Hsum.out k
      have Hown := Lib.hid hown
      have HE := Lib.hid hE
      clear hown hE
      by_cases hlt : k < N
      · have hle := hsk.2 hlt
        have i1 : IntKind.i64.wrap ((k : Int) + n) = (k : Int) + n := IntWalk.i64_in _ ⟨by omega, by omega⟩
        have hstep : ((List.range (k + 1)).map (rareV ks m f s n)).map In = ((List.range k).map (rareV ks m f s n)).map In ++ [.int .i64 (rareV ks m f s n k)] := by rw [List.range_succ, List.map_append, List.map_append]; rfl
        have hrv : rareV ks m f s n k = cnt (fun j => inB ks (f j) m && has (f j) (byteV s (k + j))) n := rfl
        have hrb := rareV_le ks m f s n k
        generalize rareV ks m f s n k = q at *
        generalize ((List.range k).map (rareV ks m f s n)).map In = xs at *
        have Hs0 := Lib.hid hstep
        have Hrv := Lib.hid hrv
        obtain ⟨wo, rfl⟩ : ∃ wo : World, wo = wr := ⟨_, rfl⟩
        clear hstep hrv hsk
        go_wp2_with fail
        go_loopw [9, 10] (fun c j wr => RRIn (fun j => inB ks (f j) m && has (f j) (byteV s (k + j))) n wo c j wr) (fun _ j _ => n - (intOf j).toNat)
        case atStart => exact ⟨0, by omega, rfl, rfl, Ext.refl _⟩
        case round =>
          obtain ⟨t, ht, rfl, rfl, hEt⟩ := hrel
          have hcl := cnt_le (fun j => inB ks (f j) m && has (f j) (byteV s (k + j))) t
          have m0 := hEt.cell l0
          have m1 : wr.cell? ⟨B, 1, none⟩ = some (.int .i64 K) := hEt.cell (HE.out.cell (cell_of_row _ _ _ _ _ _ Hnew.out))
          have HE4 := Lib.hid hEt
          clear hEt
          by_cases hlt2 : t < n
          · obtain ⟨bb, off, rfl, hd⟩ := (Hr.out.ext ((HE2.out.trans HE.out).trans HE4.out)).at hlt2
            obtain ⟨qq, hq⟩ : ∃ qq : Nat, qq = k + t := ⟨_, rfl⟩
            have hqs : qq < s.size := by omega
            have hbv := byteV_eq hqs
            have i3 : IntKind.i64.wrap ((k : Int) + t) = qq := by rw [IntWalk.i64_in _ ⟨by omega, by omega⟩]; omega
            have hstep : cnt (fun j => inB ks (f j) m && has (f j) (byteV s (k + j))) (t + 1) = cnt (fun j => inB ks (f j) m && has (f j) (byteV s (k + j))) t + if (inB ks (f t) m && has (f t) (byteV s (k + t))) = true then 1 else 0 := rfl
            rw [← hq] at hstep
            have Hh := Lib.hid (fun W => refhas_any (f t) (Hcls.out t) (byteV s qq) (byteV_lt s qq) W)
            have Hin2 := Lib.hid (fun W (hW : Ext wr W) => Hin.out (f t) W (((HE2.out.trans HE.out).trans HE4.out).trans hW))
            generalize f t = d at *
            have HS : Hid (HeldQ B bb (off + t * 4) (some ⟨bb, off, none⟩) n cap K d wr wr) := ⟨Ext.refl _, m0, m1, hd.1, hd.2.1, hd.2.2.1, hd.2.2.2⟩
            generalize cnt (fun j => inB ks (f j) m && has (f j) (byteV s (k + j))) t = z at *
            generalize hx1 : inB ks d m = x1 at *
            generalize hx2 : has d (byteV s qq) = x2 at *
            have b1 : (0 : Int) ≤ (t : Int) := by omega
            have b2 : (t : Int) < (n : Int) := by omega
            have b3 : (0 : Int) ≤ (qq : Int) := by omega
            have b4 : (qq : Int) < (s.size : Int) := by omega
            have Hs := Lib.hid hstep
            clear hstep hd hx1 hx2 hq
            cases x1
            · go_wp2_with fail
              clear m0 m1
              refine wp_region_permY (S := fun W' => Ext wr W' ∧ W'.cell? ⟨B, 0, none⟩ = some (.slice (some ⟨bb, off, none⟩) n cap) ∧ W'.cell? ⟨B, 1, none⟩ = some (.int .i64 K) ∧ W'.cell? ⟨bb, off + t * 4, none⟩ = some (.int .u64 d.w0) ∧ W'.cell? ⟨bb, off + t * 4 + 1, none⟩ = some (.int .u64 d.w1) ∧ W'.cell? ⟨bb, off + t * 4 + 2, none⟩ = some (.int .u64 d.w2) ∧ W'.cell? ⟨bb, off + t * 4 + 3, none⟩ = some (.int .u64 d.w3))
                [(0, true), (1, true), (2, true), (3, true), (4, true), (5, true), (6, false), (7, true), (8, true), (9, true), (10, true), (11, true), (12, true), (13, true), (14, true), (15, true), (16, true), (17, true), (18, true), (19, true)] (by kernel_rfl) rfl (by kernel_rfl) (by kernel_rfl) (HeldQ.ext HS.out (Ext.refl wr).drew) ?_
              refine wpPermY_take rfl rfl (.slice pk m ck) (fun W' hS => ?_) (fun Kt hK => ?_)
              · obtain ⟨s0, s1, s2, s3, s4, s5, s6⟩ := hS; go_simp
              go_simp
              refine hK _ _ ?_
              clear hK Kt
              refine wpPermY_take rfl rfl (.pointer (some ⟨B, 0, none⟩)) (fun W' hS => ?_) (fun Kt hK => ?_)
              · obtain ⟨s0, s1, s2, s3, s4, s5, s6⟩ := hS; go_simp
              go_simp
              refine hK _ _ ?_
              clear hK Kt
              refine wpPermY_take rfl rfl (.slice (some ⟨bb, off, none⟩) n cap) (fun W' hS => ?_) (fun Kt hK => ?_)
              · obtain ⟨s0, s1, s2, s3, s4, s5, s6⟩ := hS; go_simp
              go_simp
              refine hK _ _ ?_
              clear hK Kt
              refine wpPermY_take rfl rfl (.int .i64 t) (fun W' hS => ?_) (fun Kt hK => ?_)
              · obtain ⟨s0, s1, s2, s3, s4, s5, s6⟩ := hS; go_simp
              go_simp
              refine hK _ _ ?_
              clear hK Kt
              refine wpPermY_take rfl rfl (.pointer (some ⟨bb, off + t * 4, none⟩)) (fun W' hS => ?_) (fun Kt hK => ?_)
              · obtain ⟨s0, s1, s2, s3, s4, s5, s6⟩ := hS; go_simp
              go_simp
              refine hK _ _ ?_
              clear hK Kt
              refine wpPermY_take rfl rfl (d.val) (fun W' hS => ?_) (fun Kt hK => ?_)
              · obtain ⟨s0, s1, s2, s3, s4, s5, s6⟩ := hS; go_simp
              go_simp
              refine hK _ _ ?_
              clear hK Kt
              refine wpPermY_bar rfl rfl (fun Kt hK => ?_)
              go_simp
              refine Calls.mono (Hin2.out _ (Ext.refl wr).drew) ?_
              rintro e w3 ⟨rfl, hb2⟩
              have hH3 := HeldQ.ext (HeldQ.ext HS.out (Ext.refl wr).drew) hb2
              refine hK _ _ hH3 ?_
              clear hK Kt
              refine wpPermY_take rfl rfl (.bool false) (fun W' hS => ?_) (fun Kt hK => ?_)
              · obtain ⟨s0, s1, s2, s3, s4, s5, s6⟩ := hS; go_simp
              go_simp
              refine hK _ _ ?_
              clear hK Kt
              refine wpPermY_skip rfl rfl (fun Kt hK => ?_)
              go_simp
              refine hK _ _ ?_
              clear hK Kt
              refine wpPermY_skip rfl rfl (fun Kt hK => ?_)
              go_simp
              refine hK _ _ ?_
              clear hK Kt
              refine wpPermY_skip rfl rfl (fun Kt hK => ?_)
              go_simp
              refine hK _ _ ?_
              clear hK Kt
              refine wpPermY_skip rfl rfl (fun Kt hK => ?_)
              go_simp
              refine hK _ _ ?_
              clear hK Kt
              refine wpPermY_skip rfl rfl (fun Kt hK => ?_)
              go_simp
              refine hK _ _ ?_
              clear hK Kt
              refine wpPermY_skip rfl rfl (fun Kt hK => ?_)
              go_simp
              refine hK _ _ ?_
              clear hK Kt
              refine wpPermY_skip rfl rfl (fun Kt hK => ?_)
              go_simp
              refine hK _ _ ?_
              clear hK Kt
              refine wpPermY_skip rfl rfl (fun Kt hK => ?_)
              go_simp
              refine hK _ _ ?_
              clear hK Kt
              refine wpPermY_skip rfl rfl (fun Kt hK => ?_)
              go_simp
              refine hK _ _ ?_
              clear hK Kt
              refine wpPermY_skip rfl rfl (fun Kt hK => ?_)
              go_simp
              refine hK _ _ ?_
              clear hK Kt
              refine wpPermY_skip rfl rfl (fun Kt hK => ?_)
              go_simp
              refine hK _ _ ?_
              clear hK Kt
              refine wpPermY_take rfl rfl (.bool false) (fun W' hS => ?_) (fun Kt hK => ?_)
              · obtain ⟨s0, s1, s2, s3, s4, s5, s6⟩ := hS; go_simp
              go_simp
              refine hK _ _ ?_
              clear hK Kt
              refine wpPermY_end (NoPanic.normal ?_)
              have HE3 := Lib.hid (HE4.out.trans hH3.1)
              clear HS hH3 hb2
              go_wp2_with fail
              go_roundw
              case rel => exact ⟨t + 1, by omega, by go_num, by rw [Hs.out]; rfl, HE3.out⟩
              case measure => simp [intOf]; omega
            · go_wp2_with fail
              clear m0 m1
              refine wp_region_permY (S := fun W' => Ext wr W' ∧ W'.cell? ⟨B, 0, none⟩ = some (.slice (some ⟨bb, off, none⟩) n cap) ∧ W'.cell? ⟨B, 1, none⟩ = some (.int .i64 K) ∧ W'.cell? ⟨bb, off + t * 4, none⟩ = some (.int .u64 d.w0) ∧ W'.cell? ⟨bb, off + t * 4 + 1, none⟩ = some (.int .u64 d.w1) ∧ W'.cell? ⟨bb, off + t * 4 + 2, none⟩ = some (.int .u64 d.w2) ∧ W'.cell? ⟨bb, off + t * 4 + 3, none⟩ = some (.int .u64 d.w3))
                [(0, true), (1, true), (2, true), (3, true), (4, true), (5, true), (6, false), (7, true), (8, true), (9, true), (10, true), (11, true), (12, true), (13, true), (14, true), (15, true), (16, true), (17, true), (18, false), (19, true)] (by kernel_rfl) rfl (by kernel_rfl) (by kernel_rfl) (HeldQ.ext HS.out (Ext.refl wr).drew) ?_
              refine wpPermY_take rfl rfl (.slice pk m ck) (fun W' hS => ?_) (fun Kt hK => ?_)
              · obtain ⟨s0, s1, s2, s3, s4, s5, s6⟩ := hS; go_simp
              go_simp
              refine hK _ _ ?_
              clear hK Kt
              refine wpPermY_take rfl rfl (.pointer (some ⟨B, 0, none⟩)) (fun W' hS => ?_) (fun Kt hK => ?_)
              · obtain ⟨s0, s1, s2, s3, s4, s5, s6⟩ := hS; go_simp
              go_simp
              refine hK _ _ ?_
              clear hK Kt
              refine wpPermY_take rfl rfl (.slice (some ⟨bb, off, none⟩) n cap) (fun W' hS => ?_) (fun Kt hK => ?_)
              · obtain ⟨s0, s1, s2, s3, s4, s5, s6⟩ := hS; go_simp
              go_simp
              refine hK _ _ ?_
              clear hK Kt
              refine wpPermY_take rfl rfl (.int .i64 t) (fun W' hS => ?_) (fun Kt hK => ?_)
              · obtain ⟨s0, s1, s2, s3, s4, s5, s6⟩ := hS; go_simp
              go_simp
              refine hK _ _ ?_
              clear hK Kt
              refine wpPermY_take rfl rfl (.pointer (some ⟨bb, off + t * 4, none⟩)) (fun W' hS => ?_) (fun Kt hK => ?_)
              · obtain ⟨s0, s1, s2, s3, s4, s5, s6⟩ := hS; go_simp
              go_simp
              refine hK _ _ ?_
              clear hK Kt
              refine wpPermY_take rfl rfl (d.val) (fun W' hS => ?_) (fun Kt hK => ?_)
              · obtain ⟨s0, s1, s2, s3, s4, s5, s6⟩ := hS; go_simp
              go_simp
              refine hK _ _ ?_
              clear hK Kt
              refine wpPermY_bar rfl rfl (fun Kt hK => ?_)
              go_simp
              refine Calls.mono (Hin2.out _ (Ext.refl wr).drew) ?_
              rintro e w3 ⟨rfl, hb2⟩
              have hH3 := HeldQ.ext (HeldQ.ext HS.out (Ext.refl wr).drew) hb2
              refine hK _ _ hH3 ?_
              clear hK Kt
              refine wpPermY_take rfl rfl (.bool true) (fun W' hS => ?_) (fun Kt hK => ?_)
              · obtain ⟨s0, s1, s2, s3, s4, s5, s6⟩ := hS; go_simp
              go_simp
              refine hK _ _ ?_
              clear hK Kt
              refine wpPermY_take rfl rfl (.pointer (some ⟨B, 0, none⟩)) (fun W' hS => ?_) (fun Kt hK => ?_)
              · obtain ⟨s0, s1, s2, s3, s4, s5, s6⟩ := hS; go_simp
              go_simp
              refine hK _ _ ?_
              clear hK Kt
              refine wpPermY_take rfl rfl (.slice (some ⟨bb, off, none⟩) n cap) (fun W' hS => ?_) (fun Kt hK => ?_)
              · obtain ⟨s0, s1, s2, s3, s4, s5, s6⟩ := hS; go_simp
              go_simp
              refine hK _ _ ?_
              clear hK Kt
              refine wpPermY_take rfl rfl (.int .i64 t) (fun W' hS => ?_) (fun Kt hK => ?_)
              · obtain ⟨s0, s1, s2, s3, s4, s5, s6⟩ := hS; go_simp
              go_simp
              refine hK _ _ ?_
              clear hK Kt
              refine wpPermY_take rfl rfl (.pointer (some ⟨bb, off + t * 4, none⟩)) (fun W' hS => ?_) (fun Kt hK => ?_)
              · obtain ⟨s0, s1, s2, s3, s4, s5, s6⟩ := hS; go_simp
              go_simp
              refine hK _ _ ?_
              clear hK Kt
              refine wpPermY_take rfl rfl (d.val) (fun W' hS => ?_) (fun Kt hK => ?_)
              · obtain ⟨s0, s1, s2, s3, s4, s5, s6⟩ := hS; go_simp
              go_simp
              refine hK _ _ ?_
              clear hK Kt
              refine wpPermY_take rfl rfl (.string s) (fun W' hS => ?_) (fun Kt hK => ?_)
              · obtain ⟨s0, s1, s2, s3, s4, s5, s6⟩ := hS; go_simp
              go_simp
              refine hK _ _ ?_
              clear hK Kt
              refine wpPermY_take rfl rfl (.int .i64 k) (fun W' hS => ?_) (fun Kt hK => ?_)
              · obtain ⟨s0, s1, s2, s3, s4, s5, s6⟩ := hS; go_simp
              go_simp
              refine hK _ _ ?_
              clear hK Kt
              refine wpPermY_take rfl rfl (.int .i64 t) (fun W' hS => ?_) (fun Kt hK => ?_)
              · obtain ⟨s0, s1, s2, s3, s4, s5, s6⟩ := hS; go_simp
              go_simp
              refine hK _ _ ?_
              clear hK Kt
              refine wpPermY_take rfl rfl (.int .i64 qq) (fun W' hS => ?_) (fun Kt hK => ?_)
              · obtain ⟨s0, s1, s2, s3, s4, s5, s6⟩ := hS; go_simp
              go_simp
              refine hK _ _ ?_
              clear hK Kt
              refine wpPermY_take rfl rfl (.int .u8 (byteV s qq)) (fun W' hS => ?_) (fun Kt hK => ?_)
              · obtain ⟨s0, s1, s2, s3, s4, s5, s6⟩ := hS; go_simp
              go_simp
              refine hK _ _ ?_
              clear hK Kt
              refine wpPermY_bar rfl rfl (fun Kt hK => ?_)
              go_simp
              refine Calls.mono (Hh.out _) ?_
              rintro e w4 ⟨rfl, hb3⟩
              have hH4 := HeldQ.ext hH3 hb3
              refine hK _ _ hH4 ?_
              clear hK Kt
              refine wpPermY_take rfl rfl (.bool x2) (fun W' hS => ?_) (fun Kt hK => ?_)
              · obtain ⟨s0, s1, s2, s3, s4, s5, s6⟩ := hS; go_simp
              go_simp
              refine hK _ _ ?_
              clear hK Kt
              refine wpPermY_end (NoPanic.normal ?_)
              have HE3 := Lib.hid (HE4.out.trans hH4.1)
              clear HS hH3 hH4 hb2 hb3
              cases x2
              · go_wp2_with fail
                go_roundw
                case rel => exact ⟨t + 1, by omega, by go_num, by rw [Hs.out]; rfl, HE3.out⟩
                case measure => simp [intOf]; omega
              · go_wp2_with fail
                go_roundw
                case rel => exact ⟨t + 1, by omega, by go_num, by rw [Hs.out]; go_num, HE3.out⟩
                case measure => simp [intOf]; omega
          · have e : t = n := by omega
            subst e
            rw [← Hrv.out]
            have HE3 := Lib.hid (HE.out.trans HE4.out)
            have Hown3 := Lib.hid (HE4.out.owns Hown.out)
            have hsz := HE3.out.size
            clear m1 l0
            go_wp2_with (at_builtin; refine wpList_append_own _ rfl (.tmp 53) (.tmp 55) 35 rfl w2.heap.size 3 i0 (.int .i64 0) 1 8 Try.underlying35 hi hz0 hz1 hz2 rfl (by decide) _ _ _ rfl (Hown3.out.alloc _) ⟨wr.heap.size, 0, none⟩ 1 1 [.int .i64 q] rfl rfl ?c1 ?c2 ?c3 ?c4 ?c5 ?_)
            case c1 => exact one_new _ _ _
            case c2 => intro u hu; rw [List.mem_singleton.1 hu]; rfl
            case c3 => unfold maxLen; omega
            case c4 => omega
            case c5 => simp; omega
            intro v' w3 hown3 hgrow _
            have hE3 : Ext w2 w3 := (HE3.out.alloc _).grown hgrow (fun q hq => (Hown3.out.lt q hq).1)
            have Hown4 := Lib.hid hown3
            clear hown3 hgrow
            go_wp2
            go_roundw
            case rel => exact ⟨k + 1, by omega, by go_num, by rw [Hs0.out]; exact Hown4.out, hE3⟩
            case measure => simp [intOf]; omega
      · have e : k = N := by omega
        subst e
        have hgt : (s.size : Int) < (k : Int) + n := by
          have := hsk.1
          omega
        have i1 : IntKind.i64.wrap ((k : Int) + n) = (k : Int) + n := IntWalk.i64_in _ ⟨by omega, by omega⟩
        clear hsk
        go_wp2_with fail
        go_ret
        exact ⟨_, rfl, ownsRow_lower Hown.out HE2.out.size, HE2.out.trans HE.out⟩
end Go.Proofs.Ytmadelflnjhibaa
