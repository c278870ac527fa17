import Derived.Test.YtmadelflnjhibaaText
namespace Go.Proofs.Ytmadelflnjhibaa
open Go.RowKit

def okB (c : Cls) : Bool := decide (0 ≤ c.w0 ∧ c.w0 ≤ 18446744073709551615 ∧ 0 ≤ c.w1 ∧ c.w1 ≤ 18446744073709551615 ∧ 0 ≤ c.w2 ∧ c.w2 ≤ 18446744073709551615 ∧ 0 ≤ c.w3 ∧ c.w3 ≤ 18446744073709551615)
theorem ok_of_B {c : Cls} (h : okB c = true) : c.ok := by
  have h := of_decide_eq_true h
  intro k
  unfold Cls.word
  split
  · omega
  · split
    · omega
    · split <;> omega
theorem none_ok : clsNone.ok := ok_of_B (by decide)
theorem all_ok : clsAll.ok := ok_of_B (by decide)
theorem one_ok (b : Nat) (hb : b < 256) : (oneV b).ok := by
  have key : ((List.range 256).all fun b => okB (oneV b)) = true := by kernel_rfl
  rw [List.all_eq_true] at key
  exact ok_of_B (key b (List.mem_range.2 hb))
theorem txtL_ok (s : ByteArray) (n j : Nat) : ((txtL s n).getD j clsNone).ok := by
  by_cases h : j < n
  · have : (txtL s n).getD j clsNone = oneV (byteV s j) := by
      unfold txtL
      rw [List.getD_eq_getElem?_getD, List.getElem?_map, List.getElem?_range h]
      rfl
    rw [this]
    exact one_ok _ (byteV_lt s j)
  · have : (txtL s n).getD j clsNone = clsNone := by
      rw [List.getD_eq_getElem?_getD, List.getElem?_eq_none (by unfold txtL; simp; omega)]
      rfl
    rw [this]
    exact none_ok

/-- The elements of a text. -/
def fT (s : ByteArray) (j : Nat) : Cls := (txtL s s.size).getD j clsNone
def sAB : ByteArray := ⟨#[97, 98]⟩
def sABBB : ByteArray := ⟨#[97, 98, 98, 98]⟩
def sA : ByteArray := ⟨#[97]⟩
def sB : ByteArray := ⟨#[98]⟩
def sABA : ByteArray := ⟨#[97, 98, 97]⟩

theorem k1 : checkV (fT sAB) 2 1 4 4 = 0 := by kernel_rfl
theorem k2 : checkV (fT sAB) 2 1 4 3 = 50 := by kernel_rfl
theorem k3 (f : Nat → Cls) : checkV f 0 0 1 1 = 170 := by kernel_rfl
theorem k4 : cntsL (fT sAB) sABBB 2 1 0 = [0, 1, 1] := by kernel_rfl
theorem k5 : cntsN (fT sAB) 2 4 4 0 = 18 := by kernel_rfl
theorem k6 : fndL (fT sAB) sABBB 2 1 0 = [0, 1, 2] := by kernel_rfl
theorem k7 : sameB 3 3 (IL [0, 1, 1]) (IL [0, 1, 1]) = true := by kernel_rfl
theorem k8 : (List.range 3).map (fun j => one (has (ofV sA 1) (byteV sABA j))) = [1, 0, 1] := by kernel_rfl
theorem k9 : (List.range 2).map (fun j => one (decide (fT sAB j = ofV sB 1))) = [0, 1] := by kernel_rfl
end Go.Proofs.Ytmadelflnjhibaa
